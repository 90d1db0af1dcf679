/- The walk of PlanLeast: no other way has a lesser sum. -/
import Derived.Test.YthabjnppmhlomaaDoorPnO
namespace Go.Proofs.YthabjnppmhlomaaDoor
open Go Go.RowKit
set_option linter.unusedVariables false
theorem ord_sum {t u : Tr} (h : ordT t u ≤ 0) : t.sum ≤ u.sum ∧ (t.sum < u.sum ∨ t.path.length ≤ u.path.length) := by
  by_cases h1 : t.sum < u.sum
  · exact ⟨by omega, .inl h1⟩
  · by_cases h2 : u.sum < t.sum
    · have e : sgnI t.sum u.sum = 1 := by unfold sgnI; rw [if_neg h1, if_pos h2]
      unfold ordT at h
      rw [e] at h
      unfold orI at h
      rw [if_neg (by decide)] at h
      omega
    · have e : sgnI t.sum u.sum = 0 := sgnI_zero.2 (by omega)
      refine ⟨by omega, .inr ?_⟩
      by_cases h3 : u.path.length < t.path.length
      · have e2 : sgnI t.path.length u.path.length = 1 := by unfold sgnI; rw [if_neg (by omega), if_pos (by omega)]
        unfold ordT at h
        rw [e, e2] at h
        unfold orI at h
        rw [if_pos rfl, if_neg (by decide)] at h
        omega
      · omega
set_option maxRecDepth 100000 in
set_option maxHeartbeats 2000000 in
theorem walkPlanLeast (w : World) (vl : Value) (L : List Eg) (hr : RowS eC w vl L) (hgood : ∀ e ∈ L, eG e) (tgt : Int) (bd : -9223372036854775808 ≤ tgt ∧ tgt ≤ 9223372036854775807)
    (vo : Value) (os : List Int) (hro : RowZ w vo os) (hob : ∀ n ∈ os, -9223372036854775808 ≤ n ∧ n ≤ 9223372036854775807) (ea : Nat → Addr) (he9 : ErrAt w 0 (ea 9)) (he14 : ErrAt w 1 (ea 14)) :
    Calls Tryd.prog 3 #[vl, .int .i64 tgt, vo] w fun e w' => e = .returned (.bool true) ∧ Below w.heap.size w w' := by
  clear hgood he9
  have HA := Lib.hid (alive35 w ea he14)
  obtain ⟨la, lc, rfl, hml, -⟩ := hr.shape eC_len
  obtain ⟨oa, oc, rfl, hmo, -⟩ := hro.gen.shape
  unfold maxLen at hml hmo
  have HR : Hid (∀ W, Below w.heap.size w W → RowS eC W (.slice la L.length lc) L) := fun W hb => hr.stays hb
  have HO : Hid (∀ W, Below w.heap.size w W → RowZ W (.slice oa os.length oc) os) := fun W hb => Row.stays hro hb
  have HE14 : Hid (∀ W, Below w.heap.size w W → ErrAt W 1 (ea 14)) := fun W hb => he14.stays hb
  have HOB := Lib.hid hob
  clear hr hro he14 hob
  go_enter Tryd.func3, Tryd.ntmps3
  go_wp2_with fail
  refine HA.out.mono ?_
  rintro e w1 ⟨rfl, hb1⟩
  clear HA
  by_cases hl : 60 < L.length
  · go_wp2_with fail
    go_ret
    exact ⟨rfl, hb1⟩
  · by_cases hl2 : 60 < os.length
    · go_wp2_with fail
      go_ret
      exact ⟨rfl, hb1⟩
    · have HRI := Lib.hid (right_any (HR.out w1 hb1) (by omega))
      cases hR : rightL L with
      | false =>
        rw [hR] at HRI
        clear hR
        go_wp2_with fail
        refine HRI.out.mono ?_
        rintro e w2 ⟨rfl, hb2⟩
        have hbb := hb1.trans (hb2.mono hb1.size)
        clear hb2 HRI
        go_wp2_with fail
        go_ret
        exact ⟨rfl, hbb⟩
      | true =>
        rw [hR] at HRI
        have HRE : Hid (RightE L) := (rightL_iff L).1 hR
        have HRT : Hid (rightL L = true) := hR
        clear hR
        go_wp2_with fail
        refine HRI.out.mono ?_
        rintro e w2 ⟨rfl, hb2⟩
        have hbb := hb1.trans (hb2.mono hb1.size)
        have HWY := Lib.hid (way_ok HRT.out (by omega) (HR.out w2 hbb) tgt bd ea (HE14.out w2 hbb))
        clear hb2 HRI hb1
        go_wp2_with fail
        refine HWY.out.mono ?_
        rintro e w3 ⟨B, v, xs, s, k, rfl, hle, hrv, hb3, hcase⟩
        have hb3' := hbb.trans (hb3.mono hbb.size)
        have HW2 := Lib.hid (walk_any HRE.out (by omega) (HR.out w3 hb3') os (HO.out w3 hb3') HOB.out (by omega) tgt)
        rcases hcase with ⟨t, ht, rfl, rfl, rfl⟩ | ⟨ht, rfl, rfl, rfl⟩
        · rw [EV_zero]
          obtain ⟨hT, htt, htp⟩ := (hle tgt).1 t ht
          have htb := hT.bd HRE.out
          obtain ⟨av, cv, rfl, -, -⟩ := hrv.gen.shape
          have hwv := walkV_of hT
          have hw1 := walk_any HRE.out (by omega) (HR.out w3 hb3') t.path hrv (fun x hx => by have := htb.2.2.2.2.2.2.2 x hx; exact ⟨by omega, by omega⟩) (by omega) tgt
          rw [walkS_some hwv, walkB_some hwv] at hw1
          have hpl : 0 < t.path.length := List.length_pos_iff.2 htp
          rw [decide_eq_true hpl, Bool.true_and, show (t.to == tgt) = true from by simpa using htt] at hw1
          have HW1 := Lib.hid hw1
          have ts1 : 0 ≤ t.sum := htb.2.2.2.1
          have ts2 : t.sum ≤ 420478976 := by have h1 := htb.2.2.2.2.1; have h2 := htb.2.2.1; omega
          have tpl : t.path.length ≤ 401 := by omega
          have hcmp : walkB L os tgt = true → t.sum ≤ walkS L os ∧ (t.sum < walkS L os ∨ t.path.length ≤ os.length) := fun hb => by
            unfold walkB at hb
            cases hq : walkV L trip0 os with
            | none => rw [hq] at hb; cases hb
            | some u =>
              rw [hq] at hb
              simp only [Bool.and_eq_true, decide_eq_true_eq, beq_iff_eq] at hb
              obtain ⟨hu1, hu2⟩ := walkV_T os trip0 u .start hq
              have hu3 : u.path = os := by rw [hu2]; rfl
              obtain ⟨t', ht', hor⟩ := (hle tgt).2 u hu1 hb.2 (by rw [hu3]; exact List.length_pos_iff.1 hb.1)
              rw [ht] at ht'; cases ht'
              have := ord_sum hor
              rw [walkS_some hq, ← hu3]
              exact this
          have HCMP := Lib.hid hcmp
          clear hle hrv hb3 ht hT htt htp htb hwv hw1 hcmp HWY
          go_wp2_with fail
          refine HW1.out.mono ?_
          rintro e w4 ⟨rfl, rfl⟩
          clear HW1
          go_wp2_with fail
          refine HW2.out.mono ?_
          rintro e w4 ⟨rfl, rfl⟩
          clear HW2
          obtain ⟨S, hS⟩ : ∃ S, S = walkS L os := ⟨_, rfl⟩
          cases hB : walkB L os tgt with
          | false =>
            clear hB hS HCMP
            go_wp2_with fail
            go_ret
            exact ⟨rfl, hb3'⟩
          | true =>
            obtain ⟨h1, h2⟩ := HCMP.out hB
            rw [← hS] at h1 h2 ⊢
            clear hS hB HCMP
            by_cases h3 : t.sum < S
            · clear h2
              go_wp2_with fail
              go_ret
              exact ⟨rfl, hb3'⟩
            · have h4 : t.path.length ≤ os.length := by omega
              clear h2
              go_wp2_with fail
              go_ret
              exact ⟨rfl, hb3'⟩
        · have hno : walkB L os tgt = false := by
            cases hB : walkB L os tgt with
            | false => rfl
            | true =>
              unfold walkB at hB
              cases hq : walkV L trip0 os with
              | none => rw [hq] at hB; cases hB
              | some u =>
                rw [hq] at hB
                simp only [Bool.and_eq_true, decide_eq_true_eq, beq_iff_eq] at hB
                obtain ⟨hu1, hu2⟩ := walkV_T os trip0 u .start hq
                have hu3 : u.path = os := by rw [hu2]; rfl
                obtain ⟨t', ht', hor⟩ := (hle tgt).2 u hu1 hB.2 (by rw [hu3]; exact List.length_pos_iff.1 hB.1)
                rw [ht] at ht'; cases ht'
          rw [hno] at HW2
          rw [EV_pos ea (show (14 : Nat) ≠ 0 by decide)]
          obtain ⟨av, cv, rfl, -, -⟩ := hrv.gen.shape
          have HW1 := Lib.hid (walk_any HRE.out (by omega) (HR.out w3 hb3') [] hrv (fun x hx => by cases hx) (by decide) tgt)
          clear hle hrv hb3 ht hno HWY
          go_wp2_with fail
          refine HW1.out.mono ?_
          rintro e w4 ⟨rfl, rfl⟩
          clear HW1
          go_wp2_with fail
          refine HW2.out.mono ?_
          rintro e w4 ⟨rfl, rfl⟩
          clear HW2
          go_wp2_with fail
          go_ret
          exact ⟨rfl, hb3'⟩
end Go.Proofs.YthabjnppmhlomaaDoor
