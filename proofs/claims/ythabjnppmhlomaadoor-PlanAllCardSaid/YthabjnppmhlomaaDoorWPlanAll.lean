/- The walk of PlanAll: the cheapest ways to all versions, and their edges. -/
import Derived.Test.YthabjnppmhlomaaDoorPnV
import Derived.Test.YthabjnppmhlomaaDoorErrs
namespace Go.Proofs.YthabjnppmhlomaaDoor
open Go Go.RowKit
set_option linter.unusedVariables false
theorem infoBo : (Tryd.prog.info? 4).map (fun i => (i.zero, i.size, i.bytes)) = some (some (.bool false), 1, 1) := by kernel_rfl
theorem cellB {W W' : World} (h : Below W.heap.size W W') {p : Addr} {u : Value} (hc : W.cell? p = some u) : W'.cell? p = some u := (h.cell (p := p) (World.block_lt_of_cell? W p hc)).trans hc
/-- which edges are used so far -/
def UR (B : Int → Option Tr) (N gu : Nat) (W8 : World) (v m : Nat) (wr : World) : Prop := OwnL 4 Value.bool W8.heap.size wr (.slice (some ⟨gu, 0, none⟩) N N) (usedL B N v m) ∧ Below W8.heap.size W8 wr ∧ W8.heap.size ≤ gu
set_option maxRecDepth 100000 in
set_option maxHeartbeats 4000000 in
theorem walkPlanAll (w : World) (vl : Value) (L : List Eg) (hr : RowS eC w vl L) (hgood : ∀ e ∈ L, eG e) (nv : Int) (bd : -9223372036854775808 ≤ nv ∧ nv ≤ 9223372036854775807) (ea : Nat → Addr) (he : ErrsAll ea w) :
    Calls Tryd.prog 5 #[vl, .int .i64 nv] w fun e w' => e = .returned (.bool true) ∧ Below w.heap.size w w' := by
  clear hgood
  have HA := Lib.hid (alive35 w ea he.e14)
  obtain ⟨la, lc, rfl, hml, -⟩ := hr.shape eC_len
  unfold maxLen at hml
  have HR : Hid (∀ W, Below w.heap.size w W → RowS eC W (.slice la L.length lc) L) := fun W hb => hr.stays hb
  have HE : Hid (∀ W, Below w.heap.size w W → ErrsAll ea W) := fun W hb => he.stays hb
  have HBD := Lib.hid bd
  clear hr he bd
  go_enter Tryd.func5, Tryd.ntmps5
  go_wp2_with fail
  refine HA.out.mono ?_
  rintro e w1 ⟨rfl, hb1⟩
  clear HA
  by_cases hl : 60 < L.length
  · go_wp2_with fail
    go_ret
    exact ⟨rfl, hb1⟩
  · have hl3 : L.length ≤ 3000 := by omega
    have HL3 := Lib.hid hl3
    have HOF := Lib.hid (ofE_any (HR.out w1 hb1) hl3)
    clear hl3
    go_wp2_with fail
    refine HOF.out.mono ?_
    rintro e w2 ⟨v2, rfl, ho2, hb2⟩
    obtain ⟨oa, oc, rfl, -, -⟩ := ho2.row.shape eC_len
    have hb12 := hb1.trans (hb2.mono hb1.size)
    have HO2 : Hid (∀ W, Below w2.heap.size w2 W → RowS eC W (.slice oa L.length oc) L) := fun W hb => ho2.row.stays hb
    have HB12 := Lib.hid hb12
    clear HOF hb1 hb2 ho2 hb12
    have HRR : Hid (∀ W, Below w2.heap.size w2 W → Calls Tryd.prog 12 #[.slice oa L.length oc] W fun e w' => e = .returned (.bool (rightL L)) ∧ Below W.heap.size W w') := fun W hW => rright_any (HO2.out W hW) HL3.out
    cases hR : rightL L with
    | false =>
      by_cases c0 : nv < 0
      · have HALL : Hid (∀ W, Below w2.heap.size w2 W → Calls Tryd.prog 15 #[.slice la L.length lc, .int .i64 nv] W fun e w' => e = .returned (.tuple #[.slice none 0 0, EV ea 9]) ∧ Below W.heap.size W w') := fun W hW => pall_form hR HL3.out (HR.out W (HB12.out.trans (hW.mono HB12.out.size))) nv ea (HE.out W (HB12.out.trans (hW.mono HB12.out.size))).e9
        have HNEED : Hid (∀ W, Below w2.heap.size w2 W → Calls Tryd.prog 16 #[.slice la L.length lc, .int .i64 nv] W fun e w' => e = .returned (.tuple #[.slice none 0 0, EV ea 9]) ∧ Below W.heap.size W w') := fun W hW => need_bad 9 (by decide) ea nv (HALL.out W hW)
        have HNUM : Hid (∀ W, Below w2.heap.size w2 W → Calls Tryd.prog 14 #[EV ea 9] W fun e w' => e = .returned (.int .i64 9) ∧ Below W.heap.size W w') := fun W hW => by
          have h := num_any ea 9 (by decide) W (HE.out W (HB12.out.trans (hW.mono HB12.out.size)))
          rwa [show ((9 : Nat) : Int) = 9 from rfl] at h
        rw [hR] at HRR
        clear hR HR HE HL3 HO2
        obtain ⟨E9, hE9⟩ : ∃ E, E = EV ea 9 := ⟨_, rfl⟩
        rw [← hE9] at HALL HNEED HNUM
        clear hE9
        skip
        go_wp2_with fail
        refine (HALL.out _ (Below.refl _ _)).mono ?_
        rintro e w3 ⟨rfl, hb3⟩
        clear HALL
        go_wp2_with fail
        refine (HNEED.out _ hb3).mono ?_
        rintro e w4 ⟨rfl, hb4⟩
        have hb24 := hb3.trans (hb4.mono hb3.size)
        clear HNEED hb3 hb4
        go_wp2_with fail
        refine (HRR.out _ hb24).mono ?_
        rintro e w5 ⟨rfl, hb5⟩
        have hb25 := hb24.trans (hb5.mono hb24.size)
        clear HRR hb24 hb5
        go_wp2_with fail
        refine (HNUM.out _ hb25).mono ?_
        rintro e w6 ⟨rfl, hb6⟩
        have hb26 := hb25.trans (hb6.mono hb25.size)
        clear hb25 hb6
        go_wp2_with fail
        refine (HNUM.out _ hb26).mono ?_
        rintro e w7 ⟨rfl, hb7⟩
        have hb27 := hb26.trans (hb7.mono hb26.size)
        have HB27 := Lib.hid hb27
        clear hb26 hb7 HNUM hb27
        go_wp2_with fail
        go_ret
        exact ⟨by simp, HB12.out.trans (HB27.out.mono HB12.out.size)⟩
      · by_cases c1 : 400 < nv
        · have HALL : Hid (∀ W, Below w2.heap.size w2 W → Calls Tryd.prog 15 #[.slice la L.length lc, .int .i64 nv] W fun e w' => e = .returned (.tuple #[.slice none 0 0, EV ea 9]) ∧ Below W.heap.size W w') := fun W hW => pall_form hR HL3.out (HR.out W (HB12.out.trans (hW.mono HB12.out.size))) nv ea (HE.out W (HB12.out.trans (hW.mono HB12.out.size))).e9
          have HNEED : Hid (∀ W, Below w2.heap.size w2 W → Calls Tryd.prog 16 #[.slice la L.length lc, .int .i64 nv] W fun e w' => e = .returned (.tuple #[.slice none 0 0, EV ea 9]) ∧ Below W.heap.size W w') := fun W hW => need_bad 9 (by decide) ea nv (HALL.out W hW)
          have HNUM : Hid (∀ W, Below w2.heap.size w2 W → Calls Tryd.prog 14 #[EV ea 9] W fun e w' => e = .returned (.int .i64 9) ∧ Below W.heap.size W w') := fun W hW => by
            have h := num_any ea 9 (by decide) W (HE.out W (HB12.out.trans (hW.mono HB12.out.size)))
            rwa [show ((9 : Nat) : Int) = 9 from rfl] at h
          rw [hR] at HRR
          clear hR HR HE HL3 HO2
          obtain ⟨E9, hE9⟩ : ∃ E, E = EV ea 9 := ⟨_, rfl⟩
          rw [← hE9] at HALL HNEED HNUM
          clear hE9
          skip
          go_wp2_with fail
          refine (HALL.out _ (Below.refl _ _)).mono ?_
          rintro e w3 ⟨rfl, hb3⟩
          clear HALL
          go_wp2_with fail
          refine (HNEED.out _ hb3).mono ?_
          rintro e w4 ⟨rfl, hb4⟩
          have hb24 := hb3.trans (hb4.mono hb3.size)
          clear HNEED hb3 hb4
          go_wp2_with fail
          refine (HRR.out _ hb24).mono ?_
          rintro e w5 ⟨rfl, hb5⟩
          have hb25 := hb24.trans (hb5.mono hb24.size)
          clear HRR hb24 hb5
          go_wp2_with fail
          refine (HNUM.out _ hb25).mono ?_
          rintro e w6 ⟨rfl, hb6⟩
          have hb26 := hb25.trans (hb6.mono hb25.size)
          clear hb25 hb6
          go_wp2_with fail
          refine (HNUM.out _ hb26).mono ?_
          rintro e w7 ⟨rfl, hb7⟩
          have hb27 := hb26.trans (hb7.mono hb26.size)
          have HB27 := Lib.hid hb27
          clear hb26 hb7 HNUM hb27
          go_wp2_with fail
          go_ret
          exact ⟨by simp, HB12.out.trans (HB27.out.mono HB12.out.size)⟩
        · have HALL : Hid (∀ W, Below w2.heap.size w2 W → Calls Tryd.prog 15 #[.slice la L.length lc, .int .i64 nv] W fun e w' => e = .returned (.tuple #[.slice none 0 0, EV ea 9]) ∧ Below W.heap.size W w') := fun W hW => pall_form hR HL3.out (HR.out W (HB12.out.trans (hW.mono HB12.out.size))) nv ea (HE.out W (HB12.out.trans (hW.mono HB12.out.size))).e9
          have HNEED : Hid (∀ W, Below w2.heap.size w2 W → Calls Tryd.prog 16 #[.slice la L.length lc, .int .i64 nv] W fun e w' => e = .returned (.tuple #[.slice none 0 0, EV ea 9]) ∧ Below W.heap.size W w') := fun W hW => need_bad 9 (by decide) ea nv (HALL.out W hW)
          have HNUM : Hid (∀ W, Below w2.heap.size w2 W → Calls Tryd.prog 14 #[EV ea 9] W fun e w' => e = .returned (.int .i64 9) ∧ Below W.heap.size W w') := fun W hW => by
            have h := num_any ea 9 (by decide) W (HE.out W (HB12.out.trans (hW.mono HB12.out.size)))
            rwa [show ((9 : Nat) : Int) = 9 from rfl] at h
          rw [hR] at HRR
          clear hR HR HE HL3 HO2
          obtain ⟨E9, hE9⟩ : ∃ E, E = EV ea 9 := ⟨_, rfl⟩
          rw [← hE9] at HALL HNEED HNUM
          clear hE9
          skip
          go_wp2_with fail
          refine (HALL.out _ (Below.refl _ _)).mono ?_
          rintro e w3 ⟨rfl, hb3⟩
          clear HALL
          go_wp2_with fail
          refine (HNEED.out _ hb3).mono ?_
          rintro e w4 ⟨rfl, hb4⟩
          have hb24 := hb3.trans (hb4.mono hb3.size)
          clear HNEED hb3 hb4
          go_wp2_with fail
          refine (HRR.out _ hb24).mono ?_
          rintro e w5 ⟨rfl, hb5⟩
          have hb25 := hb24.trans (hb5.mono hb24.size)
          clear HRR hb24 hb5
          go_wp2_with fail
          refine (HNUM.out _ hb25).mono ?_
          rintro e w6 ⟨rfl, hb6⟩
          have hb26 := hb25.trans (hb6.mono hb25.size)
          clear hb25 hb6
          go_wp2_with fail
          refine (HNUM.out _ hb26).mono ?_
          rintro e w7 ⟨rfl, hb7⟩
          have hb27 := hb26.trans (hb7.mono hb26.size)
          have HB27 := Lib.hid hb27
          clear hb26 hb7 HNUM hb27
          go_wp2_with fail
          go_ret
          exact ⟨by simp, HB12.out.trans (HB27.out.mono HB12.out.size)⟩
    | true =>
      by_cases c0 : nv < 0
      · have HALL : Hid (∀ W, Below w2.heap.size w2 W → Calls Tryd.prog 15 #[.slice la L.length lc, .int .i64 nv] W fun e w' => e = .returned (.tuple #[.slice none 0 0, EV ea 1]) ∧ Below W.heap.size W w') := fun W hW => pall_range hR HL3.out (HR.out W (HB12.out.trans (hW.mono HB12.out.size))) nv (.inl c0) ea (HE.out W (HB12.out.trans (hW.mono HB12.out.size))).e1
        have HNEED : Hid (∀ W, Below w2.heap.size w2 W → Calls Tryd.prog 16 #[.slice la L.length lc, .int .i64 nv] W fun e w' => e = .returned (.tuple #[.slice none 0 0, EV ea 1]) ∧ Below W.heap.size W w') := fun W hW => need_bad 1 (by decide) ea nv (HALL.out W hW)
        have HNUM : Hid (∀ W, Below w2.heap.size w2 W → Calls Tryd.prog 14 #[EV ea 1] W fun e w' => e = .returned (.int .i64 1) ∧ Below W.heap.size W w') := fun W hW => by
          have h := num_any ea 1 (by decide) W (HE.out W (HB12.out.trans (hW.mono HB12.out.size)))
          rwa [show ((1 : Nat) : Int) = 1 from rfl] at h
        rw [hR] at HRR
        clear hR HR HE HL3 HO2
        obtain ⟨E9, hE9⟩ : ∃ E, E = EV ea 1 := ⟨_, rfl⟩
        rw [← hE9] at HALL HNEED HNUM
        clear hE9
        skip
        go_wp2_with fail
        refine (HALL.out _ (Below.refl _ _)).mono ?_
        rintro e w3 ⟨rfl, hb3⟩
        clear HALL
        go_wp2_with fail
        refine (HNEED.out _ hb3).mono ?_
        rintro e w4 ⟨rfl, hb4⟩
        have hb24 := hb3.trans (hb4.mono hb3.size)
        clear HNEED hb3 hb4
        go_wp2_with fail
        refine (HRR.out _ hb24).mono ?_
        rintro e w5 ⟨rfl, hb5⟩
        have hb25 := hb24.trans (hb5.mono hb24.size)
        clear HRR hb24 hb5
        go_wp2_with fail
        refine (HNUM.out _ hb25).mono ?_
        rintro e w6 ⟨rfl, hb6⟩
        have hb26 := hb25.trans (hb6.mono hb25.size)
        clear hb25 hb6
        go_wp2_with fail
        refine (HNUM.out _ hb26).mono ?_
        rintro e w7 ⟨rfl, hb7⟩
        have hb27 := hb26.trans (hb7.mono hb26.size)
        have HB27 := Lib.hid hb27
        clear hb26 hb7 HNUM hb27
        go_wp2_with fail
        go_ret
        exact ⟨by simp, HB12.out.trans (HB27.out.mono HB12.out.size)⟩
      · by_cases c1 : 400 < nv
        · have HALL : Hid (∀ W, Below w2.heap.size w2 W → Calls Tryd.prog 15 #[.slice la L.length lc, .int .i64 nv] W fun e w' => e = .returned (.tuple #[.slice none 0 0, EV ea 1]) ∧ Below W.heap.size W w') := fun W hW => pall_range hR HL3.out (HR.out W (HB12.out.trans (hW.mono HB12.out.size))) nv (.inr c1) ea (HE.out W (HB12.out.trans (hW.mono HB12.out.size))).e1
          have HNEED : Hid (∀ W, Below w2.heap.size w2 W → Calls Tryd.prog 16 #[.slice la L.length lc, .int .i64 nv] W fun e w' => e = .returned (.tuple #[.slice none 0 0, EV ea 1]) ∧ Below W.heap.size W w') := fun W hW => need_bad 1 (by decide) ea nv (HALL.out W hW)
          have HNUM : Hid (∀ W, Below w2.heap.size w2 W → Calls Tryd.prog 14 #[EV ea 1] W fun e w' => e = .returned (.int .i64 1) ∧ Below W.heap.size W w') := fun W hW => by
            have h := num_any ea 1 (by decide) W (HE.out W (HB12.out.trans (hW.mono HB12.out.size)))
            rwa [show ((1 : Nat) : Int) = 1 from rfl] at h
          rw [hR] at HRR
          clear hR HR HE HL3 HO2
          obtain ⟨E9, hE9⟩ : ∃ E, E = EV ea 1 := ⟨_, rfl⟩
          rw [← hE9] at HALL HNEED HNUM
          clear hE9
          skip
          go_wp2_with fail
          refine (HALL.out _ (Below.refl _ _)).mono ?_
          rintro e w3 ⟨rfl, hb3⟩
          clear HALL
          go_wp2_with fail
          refine (HNEED.out _ hb3).mono ?_
          rintro e w4 ⟨rfl, hb4⟩
          have hb24 := hb3.trans (hb4.mono hb3.size)
          clear HNEED hb3 hb4
          go_wp2_with fail
          refine (HRR.out _ hb24).mono ?_
          rintro e w5 ⟨rfl, hb5⟩
          have hb25 := hb24.trans (hb5.mono hb24.size)
          clear HRR hb24 hb5
          go_wp2_with fail
          refine (HNUM.out _ hb25).mono ?_
          rintro e w6 ⟨rfl, hb6⟩
          have hb26 := hb25.trans (hb6.mono hb25.size)
          clear hb25 hb6
          go_wp2_with fail
          refine (HNUM.out _ hb26).mono ?_
          rintro e w7 ⟨rfl, hb7⟩
          have hb27 := hb26.trans (hb7.mono hb26.size)
          have HB27 := Lib.hid hb27
          clear hb26 hb7 HNUM hb27
          go_wp2_with fail
          go_ret
          exact ⟨by simp, HB12.out.trans (HB27.out.mono HB12.out.size)⟩
        · obtain ⟨n, rfl⟩ : ∃ n : Nat, nv = n := ⟨nv.toNat, by omega⟩
          have hn : n ≤ 400 := by omega
          have HRE : Hid (RightE L) := (rightL_iff L).1 hR
          have HRT : Hid (rightL L = true) := hR
          have HALL : Hid (∀ W, Below w2.heap.size w2 W → Calls Tryd.prog 15 #[.slice la L.length lc, .int .i64 n] W (AllP L n W)) := fun W hW => pall_ok HRT.out HL3.out (HR.out W (HB12.out.trans (hW.mono HB12.out.size))) n hn
          have HNEED : Hid (∀ W, Below w2.heap.size w2 W → Calls Tryd.prog 16 #[.slice la L.length lc, .int .i64 n] W fun e w' => ∃ (v : Value) (B : Int → Option Tr), e = .returned (.tuple #[v, .nilIface]) ∧ Least L B ∧ RowZ w' v (needL L B n) ∧ Below W.heap.size W w') := fun W hW => need_ok HRT.out HL3.out (HR.out W (HB12.out.trans (hW.mono HB12.out.size))) n hn
          have HWAYS : Hid (∀ W, Below w2.heap.size w2 W → Calls Tryd.prog 17 #[.slice oa L.length oc] W (WaysP L W)) := fun W hW => ways_any HRE.out HL3.out (HO2.out W hW)
          have HNUM : Hid (∀ W, Below w2.heap.size w2 W → Calls Tryd.prog 14 #[.nilIface] W fun e w' => e = .returned (.int .i64 0) ∧ Below W.heap.size W w') := fun W hW => by
            have h := num_any ea 0 (by decide) W (HE.out W (HB12.out.trans (hW.mono HB12.out.size)))
            rwa [EV_zero, show ((0 : Nat) : Int) = 0 from rfl] at h
          obtain ⟨i0, hi0, hz0, hz1, hz2⟩ := info_parts infoBo
          have HMK : Hid (∀ W : World, ∃ w', (Instr.makeSlice 50 (.int .i64 (L.length : Int)) (.int .i64 (L.length : Int))).run Tryd.prog W = .ok (.slice (some ⟨W.heap.size, 0, none⟩) L.length L.length) w' ∧ w'.ownsRow W.heap.size 4 1 (.slice (some ⟨W.heap.size, 0, none⟩) L.length L.length) L.length (madeCells (Value.bool false).cells (L.length * 1)).toList ∧ W.grownBy w' none) := fun W =>
            run_make_full (P := Tryd.prog) W W.heap.size 50 4 i0 (.bool false) 1 Tryd.underlying50 hi0 hz0 hz1 .i64 .i64 L.length (by rw [hz2]; omega) (by unfold maxLen; omega) (Nat.le_refl _)
          rw [hR] at HRR
          clear hR HR HE HL3 HO2 hi0 hz0 hz1 hz2
          go_wp2_with fail
          refine (HALL.out _ (Below.refl _ _)).mono ?_
          rintro e w3 ⟨B, out, g, rfl, hLB, hol, hout, hown, hb3⟩
          have HLB := Lib.hid hLB
          have HOUT : Hid (∀ i : Nat, i < n → ∃ (a : Option Addr) (c : Nat), w3.cell? ⟨g, i, none⟩ = some (.slice a (pathOf (B i)).length c) ∧ RowZ w3 (.slice a (pathOf (B i)).length c) (pathOf (B i))) := fun i hi => by
            have hx := List.getElem?_eq_getElem (l := out) (i := i) (by omega)
            obtain ⟨h1, h2⟩ := hout i _ hx
            obtain ⟨-, h3⟩ := ownCell hown hx
            generalize out[i] = x at h1 h2 h3
            obtain ⟨xs, xa, xc⟩ := x
            simp only [zV] at h1 h2 h3
            subst h2
            exact ⟨xa, xc, h3, h1⟩
          clear HALL hLB hol hout hown
          go_wp2_with fail
          refine (HNEED.out _ hb3).mono ?_
          rintro e w4 ⟨vn, B2, rfl, hLB2, hrn, hb4⟩
          have hnl : needL L B2 n = needL L B n := by
            unfold needL
            congr 1
            refine List.filter_congr fun i hi => ?_
            unfold usedB
            simp only [HLB.out.unique hLB2]
          rw [hnl] at hrn
          obtain ⟨na, nc, rfl, -, -⟩ := hrn.gen.shape
          have HRN := Lib.hid hrn
          have hb24 := hb3.trans (hb4.mono hb3.size)
          have HB34 := Lib.hid hb4
          have HB3 := Lib.hid hb3
          clear HNEED hb3 hb4 hLB2 hnl hrn
          go_wp2_with fail
          refine (HRR.out _ hb24).mono ?_
          rintro e w5 ⟨rfl, hb5⟩
          have hb25 := hb24.trans (hb5.mono hb24.size)
          have HB45 := Lib.hid hb5
          clear HRR hb24 hb5
          go_wp2_with fail
          refine (HNUM.out _ hb25).mono ?_
          rintro e w6 ⟨rfl, hb6⟩
          have hb26 := hb25.trans (hb6.mono hb25.size)
          have HB56 := Lib.hid hb6
          clear hb25 hb6
          go_wp2_with fail
          refine (HNUM.out _ hb26).mono ?_
          rintro e w7 ⟨rfl, hb7⟩
          have hb27 := hb26.trans (hb7.mono hb26.size)
          have HB67 := Lib.hid hb7
          clear hb26 hb7 HNUM
          go_wp2_with fail
          refine (HWAYS.out _ hb27).mono ?_
          rintro e w8 ⟨C, outW, gW, rfl, hLC, hWl, hWo, hWown, hb8⟩
          have HWANT : Hid (∀ i : Nat, i < 400 → ∃ (a : Option Addr) (c : Nat), w8.cell? ⟨gW, i * 3 + 2, none⟩ = some (.slice a (pathOf (B i)).length c) ∧ RowZ w8 (.slice a (pathOf (B i)).length c) (pathOf (B i))) := fun i hi => by
            have hx := List.getElem?_eq_getElem (l := outW) (i := i) (by omega)
            obtain ⟨h1, h2⟩ := hWo i _ hx
            obtain ⟨-, -, -, h3, -⟩ := wayCells hWown hx
            have h4 := h2.1
            generalize outW[i] = x at h1 h3 h4
            obtain ⟨⟨xt, xs, xp⟩, xa, xc⟩ := x
            simp only at h1 h3 h4
            have h5 : xp = pathOf (B i) := by
              rw [HLB.out.unique hLC]
              cases hq : C (i : Int) with
              | none => rw [hq] at h1; cases h1; rfl
              | some t => rw [hq] at h1; cases h1; rfl
            subst h5
            exact ⟨xa, xc, h3, h4⟩
          have hb38 : Below w3.heap.size w3 w8 := HB34.out.trans ((HB45.out.trans ((HB56.out.trans ((HB67.out.trans (hb8.mono HB67.out.size)).mono HB56.out.size)).mono HB45.out.size)).mono HB34.out.size)
          have hb48 : Below w4.heap.size w4 w8 := HB45.out.trans ((HB56.out.trans ((HB67.out.trans (hb8.mono HB67.out.size)).mono HB56.out.size)).mono HB45.out.size)
          have HB28 : Hid (Below w.heap.size w w8) := HB12.out.trans ((hb27.trans (hb8.mono hb27.size)).mono HB12.out.size)
          have HOUT8 : Hid (∀ i : Nat, i < n → ∃ (a : Option Addr) (c : Nat), w8.cell? ⟨g, i, none⟩ = some (.slice a (pathOf (B i)).length c) ∧ RowZ w8 (.slice a (pathOf (B i)).length c) (pathOf (B i))) := fun i hi => by
            obtain ⟨a, c, h1, h2⟩ := HOUT.out i hi
            exact ⟨a, c, cellB hb38 h1, Row.stays h2 hb38⟩
          have HRN8 : Hid (RowZ w8 (.slice na (needL L B n).length nc) (needL L B n)) := Row.stays HRN.out hb48
          obtain ⟨w9, hmk, hmo, hmg⟩ := HMK.out w8
          rw [show (Value.bool false).cells = #[.bool false] from rfl, madeOne, rep_map Value.bool false] at hmo
          have HU0 : Hid (UR B L.length w8.heap.size w8 0 0 w9) := ⟨by rw [usedL_first]; unfold OwnL; rw [List.length_replicate]; exact hmo, below_of_grown hmg (Nat.le_refl _) (fun k hk => by cases hk), Nat.le_refl _⟩
          obtain ⟨N, hN⟩ : ∃ N, N = L.length := ⟨_, rfl⟩
          have HNL := Lib.hid hN
          rw [← hN] at HU0 hmk
          clear HWAYS hLC hWl hWo hWown hb8 hb38 hb48 hb27 HB34 HB45 HB56 HB67 HB3 HOUT HRN HMK hmo hmg
          go_upto_region 18 with fail
          rw [← hN]
          clear hN
          go_wp2_with fail
          obtain ⟨gu, hgu⟩ : ∃ gu, gu = w8.heap.size := ⟨_, rfl⟩
          rw [← hgu] at HU0 ⊢
          have HGU := Lib.hid hgu
          clear hgu hmk
          go_loopw [77] (fun u wr => ∃ v : Nat, u = .int .i64 v ∧ v ≤ n ∧ Hid (UR B N gu w8 v 0 wr)) (fun u _ => n - (intOf u).toNat)
          case atStart => exact ⟨0, rfl, Nat.zero_le _, HU0.out⟩
          case round =>
            clear HU0
            obtain ⟨v, rfl, hv, HU⟩ := hrel
            by_cases h1 : v < n
            · obtain ⟨a1, k1, c1, r1⟩ := HOUT8.out v h1
              obtain ⟨a2, k2, c2, r2⟩ := HWANT.out v (by omega)
              have hbe := HU.out.2.1
              have c1' := cellB hbe c1
              have c2' := cellB hbe c2
              have hpb := path_bd HRE.out HLB.out v
              obtain ⟨P, hP⟩ : ∃ P, P = pathOf (B v) := ⟨_, rfl⟩
              rw [← hP] at c1 c2 r1 r2 c1' c2' hpb
              have hpl : P.length ≤ 401 := hpb.1
              have HPB := Lib.hid hpb.2
              have HP := Lib.hid hP
              have HSM : Hid (Calls Tryd.prog 13 #[.slice a1 P.length k1, .slice a2 P.length k2] wr fun e w' => e = .returned (.bool true) ∧ Below wr.heap.size wr w') := by
                have h := sameZ_any _ _ P P wr (Row.stays r1 hbe) (Row.stays r2 hbe) (by omega) (by omega)
                rwa [eqB_yes rfl] at h
              have HR2 : Hid (∀ W, Below w8.heap.size w8 W → RowZ W (.slice a2 P.length k2) P) := fun W hW => Row.stays r2 hW
              have HBE := Lib.hid hbe
              have tv : decide ((v : Int) < (n : Int)) = true := decide_eq_true (by omega)
              have iv0 : (0 : Int) ≤ (v : Int) := by omega
              have iv1 : (v : Int) < (400 : Int) := by omega
              have iv2 : (v : Int) < (n : Int) := by omega
              clear c1 c2 r1 r2 hP hpb hbe
              go_wp2_with fail
              refine HSM.out.mono ?_
              rintro e w10 ⟨rfl, hb10⟩
              have c3 := cellB hb10 c2'
              have HU10 : Hid (UR B N gu w8 v 0 w10) := ⟨HU.out.1.stays hb10, HU.out.2.1.trans (hb10.mono HU.out.2.1.size), HU.out.2.2⟩
              clear HSM hb10 c1' c2' HU HBE
              go_wp2_with fail
              clear c3
              go_loopw [96] (fun u wr => ∃ m : Nat, u = .int .i64 m ∧ m ≤ P.length ∧ Hid (UR B N gu w8 v m wr)) (fun u _ => P.length - (intOf u).toNat)
              case atStart => exact ⟨0, rfl, Nat.zero_le _, HU10.out⟩
              case round =>
                clear HU10
                obtain ⟨m, rfl, hm, HM⟩ := hrel
                by_cases h2 : m < P.length
                · obtain ⟨x, hx⟩ : ∃ x, P[m]? = some x := ⟨_, List.getElem?_eq_getElem h2⟩
                  obtain ⟨y0, y1⟩ := HPB.out x (List.mem_of_getElem? hx)
                  obtain ⟨y, rfl⟩ : ∃ y : Nat, x = y := ⟨x.toNat, by omega⟩
                  obtain ⟨o1, o2, o3⟩ := HM.out
                  have hyN : y < N := by have := HNL.out; omega
                  obtain ⟨aq, cq, hsl, -, hcl⟩ := (HR2.out _ o2).gen.shape
                  cases hsl
                  obtain ⟨b, o, rfl, d1⟩ := hcl m _ hx
                  replace d1 : wr.cell? ⟨b, o + m, none⟩ = some (.int .i64 (y : Int)) := d1
                  obtain ⟨hfz, hcc⟩ := ownCell o1 (usedL_get B N v m y hyN)
                  have HN : Hid (UR B N gu w8 v (m + 1) (wr.setCell ⟨gu, y, none⟩ (.bool true))) := by
                    refine ⟨?_, o2.setCell (p := ⟨gu, y, none⟩) o3 _, o3⟩
                    rw [← usedL_step B N v m y (by rw [← HP.out]; exact hx)]
                    exact o1.set y true
                  have z0 : (0 : Int) ≤ (y : Int) := by omega
                  have z1 : (y : Int) < (N : Int) := by omega
                  clear hx y0 y1 o1 o2 o3 HM hcl
                  go_wp2_with fail
                  go_roundw
                  case rel => exact ⟨m + 1, by go_num, by omega, HN.out⟩
                  case measure => simp only [intOf]; omega
                · obtain rfl : m = P.length := by omega
                  have HN : Hid (UR B N gu w8 (v + 1) 0 wr) := by
                    obtain ⟨o1, o2, o3⟩ := HM.out
                    refine ⟨?_, o2, o3⟩
                    rw [← usedL_next, ← HP.out]
                    exact o1
                  clear HM
                  go_wp2_with fail
                  go_roundw
                  case rel => exact ⟨v + 1, by go_num, by omega, HN.out⟩
                  case measure => simp only [intOf]; omega
            · obtain rfl : v = n := by omega
              obtain ⟨wx, rfl⟩ : ∃ wx : World, wx = wr := ⟨_, rfl⟩
              have hbx := HU.out.2.1
              have HROW : Hid (∀ i, i < N → wx.cell? ⟨gu, i, none⟩ = some (.bool (usedB B v 0 i))) := fun i hi => (ownCell HU.out.1 (usedL_get B N v 0 i hi)).2
              have HNE : Hid (RowZ wx (.slice na (needL L B v).length nc) (needL L B v)) := Row.stays HRN8.out hbx
              obtain ⟨p, hp⟩ : ∃ p, p = usedB B v 0 := ⟨_, rfl⟩
              have hnl : needL L B v = ((List.range N).filter p).map fun i : Nat => (i : Int) := by unfold needL; rw [HNL.out, hp]
              rw [← hp] at HROW
              rw [hnl] at HNE
              obtain ⟨Q, hQ⟩ : ∃ Q, Q = (List.range N).filter p := ⟨_, rfl⟩
              rw [hnl]
              rw [← hQ] at HNE ⊢
              have hql : (Q.map fun i : Nat => (i : Int)).length = Q.length := List.length_map ..
              have HQ := Lib.hid hQ
              have HQL : Hid (Q.length ≤ N) := by show _ ≤ _; rw [hQ]; have := List.length_filter_le p (List.range N); rwa [List.length_range] at this
              rw [hql] at HNE ⊢
              have HBX : Hid (Below w.heap.size w wx) := HB28.out.trans (hbx.mono HB28.out.size)
              have hN60 : N ≤ 60 := by have := HNL.out; omega
              clear hp hnl hQ hql hbx HRN8 HU HB28 HOUT8 HWANT
              go_wp2_with fail
              go_loopw [17, 107] (fun k u wr => ∃ i : Nat, u = .int .i64 i ∧ i ≤ N ∧ k = .int .i64 ((List.range i).filter p).length ∧ wx = wr) (fun _ u _ => N - (intOf u).toNat)
              case atStart => exact ⟨0, rfl, Nat.zero_le _, rfl, rfl⟩
              case round =>
                obtain ⟨i, rfl, hi, rfl, rfl⟩ := hrel
                by_cases h2 : i < N
                · have d1 := HROW.out i h2
                  have hst := filt_step i p
                  have hle : ((List.range i).filter p).length ≤ N := by have := List.length_filter_le p (List.range i); rw [List.length_range] at this; omega
                  have ti : decide ((i : Int) < (N : Int)) = true := decide_eq_true (by omega)
                  have iv0 : (0 : Int) ≤ (i : Int) := by omega
                  have iv1 : (i : Int) < (N : Int) := by omega
                  obtain ⟨K, hK⟩ : ∃ K, K = ((List.range i).filter p).length := ⟨_, rfl⟩
                  rw [← hK] at hst hle
                  cases hpi : p i with
                  | false =>
                    rw [hpi] at d1 hst
                    have HST : Hid (((List.range (i + 1)).filter p).length = K) := by show _ = _; simpa using hst
                    rw [← hK]
                    clear hst hK hpi
                    go_wp2_with fail
                    go_roundw
                    case rel => exact ⟨i + 1, by go_num, by omega, by rw [HST.out], trivial⟩
                    case measure => simp only [intOf]; omega
                  | true =>
                    rw [hpi] at d1 hst
                    have HST : Hid (((List.range (i + 1)).filter p).length = K + 1) := by show _ = _; simpa using hst
                    have hat := filt_at N i p h2 hpi
                    rw [← hK, ← HQ.out] at hat
                    have hKQ : K < Q.length := (List.getElem?_eq_some_iff.1 hat).1
                    obtain ⟨aq, cq, hsl, -, hcl⟩ := HNE.out.gen.shape
                    rw [List.length_map] at hsl
                    cases hsl
                    obtain ⟨b, o, rfl, d2⟩ := hcl K (i : Int) (by rw [List.getElem?_map, hat]; rfl)
                    replace d2 : wx.cell? ⟨b, o + K, none⟩ = some (.int .i64 (i : Int)) := d2
                    have tk : decide ((K : Int) ≥ (Q.length : Int)) = false := decide_eq_false (by omega)
                    have k0 : (0 : Int) ≤ (K : Int) := by omega
                    have k1 : (K : Int) < (Q.length : Int) := by omega
                    rw [← hK]
                    clear hst hK hpi hat hcl
                    go_wp2_with fail
                    go_roundw
                    case rel => exact ⟨i + 1, by go_num, by omega, by rw [HST.out]; go_num, trivial⟩
                    case measure => simp only [intOf]; omega
                · obtain rfl : i = N := by omega
                  rw [← HQ.out]
                  go_wp2_with fail
                  go_ret
                  exact ⟨by simp, HBX.out⟩
end Go.Proofs.YthabjnppmhlomaaDoor
