/- The walk of the program's Way. -/
import Derived.Test.YtidfjemblidjkaaMyU
import Derived.Test.YtidfjemblidjkaaEqQ
namespace Go.Proofs.Ytidfjemblidjkaa
open Go Go.RowKit
set_option linter.unusedVariables false
set_option maxRecDepth 100000 in
set_option maxHeartbeats 8000000 in
theorem wayProg_any (vr va vb : Value) (rs : List Rn) (a b : List Int) (w : World) (hr : RowS rnC w vr rs) (hra : RowZ w va a) (hrb : RowZ w vb b) (hN : ∀ r ∈ rs, r.2 ≤ 1000) (hl : rs.length ≤ 1000) (hla : a.length ≤ 1000) (hlb : b.length ≤ 1000) :
    Calls Try.prog 20 #[vr, va, vb] w fun e w' => e = .returned (.bool (wayB rs a b)) ∧ Below w.heap.size w w' := by
  have HN := Lib.hid hN
  obtain ⟨a0, c0, rfl, -, hin⟩ := hr.shape rnC_len
  have HIN := Lib.hid hin
  clear hr hin hN
  go_enter Try.func20, Try.ntmps20
  go_wp2_with fail
  go_loopw [1, 2, 11] (fun xx yy i wr => ∃ (m : Nat) (a' b' : List Int), m ≤ rs.length ∧ a'.length ≤ 1000 ∧ b'.length ≤ 1000 ∧ i = .int .i64 m ∧ RowZ wr xx a' ∧ RowZ wr yy b' ∧ Hid (rightB (rs.take m) = true) ∧ Hid (wayP (stepsOf (rs.drop m)) a' b' = wayP (stepsOf rs) a b) ∧ Below w.heap.size w wr) (fun _ _ i _ => rs.length - (intOf i).toNat)
  case atStart => exact ⟨0, a, b, Nat.zero_le _, hla, hlb, rfl, hra, hrb, rfl, by show _ = _; simp, Below.refl _ _⟩
  case round =>
    clear hra hrb hla hlb
    obtain ⟨m, a', b', hm, hla, hlb, rfl, hra, hrb, HR, HW, hbe⟩ := hrel
    obtain ⟨aa, ca, hva, -, -⟩ := hra.gen.shape
    obtain ⟨ab, cb, hvb, -, -⟩ := hrb.gen.shape
    subst hva
    subst hvb
    by_cases h1 : m < rs.length
    · obtain ⟨⟨k, c⟩, hq⟩ : ∃ r, rs[m]? = some r := ⟨_, List.getElem?_eq_getElem h1⟩
      have hc2 : c ≤ 1000 := HN.out (k, c) (List.mem_of_getElem? hq)
      obtain ⟨gb, ob, rfl, hc⟩ := HIN.out m _ hq
      have d0 := cell_below hbe (hc 0 (.int .i64 k) rfl)
      have d1 := cell_below hbe (hc 1 (.int .i64 c) rfl)
      rw [Nat.add_zero] at d0
      rw [← Nat.add_assoc] at d1
      have hbW := hbe.alloc hbe.size (.cells #[.int .i64 k, .int .i64 c] 41)
      have hbA : Below wr.heap.size wr (wr.alloc (.cells #[.int .i64 k, .int .i64 c] 41)) := (Below.refl _ _).alloc (Nat.le_refl _) _
      have hcA := CellsAt.new wr #[.int .i64 k, .int .i64 c] 41
      have HRI := Lib.hid (right_any k c (wr.alloc (.cells #[.int .i64 k, .int .i64 c] 41)) (by omega))
      have HQ := Lib.hid hq
      clear hc hq
      go_wp2_with fail
      refine HRI.out.mono ?_
      rintro e W ⟨rfl, hb2⟩
      have hcB := hcA.stays hb2
      have f0 := hcB.cell 0 (v := .int .i64 k) rfl
      have f1 := hcB.cell 1 (v := .int .i64 c) rfl
      have hb3 := hbW.trans (hb2.mono hbW.size)
      have hbr := hbA.trans (hb2.mono hbA.size)
      have hra2 : RowZ W (.slice aa a'.length ca) a' := hra.gen.stays hbr
      have hrb2 : RowZ W (.slice ab b'.length cb) b' := hrb.gen.stays hbr
      obtain ⟨gs, hgs⟩ : ∃ gs, gs = wr.heap.size := ⟨_, rfl⟩
      rw [← hgs] at f0 f1 ⊢
      clear hcB hcA hb2 hbW hbA hbr d0 d1 hra hrb hbe HRI hgs
      by_cases hr : rightR (k, c) = true
      · have HR2 := Lib.hid (right_next HQ.out HR.out hr)
        have HS := Lib.hid (stepsOf_at HQ.out)
        have hr' := hr
        unfold rightR at hr'
        simp at hr'
        have hk1 : 1 ≤ k := hr'.1
        have hk2 : k ≤ 3 := hr'.2.1
        have hc1 : 1 ≤ c := hr'.2.2
        obtain ⟨C, rfl⟩ := Int.eq_ofNat_of_zero_le (by omega : 0 ≤ c)
        have HWT : Hid (wayP (List.replicate C k ++ stepsOf (rs.drop (m + 1))) a' b' = wayP (stepsOf rs) a b) := by
          show _ = _; rw [← HW.out, HS.out]; rfl
        have hac := hra2.gen.cap
        have hbc := hrb2.gen.cap
        rw [hr]
        clear HS hr' hr HW HR HQ
        rcases (show k = 1 ∨ k = 2 ∨ k = 3 by omega) with rfl | rfl | rfl
        · by_cases h3 : C ≤ a'.length
          · have e1 : decide ((C : Int) > a'.length) = false := by simp; omega
            by_cases h4 : C ≤ b'.length
            · have e2 : decide ((C : Int) > b'.length) = false := by simp; omega
              have HN1 := Lib.hid (wayN1 C (stepsOf (rs.drop (m + 1))) a' b' h3 h4)
              have hta : ∀ n, RowZ (W.drewN n) (.slice aa C ca) (a'.take C) := fun n => (RowL.to hra2.gen C h3).stays (below_drewN (Below.refl _ _))
              have htb : ∀ n, RowZ (W.drewN n) (.slice ab C cb) (b'.take C) := fun n => (RowL.to hrb2.gen C h4).stays (below_drewN (Below.refl _ _))
              have HEQ : Hid (∀ n, Calls Try.prog 38 #[.slice aa C ca, .slice ab C cb] (W.drewN n) fun e w' => e = .returned (.bool (eqB (a'.take C) (b'.take C))) ∧ ∃ m, w' = (W.drewN n).drewN m) := fun n => equalZ_quiet _ _ _ _ _ (hta n) (htb n) (by rw [List.length_take]; omega) (by rw [List.length_take]; omega)
              have RA := Lib.hid hra2
              have RB := Lib.hid hrb2
              obtain ⟨E, hE⟩ : ∃ E, E = eqB (a'.take C) (b'.take C) := ⟨_, rfl⟩
              rw [← hE] at HEQ
              have HE := Lib.hid hE
              clear hta htb hE
              go_wp2_with fail
              go_quiet ((go_at_call 38; exact Calls.quiet_of (HEQ.out _)))
              cases E with
              | false =>
                have HF : Hid (wayB rs a b = false) := by
                  show _ = _
                  have h5 := HN1.out
                  rw [show (a'.take C == b'.take C) = false from HE.out.symm, Bool.false_and] at h5
                  exact wayB_no (HWT.out.symm.trans h5)
                go_wp2_with fail
                go_ret
                exact ⟨ret1 (by rw [HF.out]; rfl), below_drewN hb3⟩
              | true =>
                have HW3 : Hid (wayP (stepsOf (rs.drop (m + 1))) (a'.drop C) (b'.drop C) = wayP (stepsOf rs) a b) := by
                  show _ = _
                  have h5 := HN1.out
                  rw [show (a'.take C == b'.take C) = true from HE.out.symm, Bool.true_and] at h5
                  rw [← h5, HWT.out]
                clear HN1 HWT HEQ HE
                have ra := RA.out.gen.part (l := C) (h := a'.length) h3 (Nat.le_refl _)
                have rb := RB.out.gen.part (l := C) (h := b'.length) h4 (Nat.le_refl _)
                rw [List.take_length] at ra rb
                have f1' : (W.drewN nq).cell? ⟨gs, 1, none⟩ = some (.int .i64 C) := f1
                have f0' : (W.drewN nq).cell? ⟨gs, 0, none⟩ = some (.int .i64 1) := f0
                obtain ⟨V, hV⟩ : ∃ V, V = W.drewN nq := ⟨_, rfl⟩
                have hbV : Below W.heap.size W V := by rw [hV]; exact below_drewN (Below.refl _ _)
                rw [← hV] at f0' f1' ⊢
                have ra := RowL.stays ra hbV
                have rb := RowL.stays rb hbV
                have hb4 := hb3.trans (hbV.mono hb3.size)
                clear hV f0 f1 hbV hb3
                by_cases k1 : ca = C
                · by_cases k2 : cb = C
                  · rw [if_pos k1, show ca - C = 0 from by omega] at ra
                    rw [if_pos k2, show cb - C = 0 from by omega] at rb
                    have RA2 := Lib.hid ra
                    have RB2 := Lib.hid rb
                    clear ra rb RA RB hra2 hrb2
                    go_wp2_with fail
                    go_region
                    all_goals go_wp2_with fail
                    all_goals go_roundw
                    case rel => exact ⟨m + 1, _, _, by omega, by rw [List.length_drop]; omega, by rw [List.length_drop]; omega, by go_num, RowL.stays RA2.out (Below.refl _ _).drew, RowL.stays RB2.out (Below.refl _ _).drew, HR2, HW3, hb4.drew⟩
                    case measure => simp only [intOf]; omega
                  · rw [if_pos k1, show ca - C = 0 from by omega] at ra
                    rw [if_neg k2] at rb
                    have RA2 := Lib.hid ra
                    have RB2 := Lib.hid rb
                    clear ra rb RA RB hra2 hrb2
                    go_wp2_with fail
                    go_region
                    all_goals go_wp2_with fail
                    all_goals go_roundw
                    case rel => exact ⟨m + 1, _, _, by omega, by rw [List.length_drop]; omega, by rw [List.length_drop]; omega, by go_num, RowL.stays RA2.out (Below.refl _ _).drew, RowL.stays RB2.out (Below.refl _ _).drew, HR2, HW3, hb4.drew⟩
                    case measure => simp only [intOf]; omega
                · by_cases k2 : cb = C
                  · rw [if_neg k1] at ra
                    rw [if_pos k2, show cb - C = 0 from by omega] at rb
                    have RA2 := Lib.hid ra
                    have RB2 := Lib.hid rb
                    clear ra rb RA RB hra2 hrb2
                    go_wp2_with fail
                    go_region
                    all_goals go_wp2_with fail
                    all_goals go_roundw
                    case rel => exact ⟨m + 1, _, _, by omega, by rw [List.length_drop]; omega, by rw [List.length_drop]; omega, by go_num, RowL.stays RA2.out (Below.refl _ _).drew, RowL.stays RB2.out (Below.refl _ _).drew, HR2, HW3, hb4.drew⟩
                    case measure => simp only [intOf]; omega
                  · rw [if_neg k1] at ra
                    rw [if_neg k2] at rb
                    have RA2 := Lib.hid ra
                    have RB2 := Lib.hid rb
                    clear ra rb RA RB hra2 hrb2
                    go_wp2_with fail
                    go_region
                    all_goals go_wp2_with fail
                    all_goals go_roundw
                    case rel => exact ⟨m + 1, _, _, by omega, by rw [List.length_drop]; omega, by rw [List.length_drop]; omega, by go_num, RowL.stays RA2.out (Below.refl _ _).drew, RowL.stays RB2.out (Below.refl _ _).drew, HR2, HW3, hb4.drew⟩
                    case measure => simp only [intOf]; omega
            · have e2 : decide ((C : Int) > b'.length) = true := by simp; omega
              have HF := Lib.hid (wayB_no (HWT.out.symm.trans (wayN1_no _ _ _ _ (.inr (by omega)))))
              clear HWT
              go_wp2_with fail
              go_ret
              exact ⟨ret1 (by rw [HF.out]; rfl), hb3⟩
          · have e1 : decide ((C : Int) > a'.length) = true := by simp; omega
            have HF := Lib.hid (wayB_no (HWT.out.symm.trans (wayN1_no _ _ _ _ (.inl (by omega)))))
            clear HWT
            go_wp2_with fail
            go_ret
            exact ⟨ret1 (by rw [HF.out]; rfl), hb3⟩
        · by_cases h3 : C ≤ a'.length
          · have e1 : decide ((C : Int) > a'.length) = false := by simp; omega
            have HW3 := Lib.hid ((wayN2 C (stepsOf (rs.drop (m + 1))) a' b' h3).symm.trans HWT.out)
            have rx := hra2.gen.part (l := C) (h := a'.length) h3 (Nat.le_refl _)
            rw [List.take_length] at rx
            have RX := Lib.hid hrb2
            clear HWT
            by_cases k1 : ca = C
            · rw [if_pos k1, show ca - C = 0 from by omega] at rx
              have RA2 := Lib.hid rx
              clear rx hra2 hrb2
              go_wp2_with fail
              go_roundw
              case rel => exact ⟨m + 1, _, _, by omega, by rw [List.length_drop]; omega, hlb, by go_num, RA2.out, RX.out, HR2, HW3, hb3⟩
              case measure => simp only [intOf]; omega
            · rw [if_neg k1] at rx
              have RA2 := Lib.hid rx
              clear rx hra2 hrb2
              go_wp2_with fail
              go_roundw
              case rel => exact ⟨m + 1, _, _, by omega, by rw [List.length_drop]; omega, hlb, by go_num, RA2.out, RX.out, HR2, HW3, hb3⟩
              case measure => simp only [intOf]; omega
          · have e1 : decide ((C : Int) > a'.length) = true := by simp; omega
            have HF := Lib.hid (wayB_no (HWT.out.symm.trans (wayN2_no _ _ _ _ (by omega))))
            clear HWT
            go_wp2_with fail
            go_ret
            exact ⟨ret1 (by rw [HF.out]; rfl), hb3⟩
        · by_cases h3 : C ≤ b'.length
          · have e1 : decide ((C : Int) > b'.length) = false := by simp; omega
            have HW3 := Lib.hid ((wayN3 C (stepsOf (rs.drop (m + 1))) a' b' h3).symm.trans HWT.out)
            have rx := hrb2.gen.part (l := C) (h := b'.length) h3 (Nat.le_refl _)
            rw [List.take_length] at rx
            have RX := Lib.hid hra2
            clear HWT
            by_cases k1 : cb = C
            · rw [if_pos k1, show cb - C = 0 from by omega] at rx
              have RA2 := Lib.hid rx
              clear rx hra2 hrb2
              go_wp2_with fail
              go_roundw
              case rel => exact ⟨m + 1, _, _, by omega, hla, by rw [List.length_drop]; omega, by go_num, RX.out, RA2.out, HR2, HW3, hb3⟩
              case measure => simp only [intOf]; omega
            · rw [if_neg k1] at rx
              have RA2 := Lib.hid rx
              clear rx hra2 hrb2
              go_wp2_with fail
              go_roundw
              case rel => exact ⟨m + 1, _, _, by omega, hla, by rw [List.length_drop]; omega, by go_num, RX.out, RA2.out, HR2, HW3, hb3⟩
              case measure => simp only [intOf]; omega
          · have e1 : decide ((C : Int) > b'.length) = true := by simp; omega
            have HF := Lib.hid (wayB_no (HWT.out.symm.trans (wayN3_no _ _ _ _ (by omega))))
            clear HWT
            go_wp2_with fail
            go_ret
            exact ⟨ret1 (by rw [HF.out]; rfl), hb3⟩
      · have HF := Lib.hid (wayB_bad (a := a) (b := b) HQ.out (by simpa using hr))
        have hr2 : rightR (k, c) = false := by simpa using hr
        rw [hr2]
        clear hr hr2
        go_wp2_with fail
        go_ret
        exact ⟨ret1 (by rw [HF.out]; rfl), hb3⟩
    · obtain rfl : rs.length = m := by omega
      have HF : Hid (wayB rs a b = (a'.isEmpty && b'.isEmpty)) := by
        show _ = _
        have h2 := HR.out
        rw [List.take_length] at h2
        have h3 := HW.out
        rw [List.drop_length] at h3
        unfold wayB
        rw [h2, ← h3]
        rfl
      by_cases h3 : a'.length + b'.length = 0
      · have e1 : ((a'.length : Int) + b'.length == 0) = true := by simp; omega
        have HF2 : Hid (wayB rs a b = true) := by
          show _ = _; rw [HF.out, List.length_eq_zero_iff.1 (show a'.length = 0 by omega), List.length_eq_zero_iff.1 (show b'.length = 0 by omega)]; rfl
        clear h3 HF
        go_wp2_with fail
        go_ret
        exact ⟨ret1 (by rw [HF2.out]; rfl), hbe⟩
      · have e1 : ((a'.length : Int) + b'.length == 0) = false := by simp; omega
        have HF2 : Hid (wayB rs a b = false) := by
          show _ = _
          rw [HF.out]
          cases a' with
          | nil => cases b' with
            | nil => simp at h3
            | cons => rfl
          | cons => rfl
        clear h3 HF
        go_wp2_with fail
        go_ret
        exact ⟨ret1 (by rw [HF2.out]; rfl), hbe⟩
end Go.Proofs.Ytidfjemblidjkaa
