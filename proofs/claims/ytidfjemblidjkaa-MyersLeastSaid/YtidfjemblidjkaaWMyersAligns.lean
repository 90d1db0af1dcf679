/- The walk of MyersAligns: the runs from every row to every other one, and their distance. -/
import Derived.Test.YtidfjemblidjkaaAlive19
namespace Go.Proofs.Ytidfjemblidjkaa
open Go Go.RowKit
set_option linter.unusedVariables false
theorem cntS_rep_other {k k' : Int} (h : ¬ k' = k) : ∀ n : Nat, cntS k (List.replicate n k') = 0
  | 0 => rfl
  | n + 1 => by rw [List.replicate_succ, cntS, if_neg h, cntS_rep_other h n]
theorem dist_kept : ∀ (n : Nat) (us bs : List Int), us.length + bs.length ≤ n → dist us bs + 2 * cntS 1 (stepsT us bs) = us.length + bs.length
  | _, [], bs, _ => by rw [dist_nil, stepsT_nil, cntS_rep_other (by decide)]; simp
  | _, x :: us, [], _ => by rw [dist_nil', stepsT_nil', cntS_rep_other (by decide)]; simp
  | 0, x :: us, y :: bs, h => by simp at h
  | n + 1, x :: us, y :: bs, h => by
    simp only [List.length_cons] at h
    by_cases e : x = y
    · subst e
      rw [stepsT_same, dist_same, cntS, if_pos rfl]
      have := dist_kept n us bs (by omega)
      simp only [List.length_cons]; omega
    · by_cases h2 : dist us (y :: bs) ≤ dist (x :: us) bs
      · rw [stepsT_drop e h2, dist_other e, Nat.min_eq_left h2, cntS, if_neg (by decide)]
        have := dist_kept n us (y :: bs) (by simp only [List.length_cons]; omega)
        simp only [List.length_cons] at this ⊢; omega
      · rw [stepsT_put e h2, dist_other e, Nat.min_eq_right (by omega), cntS, if_neg (by decide)]
        have := dist_kept n (x :: us) bs (by simp only [List.length_cons]; omega)
        simp only [List.length_cons] at this ⊢; omega
theorem kept_far {a b : List Int} (h : dist a b ≤ 400) : dist a b + 2 * keptV a b = a.length + b.length := by
  unfold keptV stepsV
  rw [if_neg (by omega)]
  exact dist_kept _ a b (Nat.le_refl _)
set_option maxRecDepth 100000 in
set_option maxHeartbeats 4000000 in
theorem walkMyersAligns (w : World) (va : Value) (a : List Int) (hra : RowZ w va a) (hxa : ∀ n ∈ a, -9223372036854775808 ≤ n ∧ n ≤ 9223372036854775807) (vb : Value) (b : List Int) (hrb : RowZ w vb b) (hxb : ∀ n ∈ b, -9223372036854775808 ≤ n ∧ n ≤ 9223372036854775807) :
    Calls Try.prog 4 #[va, vb] w fun e w' => e = .returned (.bool true) ∧ Below w.heap.size w w' := by
  clear hxa hxb
  have HA := Lib.hid (alive19 w)
  obtain ⟨aa, ca, rfl, hma, -⟩ := hra.gen.shape
  obtain ⟨ab, cb, rfl, hmb, -⟩ := hrb.gen.shape
  unfold maxLen at hma hmb
  have HRA : Hid (∀ w', Below w.heap.size w w' → RowZ w' _ a) := fun w' hb => hra.gen.stays hb
  have HRB : Hid (∀ w', Below w.heap.size w w' → RowZ w' _ b) := fun w' hb => hrb.gen.stays hb
  clear hra hrb
  go_enter Try.func4, Try.ntmps4
  go_wp2_with fail
  refine HA.out.mono ?_
  rintro e w1 ⟨rfl, hb1⟩
  by_cases hl : 60 < a.length
  · go_wp2_with fail
    go_ret
    exact ⟨rfl, hb1⟩
  · by_cases hl2 : 60 < b.length
    · go_wp2_with fail
      go_ret
      exact ⟨rfl, hb1⟩
    · have hla : a.length ≤ 60 := by omega
      have hlb : b.length ≤ 60 := by omega
      have hdl := dist_le _ a b (Nat.le_refl _)
      have hkf := kept_far (a := a) (b := b) (by omega)
      have hsl := stepsV_len a b
      have hkl := keptV_le a b
      have HST := Lib.hid (steps_any _ _ a b w1 (HRA.out _ hb1) (HRB.out _ hb1) (by omega) (by omega))
      have HKF := Lib.hid hkf
      have HDL := Lib.hid hdl
      clear hl hl2 hkf hdl
      go_wp2_with fail
      refine HST.out.mono ?_
      rintro e w2 ⟨v5, rfl, ho5, hb2⟩
      have hb3 := hb1.trans (hb2.mono hb1.size)
      obtain ⟨a5, c5, rfl, -, hi5⟩ := ho5.row.shape
      have HO5 := Lib.hid ho5
      have HI5 := Lib.hid hi5
      have hs2 := hb3.size
      have HSL := Lib.hid hsl
      obtain ⟨L, hL⟩ : ∃ L, L = (stepsV a b).length := ⟨_, rfl⟩
      rw [← hL] at hsl
      have HLL := Lib.hid hL
      rw [← hL] at HO5 ⊢
      clear hb1 hb2 ho5 hi5 hL
      go_wp2_with fail
      go_loopw [6, 25] (fun x i wr => ∃ m : Nat, m ≤ L ∧ i = .int .i64 m ∧ x = .int .i64 (cntS 1 ((stepsV a b).take m) : Nat) ∧ Below w2.heap.size w2 wr) (fun _ i _ => L - (intOf i).toNat)
      case atStart => exact ⟨0, Nat.zero_le _, rfl, rfl, Below.refl _ _⟩
      case round =>
        obtain ⟨m, hm, rfl, rfl, hbe⟩ := hrel
        have hc1 := cntS_le 1 ((stepsV a b).take m)
        have hc2 : cntS 1 ((stepsV a b).take m) ≤ 120 := Nat.le_trans hc1 (by rw [List.length_take]; omega)
        clear hc1
        by_cases h1 : m < L
        · have hmL : m < (stepsV a b).length := by have := HLL.out; omega
          obtain ⟨gb, ob, rfl, hc⟩ := HI5.out m _ (List.getElem?_eq_getElem hmL)
          have d0 : wr.cell? ⟨gb, ob + m, none⟩ = some (.int .i64 (stepsV a b)[m]) := cell_below hbe hc
          have HS : Hid (cntS 1 ((stepsV a b).take (m + 1)) = cntS 1 ((stepsV a b).take m) + (if (stepsV a b)[m] = 1 then 1 else 0)) := by
            show _ = _
            rw [take_snocL hmL, cntS_append]
            simp [cntS]
          clear hc
          by_cases hk : (stepsV a b)[m] = 1
          · have e3 : ((stepsV a b)[m] == 1) = true := by simp [hk]
            have HS2 := Lib.hid (HS.out.trans (by rw [if_pos hk] : _ = cntS 1 ((stepsV a b).take m) + 1))
            clear hk
            go_wp2_with fail
            go_roundw
            case rel => exact ⟨m + 1, by omega, by go_num, by rw [HS2.out]; go_num, hbe⟩
            case measure => simp only [intOf]; omega
          · have e3 : ((stepsV a b)[m] == 1) = false := by simpa using hk
            have HS2 := Lib.hid (HS.out.trans (by rw [if_neg hk, Nat.add_zero] : _ = cntS 1 ((stepsV a b).take m)))
            clear hk
            go_wp2_with fail
            go_roundw
            case rel => exact ⟨m + 1, by omega, by go_num, by rw [HS2.out], hbe⟩
            case measure => simp only [intOf]; omega
        · obtain rfl : m = L := by omega
          have hbw := hb3.trans (hbe.mono hs2)
          have HK : Hid (cntS 1 ((stepsV a b).take m) = keptV a b) := by show _ = _; rw [HLL.out, List.take_length]; rfl
          have HT := Lib.hid (table_any _ _ a b wr (HRA.out _ hbw) (HRB.out _ hbw) (by omega) (by omega))
          rw [HK.out] at hc2 ⊢
          clear h1 hsl
          go_wp2_with fail
          refine HT.out.mono ?_
          rintro e w3 ⟨rfl, ⟨lim, htab⟩, hb4⟩
          obtain ⟨g0, h01, h02, h03, h04⟩ := htab 0 (Nat.le_refl _) (Nat.zero_le _)
          have d1 := h04 0 (Nat.zero_le _)
          have ht0 : tab a b 0 0 = dist a b := by unfold tab; rfl
          rw [ht0] at d1
          have hb5 := hbw.trans (hb4.mono hbw.size)
          have HO6 := Lib.hid ((HO5.out.stays hbe).stays hb4)
          have HAL := Lib.hid (align_any _ _ a b w3 (HRA.out _ hb5) (HRB.out _ hb5) (by omega) (by omega))
          clear htab h01 h02 h04 ht0 hb4 hbe hbw
          go_wp2_with fail
          refine HAL.out.mono ?_
          rintro e w4 ⟨v6, rfl, ho6, hb6⟩
          have hb7 := hb5.trans (hb6.mono hb5.size)
          have HRU := Lib.hid (runs_any _ (stepsV a b) w4 ((HO6.out.stays hb6).row) (by have := HSL.out; omega))
          clear hb5 hb6
          go_wp2_with fail
          refine HRU.out.mono ?_
          rintro e w5 ⟨v7, rfl, ho7, hb8⟩
          have hb9 := hb7.trans (hb8.mono hb7.size)
          have HSA := Lib.hid (same_any v6 v7 (alignV a b) w5 ((OwnS.stays ho6 hb8).row) ho7.row (by have := (runsV_good (stepsV a b)).2; have := HSL.out; show (runsV (stepsV a b)).length ≤ _; omega))
          clear ho6 ho7 hb7 hb8
          go_wp2_with fail
          refine HSA.out.mono ?_
          rintro e w6 ⟨rfl, hb10⟩
          have hb11 := hb9.trans (hb10.mono hb9.size)
          have hdi := distance_any _ _ a b w6 (by omega) (by omega) (HRA.out _ hb11) (HRB.out _ hb11)
          rw [show farV a b = dist a b from by have := HDL.out; unfold farV; omega] at hdi
          have HDI := Lib.hid hdi
          clear hb9 hb10 hdi
          go_wp2_with fail
          refine HDI.out.mono ?_
          rintro e w7 ⟨rfl, hb12⟩
          have hb13 := hb11.trans (hb12.mono hb11.size)
          have HCO := Lib.hid (common_any _ _ a b w7 (HRA.out _ hb13) (HRB.out _ hb13) (by omega) (by omega))
          clear hb11 hb12
          go_wp2_with fail
          refine HCO.out.mono ?_
          rintro e w8 ⟨rfl, hb14⟩
          have hb15 := hb13.trans (hb14.mono hb13.size)
          have e9 : ((dist a b : Int) == (a.length : Int) + b.length - 2 * (keptV a b : Nat)) = true := by have := HKF.out; simp; omega
          clear hb13 hb14
          go_wp2_with fail
          go_ret
          exact ⟨rfl, hb15⟩
end Go.Proofs.Ytidfjemblidjkaa
