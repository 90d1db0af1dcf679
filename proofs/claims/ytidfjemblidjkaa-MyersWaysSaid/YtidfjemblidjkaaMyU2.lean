/- The walk of the reference's Way. -/
import Derived.Test.YtidfjemblidjkaaMyU
import Derived.BigQuiet
import Derived.Deep.QuietTactic
namespace Go.Proofs.Ytidfjemblidjkaa
open Go Go.RowKit
set_option linter.unusedVariables false
set_option maxRecDepth 100000 in
set_option maxHeartbeats 8000000 in
theorem wayRef_any (vr va vb : Value) (rs : List Rn) (a b : List Int) (w : World) (hr : RowS rnC w vr rs) (hra : RowZ w va a) (hrb : RowZ w vb b) (hN : ∀ r ∈ rs, r.2 ≤ 100000) (hl : rs.length ≤ 100000) (hla : a.length ≤ 1000) (hlb : b.length ≤ 1000) :
    Calls Try.prog 23 #[vr, va, vb] w fun e w' => e = .returned (.bool (wayB rs a b)) ∧ Below w.heap.size w w' := by
  have HN := Lib.hid hN
  obtain ⟨a0, c0, rfl, -, hin⟩ := hr.shape rnC_len
  have HIN := Lib.hid hin
  obtain ⟨aa, ca, rfl, -, hia⟩ := hra.gen.shape
  obtain ⟨ab, cb, rfl, -, hib⟩ := hrb.gen.shape
  have HIA := Lib.hid hia
  have HIB := Lib.hid hib
  clear hr hin hN hra hrb hia hib
  go_enter Try.func23, Try.ntmps23
  go_wp2_with fail
  go_loopw [7, 8, 14] (fun xx yy i wr => ∃ m x y : Nat, m ≤ rs.length ∧ x ≤ a.length ∧ y ≤ b.length ∧ i = .int .i64 m ∧ xx = .int .i64 x ∧ yy = .int .i64 y ∧ Hid (rightB (rs.take m) = true) ∧ Hid (wayP (stepsOf (rs.drop m)) (a.drop x) (b.drop y) = wayP (stepsOf rs) a b) ∧ Below w.heap.size w wr) (fun _ _ i _ => rs.length - (intOf i).toNat)
  case atStart => exact ⟨0, 0, 0, Nat.zero_le _, Nat.zero_le _, Nat.zero_le _, rfl, rfl, rfl, rfl, by show _ = _; simp, Below.refl _ _⟩
  case round =>
    obtain ⟨m, x, y, hm, hx, hy, rfl, rfl, rfl, HR, HW, hbe⟩ := hrel
    by_cases h1 : m < rs.length
    · obtain ⟨⟨k, c⟩, hq⟩ : ∃ r, rs[m]? = some r := ⟨_, List.getElem?_eq_getElem h1⟩
      have hc2 : c ≤ 100000 := HN.out (k, c) (List.mem_of_getElem? hq)
      obtain ⟨gb, ob, rfl, hc⟩ := HIN.out m _ hq
      have d0 := cell_below hbe (hc 0 (.int .i64 k) rfl)
      have d1 := cell_below hbe (hc 1 (.int .i64 c) rfl)
      rw [Nat.add_zero] at d0
      rw [← Nat.add_assoc] at d1
      have hbW := hbe.alloc hbe.size (.cells #[.int .i64 k, .int .i64 c] 42)
      by_cases hr : rightR (k, c) = true
      · have HR2 := Lib.hid (right_next hq HR.out hr)
        have HS := Lib.hid (stepsOf_at hq)
        have hr' := hr
        unfold rightR at hr'
        simp at hr'
        have hk1 : 1 ≤ k := hr'.1
        have hk2 : k ≤ 3 := hr'.2.1
        have hc1 : 1 ≤ c := hr'.2.2
        obtain ⟨C, rfl⟩ := Int.eq_ofNat_of_zero_le (by omega : 0 ≤ c)
        have hcA := CellsAt.new wr #[.int .i64 k, .int .i64 C] 42
        have e1 : decide (k < 1) = false := by simp; omega
        have e2 : decide (k > 3) = false := by simp; omega
        have e3 : decide ((C : Int) < 1) = false := by simp; omega
        clear hc hq hbe hr' hr
        go_wp2_with fail
        obtain ⟨W, hW⟩ : ∃ W : World, W = wr.alloc (.cells #[.int .i64 k, .int .i64 C] 42) := ⟨_, rfl⟩
        obtain ⟨gs, hgs⟩ : ∃ gs, gs = wr.heap.size := ⟨_, rfl⟩
        rw [← hgs] at hcA ⊢
        rw [← hW] at hcA hbW ⊢
        clear hW hgs d0 d1 e1 e2 e3
        have HWT : Hid (wayP (List.replicate C k ++ stepsOf (rs.drop (m + 1))) (a.drop x) (b.drop y) = wayP (stepsOf rs) a b) := by
          show _ = _; rw [← HW.out, HS.out]; rfl
        clear HS
        go_loopw [7, 8, 11] (fun xx yy i wr => ∃ n x y : Nat, n ≤ C ∧ x ≤ a.length ∧ y ≤ b.length ∧ i = .int .i64 n ∧ xx = .int .i64 x ∧ yy = .int .i64 y ∧ Hid (wayP (List.replicate (C - n) k ++ stepsOf (rs.drop (m + 1))) (a.drop x) (b.drop y) = wayP (stepsOf rs) a b) ∧ Below W.heap.size W wr) (fun _ _ i _ => C - (intOf i).toNat)
        case atStart => exact ⟨0, x, y, Nat.zero_le _, hx, hy, rfl, rfl, rfl, by show _ = _; exact HWT.out, Below.refl _ _⟩
        case round =>
          clear HWT HW hx hy
          obtain ⟨n, x, y, hn, hx, hy, rfl, rfl, rfl, HW, hbi⟩ := hrel
          have hcB := hcA.stays hbi
          have f0 := hcB.cell 0 (v := .int .i64 k) rfl
          have f1 := hcB.cell 1 (v := .int .i64 C) rfl
          have hbe := hbW.trans (hbi.mono hbW.size)
          clear hcB
          by_cases h2 : n < C
          · have HW2 : Hid (wayP (k :: (List.replicate (C - (n + 1)) k ++ stepsOf (rs.drop (m + 1)))) (a.drop x) (b.drop y) = wayP (stepsOf rs) a b) := by
              show _ = _; rw [← HW.out, show C - n = (C - (n + 1)) + 1 from by omega, List.replicate_succ, List.cons_append]
            clear HW
            rcases (show k = 1 ∨ k = 2 ∨ k = 3 by omega) with rfl | rfl | rfl
            · by_cases h3 : x < a.length
              · have e1 : decide ((x : Int) ≥ a.length) = false := by simp; omega
                have e1_ : decide (a.length ≤ x) = false := by simp; omega
                by_cases h4 : y < b.length
                · have e2 : decide ((y : Int) ≥ b.length) = false := by simp; omega
                  have e2_ : decide (b.length ≤ y) = false := by simp; omega
                  obtain ⟨gb, ob, rfl, hcb⟩ := HIB.out y _ (List.getElem?_eq_getElem h4)
                  obtain ⟨ga, oa, rfl, hca⟩ := HIA.out x _ (List.getElem?_eq_getElem h3)
                  have d3 : wr.cell? ⟨ga, oa + x, none⟩ = some (.int .i64 a[x]) := cell_below hbe hca
                  have d4 : wr.cell? ⟨gb, ob + y, none⟩ = some (.int .i64 b[y]) := cell_below hbe hcb
                  clear hca hcb
                  by_cases h5 : a[x] = b[y]
                  · have e3 : (a[x] != b[y]) = false := by simp [h5]
                    have HW3 := Lib.hid ((way1_yes h3 h4 h5).symm.trans HW2.out)
                    clear HW2 h5
                    go_wp2_with fail
                    go_quiet (fail)
                    go_wp2_with fail
                    go_roundw
                    case rel => exact ⟨n + 1, x + 1, y + 1, by omega, by omega, by omega, by go_num, by go_num, by go_num, HW3, below_drewN hbi⟩
                    case measure => simp only [intOf]; omega
                  · have e3 : (a[x] != b[y]) = true := by simp [h5]
                    have HF := Lib.hid (wayB_no (HW2.out.symm.trans (way1_no h3 h4 h5)))
                    clear HW2
                    go_wp2_with fail
                    go_quiet (fail)
                    go_wp2_with fail
                    go_ret
                    exact ⟨ret1 (by rw [HF.out]; rfl), below_drewN hbe⟩
                · have e2 : decide ((y : Int) ≥ b.length) = true := by simp; omega
                  have e2_ : decide (b.length ≤ y) = true := by simp; omega
                  have HF := Lib.hid (wayB_no (HW2.out.symm.trans (way1_b (by omega))))
                  clear HW2
                  go_wp2_with fail
                  go_quiet (fail)
                  go_wp2_with fail
                  go_ret
                  exact ⟨ret1 (by rw [HF.out]; rfl), below_drewN hbe⟩
              · have e1 : decide ((x : Int) ≥ a.length) = true := by simp; omega
                have e1_ : decide (a.length ≤ x) = true := by simp; omega
                have HF := Lib.hid (wayB_no (HW2.out.symm.trans (way1_a (by omega))))
                clear HW2
                go_wp2_with fail
                go_quiet (fail)
                go_wp2_with fail
                go_ret
                exact ⟨ret1 (by rw [HF.out]; rfl), below_drewN hbe⟩
            · by_cases h3 : x < a.length
              · have e1 : decide ((x : Int) ≥ a.length) = false := by simp; omega
                have e1_ : decide (a.length ≤ x) = false := by simp; omega
                have HW3 := Lib.hid ((way2_yes h3).symm.trans HW2.out)
                clear HW2 
                go_wp2_with fail
                go_quiet (fail)
                go_wp2_with fail
                go_roundw
                case rel => exact ⟨n + 1, x + 1, y, by omega, by omega, by omega, by go_num, by go_num, rfl, HW3, below_drewN hbi⟩
                case measure => simp only [intOf]; omega
              · have e1 : decide ((x : Int) ≥ a.length) = true := by simp; omega
                have e1_ : decide (a.length ≤ x) = true := by simp; omega
                have HF := Lib.hid (wayB_no (HW2.out.symm.trans (way2_a (by omega))))
                clear HW2
                go_wp2_with fail
                go_quiet (fail)
                go_wp2_with fail
                go_ret
                exact ⟨ret1 (by rw [HF.out]; rfl), below_drewN hbe⟩
            · by_cases h4 : y < b.length
              · have e2 : decide ((y : Int) ≥ b.length) = false := by simp; omega
                have e2_ : decide (b.length ≤ y) = false := by simp; omega
                have HW3 := Lib.hid ((way3_yes h4).symm.trans HW2.out)
                clear HW2 
                go_wp2_with fail
                go_quiet (fail)
                go_wp2_with fail
                go_roundw
                case rel => exact ⟨n + 1, x, y + 1, by omega, by omega, by omega, by go_num, rfl, by go_num, HW3, below_drewN hbi⟩
                case measure => simp only [intOf]; omega
              · have e2 : decide ((y : Int) ≥ b.length) = true := by simp; omega
                have e2_ : decide (b.length ≤ y) = true := by simp; omega
                have HF := Lib.hid (wayB_no (HW2.out.symm.trans (way3_b (by omega))))
                clear HW2
                go_wp2_with fail
                go_quiet (fail)
                go_wp2_with fail
                go_ret
                exact ⟨ret1 (by rw [HF.out]; rfl), below_drewN hbe⟩
          · obtain rfl : n = C := by omega
            have HW3 : Hid (wayP (stepsOf (rs.drop (m + 1))) (a.drop x) (b.drop y) = wayP (stepsOf rs) a b) := by
              show _ = _; rw [← HW.out, Nat.sub_self]; rfl
            clear HW
            go_wp2_with fail
            go_roundw
            case rel => exact ⟨m + 1, x, y, by omega, hx, hy, by go_num, rfl, rfl, HR2, HW3, hbe⟩
            case measure => simp only [intOf]; omega
      · have HF := Lib.hid (wayB_bad (a := a) (b := b) hq (by simpa using hr))
        have hr' : k < 1 ∨ 3 < k ∨ c < 1 := by
          by_cases h5 : k < 1 ∨ 3 < k ∨ c < 1
          · exact h5
          · exact absurd (rightR_yes (k := k) (c := c) (by omega) (by omega) (by omega)) hr
        clear hc hq hbe hr
        by_cases hk : k < 1
        · have e1 : decide (k < 1) = true := by simpa using hk
          go_wp2_with fail
          go_ret
          exact ⟨ret1 (by rw [HF.out]; rfl), hbW⟩
        · have e1 : decide (k < 1) = false := by simpa using hk
          by_cases hk3 : 3 < k
          · have e2 : decide (k > 3) = true := by simpa using hk3
            go_wp2_with fail
            go_ret
            exact ⟨ret1 (by rw [HF.out]; rfl), hbW⟩
          · have e2 : decide (k > 3) = false := by simpa using hk3
            have e3 : decide (c < 1) = true := by simp; omega
            go_wp2_with fail
            go_ret
            exact ⟨ret1 (by rw [HF.out]; rfl), hbW⟩
    · obtain rfl : rs.length = m := by omega
      have HF : Hid (wayB rs a b = (decide (x = a.length) && decide (y = b.length))) := by
        show _ = _
        have h2 := HR.out
        rw [List.take_length] at h2
        have h3 := HW.out
        rw [List.drop_length] at h3
        unfold wayB
        rw [h2, ← h3]
        exact way_end hx hy
      by_cases h3 : x = a.length
      · subst h3
        by_cases h4 : y = b.length
        · subst h4
          have HF2 : Hid (wayB rs a b = true) := by show _ = _; rw [HF.out]; simp
          go_wp2_with fail
          go_ret
          exact ⟨ret1 (by rw [HF2.out]; rfl), hbe⟩
        · have e2 : ((y : Int) == b.length) = false := by simp; omega
          have HF2 : Hid (wayB rs a b = false) := by show _ = _; rw [HF.out]; simp [h4]
          clear h4 HF
          go_wp2_with fail
          go_ret
          exact ⟨ret1 (by rw [HF2.out]; rfl), hbe⟩
      · have e2 : ((x : Int) == a.length) = false := by simp; omega
        have HF2 : Hid (wayB rs a b = false) := by show _ = _; rw [HF.out]; simp [h3]
        clear h3 HF
        go_wp2_with fail
        go_ret
        exact ⟨ret1 (by rw [HF2.out]; rfl), hbe⟩
end Go.Proofs.Ytidfjemblidjkaa
