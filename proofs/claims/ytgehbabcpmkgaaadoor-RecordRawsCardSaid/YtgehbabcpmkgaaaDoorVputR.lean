/- The reference's Put (a number's varint, by recursion), and varint.Size. Every number. -/
import Derived.Test.YtgehbabcpmkgaaaDoorVput
namespace Go.Proofs.YtgehbabcpmkgaaaDoor
open Go Go.RowKit
set_option linter.unusedVariables false
theorem vput_size : ∀ (k n : Nat), 0 < k → n < 128 ^ k → (1 < k → 128 ^ (k - 1) ≤ n) → (vput n).length = k
  | 0, n, h, _, _ => by omega
  | 1, n, _, h, _ => by rw [vput_lo (by simpa using h)]; rfl
  | k + 2, n, _, h, h2 => by
    have h3 := h2 (by omega)
    simp only [show k + 2 - 1 = k + 1 from rfl] at h3
    have hp : 128 ≤ 128 ^ (k + 1) := by
      have := Nat.pow_le_pow_right (n := 128) (by omega) (show 1 ≤ k + 1 by omega)
      simpa using this
    rw [vput_hi (by omega), List.length_cons, vput_size (k + 1) (n / 128) (by omega)]
    · rw [Nat.div_lt_iff_lt_mul (by omega)]; rw [Nat.pow_succ] at h; exact h
    · intro h4
      simp only [Nat.add_sub_cancel]
      rw [Nat.le_div_iff_mul_le (by omega)]
      rw [Nat.pow_succ] at h3; exact h3
theorem or1 (n : Nat) : n ||| 1 = n / 2 * 2 + 1 := by
  have h := nat_join 1 (n / 2 * 2) 1 (by simp) (by decide)
  rw [← h]
  apply Nat.eq_of_testBit_eq
  intro i
  rcases i with _ | i
  · simp [Nat.testBit_zero]
  · rw [Nat.testBit_or, Nat.testBit_or]
    simp only [Nat.testBit_succ, show n / 2 * 2 / 2 = n / 2 from by omega]
theorem size_of_len {n : Nat} {L : Nat} (h : IsLen ((n / 2 * 2 + 1 : Nat) : Int) L) : (L + 6) / 7 = (vput n).length := by
  obtain ⟨h1, h2, h3⟩ := h
  rcases h3 with ⟨h3, _⟩ | ⟨h3, h4⟩
  · omega
  have h2' : n / 2 * 2 + 1 < 2 ^ L := by exact_mod_cast h2
  have h3' : 2 ^ (L - 1) ≤ n / 2 * 2 + 1 := by exact_mod_cast h3
  have hn1 : n < 2 ^ L := by
    have : 2 ^ L = 2 * 2 ^ (L - 1) := by rw [← Nat.pow_succ']; congr 1; omega
    omega
  have hn2 : 1 < L → 2 ^ (L - 1) ≤ n := fun h => by
    have : 2 ^ (L - 1) = 2 * 2 ^ (L - 2) := by rw [← Nat.pow_succ']; congr 1; omega
    omega
  symm
  refine vput_size ((L + 6) / 7) n (by omega) ?_ ?_
  · refine Nat.lt_of_lt_of_le hn1 ?_
    rw [show 128 = 2 ^ 7 from rfl, ← Nat.pow_mul]
    exact Nat.pow_le_pow_right (by omega) (by omega)
  · intro hk
    refine Nat.le_trans ?_ (hn2 (by omega))
    rw [show 128 = 2 ^ 7 from rfl, ← Nat.pow_mul]
    exact Nat.pow_le_pow_right (by omega) (by omega)
theorem bits_or1 (n : Nat) (hn : n < 18446744073709551616) : bits .or .u64 (n : Int) 1 = ((n / 2 * 2 + 1 : Nat) : Int) := by
  rw [u64_or _ _ (by omega) (by omega) (by omega) (by omega)]
  rw [Int.toNat_natCast, show (1 : Int).toNat = 1 from rfl, or1]
theorem vSize_any (n : Nat) (w : World) (h1 : n < 18446744073709551616) :
    Calls Tryd.prog 120 #[.int .u64 n] w fun e w' => e = .returned (.int .i64 (vput n).length) ∧ w = w' := by
  have hb := Lib.hid (bits_or1 n h1)
  have hs := fun L => size_of_len (n := n) (L := L)
  have h1' : (n : Int) ≤ 18446744073709551615 := by omega
  have h2' : (((n / 2 * 2 + 1 : Nat)) : Int) ≤ 18446744073709551615 := by omega
  have HS := Lib.hid hs
  clear h1 hs
  go_enter Tryd.func120, Tryd.ntmps120
  go_wp2_with fail
  rw [hb.out]
  refine (len64_any _ w (by omega) h2').mono ?_
  rintro e w1 ⟨⟨L, rfl, hL⟩, rfl⟩
  have hL64 := hL.1
  have HL := Lib.hid (HS.out L hL)
  clear hL HS
  go_wp2
  go_ret
  refine ⟨?_, rfl⟩
  rw [← HL.out]
  exact congrArg (fun x => Ending.returned (.int .i64 x)) (by omega)
set_option maxRecDepth 100000 in
theorem vPutR_any : ∀ (f n : Nat) (w : World), n < 128 ^ (f + 1) → n < 18446744073709551616 →
    Calls Tryd.prog 84 #[.int .u64 n] w fun e w' => ∃ v', e = .returned v' ∧ OwnB w.heap.size w' v' (vput n) ∧ Below w.heap.size w w' := by
  intro f
  induction f with
  | zero =>
    intro n w h0 h1
    have hlt : n < 128 := by simpa using h0
    clear h0 h1
    go_enter Tryd.func84, Tryd.ntmps84
    go_wp2_with fail
    go_ret
    refine ⟨_, rfl, ?_, (Below.refl _ _).alloc (Nat.le_refl _) _⟩
    rw [vput_lo hlt]
    exact OwnB.one w (by rw [BV_b8]; congr 1; omega)
  | succ f ih =>
    intro n w h0 h1
    by_cases hlt : n < 128
    · clear h0 h1 ih
      go_enter Tryd.func84, Tryd.ntmps84
      go_wp2_with fail
      go_ret
      refine ⟨_, rfl, ?_, (Below.refl _ _).alloc (Nat.le_refl _) _⟩
      rw [vput_lo hlt]
      exact OwnB.one w (by rw [BV_b8]; congr 1; omega)
    · have ih' := fun w => ih (n / 128) w (by rw [Nat.div_lt_iff_lt_mul (by omega)]; rw [Nat.pow_succ] at h0; exact h0) (by omega)
      have IH := Lib.hid ih'
      have h1' : (n : Int) ≤ 18446744073709551615 := by omega
      have hl10 := vput_len10 (n / 128) (by omega)
      clear h0 h1 ih ih'
      go_enter Tryd.func84, Tryd.ntmps84
      go_wp2_with fail
      rw [show ((n : Int) / 128) = ((n / 128 : Nat) : Int) from by omega]
      refine (IH.out _).mono ?_
      rintro e w1 ⟨v1, rfl, ho1, hb1⟩
      have hone : OwnB w.heap.size w1 (.slice (some ⟨w.heap.size, 0, none⟩) 1 1) [b8 (n % 128 + 128)] := (OwnB.one w (by rw [BV_b8]; congr 1; omega)).stays hb1
      have hb0 : Below w.heap.size w w1 := ((Below.refl _ _).alloc (Nat.le_refl _) _).trans (hb1.mono (by simp))
      have hsz := hb0.size
      clear IH hb1
      go_wp2_with (at_builtin; go_must (refine wpList_appendB hone ho1.row (by simp; omega) (by omega) rfl _ _ rfl (by rfl) (by rfl) ?_))
      intro v' w' how hg _ _
      have hb2 := hone.below hb0 hg hsz
      clear hg
      go_wp2
      go_ret
      refine ⟨_, rfl, ?_, hb2⟩
      rw [vput_hi hlt]
      exact how
theorem vPutR_all (n : Nat) (w : World) (h : n < 18446744073709551616) :
    Calls Tryd.prog 84 #[.int .u64 n] w fun e w' => ∃ v', e = .returned v' ∧ OwnB w.heap.size w' v' (vput n) ∧ Below w.heap.size w w' := by
  refine vPutR_any 9 n w (Nat.lt_of_lt_of_le h ?_) h
  rw [show (128 : Nat) ^ (9 + 1) = 1180591620717411303424 from by decide +kernel]
  decide +kernel
end Go.Proofs.YtgehbabcpmkgaaaDoor
