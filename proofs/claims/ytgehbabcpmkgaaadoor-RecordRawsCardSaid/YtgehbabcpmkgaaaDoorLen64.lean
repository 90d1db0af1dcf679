/- math/bits.Len64: how many bits a number has. Every number. -/
import Derived.Test.YtgehbabcpmkgaaaDoorLib
namespace Go.Proofs.YtgehbabcpmkgaaaDoor
open Go Go.RowKit
set_option linter.unusedVariables false
/-- L is how many bits n has -/
def IsLen (n : Int) (L : Nat) : Prop := L ≤ 64 ∧ n < 2 ^ L ∧ (n = 0 ∧ L = 0 ∨ (2 : Int) ^ (L - 1) ≤ n ∧ 0 < L)
def lenOK (T : ByteArray) : Bool := (List.range 256).all fun k => decide (k < 2 ^ (T.data[k]!.toNat)) && (k == 0 && T.data[k]!.toNat == 0 || decide (2 ^ (T.data[k]!.toNat - 1) ≤ k) && decide (0 < T.data[k]!.toNat)) && decide (T.data[k]!.toNat ≤ 8)
theorem len_close {T : ByteArray} (n q S : Int) (s : Nat) (P : Int) (hS : S = (s : Int)) (hP : P = 2 ^ s) (hs : s ≤ 56) (hlo : q * P ≤ n) (hhi : n < (q + 1) * P) (hq0 : 0 ≤ q) (hq1 : q < 256) (hpos : s = 0 ∨ 0 < q) (hk : q.toNat < T.size) (hT : lenOK T = true) :
    ∃ L : Nat, Ending.returned (.int .i64 (wrap64 (S + wrap64 (((T[q.toNat]'hk).toNat : Nat) : Int)))) = .returned (.int .i64 L) ∧ IsLen n L := by
  have hall := List.all_eq_true.1 hT q.toNat (List.mem_range.2 (by omega))
  have he : T.data[q.toNat]! = T[q.toNat]'hk := by
    show T.data[q.toNat]! = T.data[q.toNat]
    exact getElem!_pos T.data q.toNat hk
  rw [he] at hall
  generalize hy : (T[q.toNat]'hk).toNat = y at *
  simp only [Bool.and_eq_true, Bool.or_eq_true, decide_eq_true_eq, beq_iff_eq] at hall
  obtain ⟨⟨h1, h2⟩, h3⟩ := hall
  obtain ⟨k, rfl⟩ := Int.eq_ofNat_of_zero_le hq0
  simp only [Int.toNat_natCast] at *
  have hPp : 0 < P := by rw [hP]; exact Int.pow_pos (by decide)
  refine ⟨s + y, by rw [hS, IntWalk.wrap64_in y (by omega), IntWalk.wrap64_in _ (by omega)]; push_cast; rfl, by omega, ?_, ?_⟩
  · have h4 : ((k : Int) + 1) ≤ 2 ^ y := by exact_mod_cast h1
    calc n < ((k : Int) + 1) * P := hhi
      _ ≤ 2 ^ y * P := Int.mul_le_mul_of_nonneg_right h4 (by omega)
      _ = 2 ^ (s + y) := by rw [hP, Int.pow_add, Int.mul_comm]
  · rcases h2 with ⟨rfl, rfl⟩ | ⟨h2, h5⟩
    · rcases hpos with rfl | h
      · left
        refine ⟨?_, rfl⟩
        simp at hP
        subst hP
        simp at hlo hhi; omega
      · simp at h
    · right
      refine ⟨?_, by omega⟩
      have h4 : (2 : Int) ^ (y - 1) ≤ (k : Int) := by exact_mod_cast h2
      calc (2 : Int) ^ (s + y - 1) = 2 ^ (y - 1) * P := by rw [hP, ← Int.pow_add]; congr 1; omega
        _ ≤ (k : Int) * P := Int.mul_le_mul_of_nonneg_right h4 (by omega)
        _ ≤ n := hlo
theorem len_close0 {T : ByteArray} (n : Int) (hq0 : 0 ≤ n) (hq1 : n < 256) (hk : n.toNat < T.size) (hT : lenOK T = true) :
    ∃ L : Nat, Ending.returned (.int .i64 (wrap64 (wrap64 (((T[n.toNat]'hk).toNat : Nat) : Int)))) = .returned (.int .i64 L) ∧ IsLen n L := by
  have := len_close n n 0 0 1 rfl rfl (by decide) (by omega) (by omega) hq0 hq1 (.inl rfl) hk hT
  rwa [Int.zero_add] at this
set_option maxRecDepth 100000 in
theorem len64_any (n : Int) (w : World) (h0 : 0 ≤ n) (h1 : n ≤ 18446744073709551615) :
    Calls Tryd.prog 134 #[.int .u64 n] w fun e w' => (∃ L : Nat, e = .returned (.int .i64 L) ∧ IsLen n L) ∧ w = w' := by
  go_enter Tryd.func134, Tryd.ntmps134
  go_wp2
  all_goals go_ret
  · refine ⟨len_close n (n / 4294967296 / 65536 / 256) 56 56 72057594037927936 rfl (by decide) (by decide) (by omega) (by omega) (by omega) (by omega) (by omega) _ ?_, rfl⟩; decide +kernel
  · refine ⟨len_close n (n / 4294967296 / 65536) 48 48 281474976710656 rfl (by decide) (by decide) (by omega) (by omega) (by omega) (by omega) (by omega) _ ?_, rfl⟩; decide +kernel
  · refine ⟨len_close n (n / 4294967296 / 256) 40 40 1099511627776 rfl (by decide) (by decide) (by omega) (by omega) (by omega) (by omega) (by omega) _ ?_, rfl⟩; decide +kernel
  · refine ⟨len_close n (n / 4294967296) 32 32 4294967296 rfl (by decide) (by decide) (by omega) (by omega) (by omega) (by omega) (by omega) _ ?_, rfl⟩; decide +kernel
  · refine ⟨len_close n (n / 65536 / 256) 24 24 16777216 rfl (by decide) (by decide) (by omega) (by omega) (by omega) (by omega) (by omega) _ ?_, rfl⟩; decide +kernel
  · refine ⟨len_close n (n / 65536) 16 16 65536 rfl (by decide) (by decide) (by omega) (by omega) (by omega) (by omega) (by omega) _ ?_, rfl⟩; decide +kernel
  · refine ⟨len_close n (n / 256) 8 8 256 rfl (by decide) (by decide) (by omega) (by omega) (by omega) (by omega) (by omega) _ ?_, rfl⟩; decide +kernel
  · refine ⟨len_close0 n (by omega) (by omega) _ ?_, rfl⟩; decide +kernel
end Go.Proofs.YtgehbabcpmkgaaaDoor
