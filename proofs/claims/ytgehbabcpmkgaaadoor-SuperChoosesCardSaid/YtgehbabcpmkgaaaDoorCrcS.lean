/- The sum of bytes, in plain Lean: bit by bit, and by rows of four bits. -/
import Derived.Test.YtgehbabcpmkgaaaDoorLib
namespace Go.Proofs.YtgehbabcpmkgaaaDoor
set_option linter.unusedVariables false
/-- one bit -/
def cstep (x : Nat) : Nat := if x % 2 = 1 then (x / 2) ^^^ 3988292384 else x / 2
/-- so many bits -/
def citer : Nat → Nat → Nat
  | 0, x => x
  | k + 1, x => citer k (cstep x)
theorem citer_snoc : ∀ k x, citer (k + 1) x = cstep (citer k x)
  | 0, _ => rfl
  | k + 1, x => citer_snoc k (cstep x)
theorem citer_add : ∀ k l x, citer (k + l) x = citer l (citer k x)
  | 0, l, x => by rw [Nat.zero_add]; rfl
  | k + 1, l, x => by rw [Nat.succ_add]; exact citer_add k l (cstep x)
theorem cstep_lt {x : Nat} (h : x < 4294967296) : cstep x < 4294967296 := by
  unfold cstep
  split
  · exact Nat.xor_lt_two_pow (n := 32) (by omega) (by decide)
  · omega
theorem citer_lt : ∀ k {x : Nat}, x < 4294967296 → citer k x < 4294967296
  | 0, _, h => h
  | k + 1, _, h => citer_lt k (cstep_lt h)
theorem xor_half (a b : Nat) : (a ^^^ b) / 2 = a / 2 ^^^ b / 2 := by
  have := Nat.shiftRight_xor_distrib (a := a) (b := b) (i := 1)
  simpa [Nat.shiftRight_succ] using this
theorem xor_low (a b : Nat) : (a ^^^ b) % 2 = (a % 2 + b % 2) % 2 := by
  have h := Nat.testBit_xor (x := a) (y := b) (i := 0)
  simp only [Nat.testBit_zero] at h
  have ha := Nat.mod_two_eq_zero_or_one a
  have hb := Nat.mod_two_eq_zero_or_one b
  have hc := Nat.mod_two_eq_zero_or_one (a ^^^ b)
  rcases ha with ha | ha <;> rcases hb with hb | hb <;> rcases hc with hc | hc <;> rw [ha, hb, hc] at h <;> rw [ha, hb, hc] <;> simp at h
theorem xor_swap (a b c d : Nat) : (a ^^^ b) ^^^ (c ^^^ d) = (a ^^^ c) ^^^ (b ^^^ d) := by
  rw [Nat.xor_assoc, Nat.xor_assoc, ← Nat.xor_assoc b, ← Nat.xor_assoc c, Nat.xor_comm b c]
set_option linter.unusedSimpArgs false in
theorem cstep_xor (a b : Nat) : cstep (a ^^^ b) = cstep a ^^^ cstep b := by
  unfold cstep
  rw [xor_half, xor_low]
  rcases Nat.mod_two_eq_zero_or_one a with ha | ha <;> rcases Nat.mod_two_eq_zero_or_one b with hb | hb <;> rw [ha, hb] <;> simp only [Nat.zero_add, Nat.add_zero, Nat.zero_mod, Nat.reduceMod, Nat.reduceAdd, if_true, if_false, Nat.zero_ne_one]
  · rw [← Nat.xor_assoc]
  · rw [Nat.xor_assoc, Nat.xor_comm (b / 2), ← Nat.xor_assoc]
  · rw [xor_swap, Nat.xor_self, Nat.xor_zero]
theorem citer_xor : ∀ k a b, citer k (a ^^^ b) = citer k a ^^^ citer k b
  | 0, _, _ => rfl
  | k + 1, a, b => by
    show citer k (cstep (a ^^^ b)) = _
    rw [cstep_xor]; exact citer_xor k _ _
theorem cstep_double (y : Nat) : cstep (2 * y) = y := by
  unfold cstep
  rw [if_neg (by omega)]; omega
theorem citer_double : ∀ k y, citer k (2 ^ k * y) = y
  | 0, y => by simp [citer]
  | k + 1, y => by
    show citer k (cstep (2 ^ (k + 1) * y)) = y
    rw [Nat.pow_succ, Nat.mul_comm (2 ^ k) 2, Nat.mul_assoc, cstep_double]; exact citer_double k y
theorem citer_zero (k : Nat) : citer k 0 = 0 := by
  have := citer_double k 0
  simpa using this
theorem xor_split (k x : Nat) : 2 ^ k * (x / 2 ^ k) ^^^ x % 2 ^ k = x := by
  apply Nat.eq_of_testBit_eq
  intro i
  rw [Nat.testBit_xor, Nat.testBit_mod_two_pow, Nat.testBit_two_pow_mul, Nat.testBit_div_two_pow]
  by_cases h : i < k
  · have h2 : ¬ i ≥ k := by omega
    simp [h, h2]
  · have h2 : i ≥ k := by omega
    simp [h, h2, Nat.sub_add_cancel h2]
/-- four bits at one time, by a row of sixteen -/
theorem citer_row (x : Nat) : citer 4 x = x / 16 ^^^ citer 4 (x % 16) := by
  have h := xor_split 4 x
  conv => lhs; rw [← h]
  rw [citer_xor, citer_double]
/-- one byte -/
def cbyte (x : Nat) (c : UInt8) : Nat := citer 8 (x ^^^ c.toNat)
theorem cbyte_lt {x : Nat} (h : x < 4294967296) (c : UInt8) : cbyte x c < 4294967296 :=
  citer_lt 8 (Nat.xor_lt_two_pow (n := 32) h (by have := c.toNat_lt; omega))
theorem cbyte_xor (x y : Nat) (c d : UInt8) : cbyte (x ^^^ y) (c ^^^ d) = cbyte x c ^^^ cbyte y d := by
  unfold cbyte
  rw [UInt8.toNat_xor, xor_swap, citer_xor]
/-- all bytes -/
def cfold (x : Nat) (bs : List UInt8) : Nat := bs.foldl cbyte x
theorem cfold_lt {x : Nat} (h : x < 4294967296) (bs : List UInt8) : cfold x bs < 4294967296 := by
  unfold cfold
  induction bs generalizing x with
  | nil => exact h
  | cons b bs ih => exact ih (cbyte_lt h b)
theorem cfold_append (x : Nat) (a b : List UInt8) : cfold x (a ++ b) = cfold (cfold x a) b := List.foldl_append
theorem cfold_take {x : Nat} {bs : List UInt8} {k : Nat} {c : UInt8} (h : bs[k]? = some c) : cfold x (bs.take (k + 1)) = cbyte (cfold x (bs.take k)) c := by
  rw [List.take_add_one, h, cfold_append]; rfl
/-- the sum that goes on -/
def cnot (x : Nat) : Nat := x ^^^ 4294967295
theorem cnot_lt {x : Nat} (h : x < 4294967296) : cnot x < 4294967296 := Nat.xor_lt_two_pow (n := 32) h (by decide)
theorem cnot_cnot (x : Nat) : cnot (cnot x) = x := by unfold cnot; rw [Nat.xor_assoc, Nat.xor_self, Nat.xor_zero]
def cmore (sum : Nat) (bs : List UInt8) : Nat := cnot (cfold (cnot sum) bs)
def csum (bs : List UInt8) : Nat := cmore 0 bs
theorem csum_lt (bs : List UInt8) : csum bs < 4294967296 := cnot_lt (cfold_lt (cnot_lt (by decide)) bs)
theorem cmore_lt {s : Nat} (h : s < 4294967296) (bs : List UInt8) : cmore s bs < 4294967296 := cnot_lt (cfold_lt (cnot_lt h) bs)
theorem cmore_append (s : Nat) (a b : List UInt8) : cmore (cmore s a) b = cmore s (a ++ b) := by
  unfold cmore; rw [cnot_cnot, cfold_append]
end Go.Proofs.YtgehbabcpmkgaaaDoor
