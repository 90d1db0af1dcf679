/- The plain law of CrcBursts: a fold over bytes is one number's run, bit by bit; turned bits within 32 in a row leave another rest. -/
import Derived.Test.YtjincjgapjekeaaDoorOpen
namespace Go.Proofs.YtjincjgapjekeaaDoor
open Go Go.RowKit
set_option linter.unusedVariables false
theorem add_xor_256 (c f : Nat) (h : c < 256) : c + 256 * f = c ^^^ (256 * f) := by
  have := xor_split 8 (c + 256 * f)
  rw [show (2 : Nat) ^ 8 = 256 from rfl, show (c + 256 * f) / 256 = f from by omega, show (c + 256 * f) % 256 = c from by omega] at this
  rw [Nat.xor_comm]; exact this.symm
theorem cfold_num : ∀ (bs : List UInt8) (x : Nat), cfold x bs = citer (8 * bs.length) (x ^^^ fixedV bs)
  | [], x => by simp [cfold, fixedV, citer]
  | c :: cs, x => by
    show cfold (cbyte x c) cs = _
    rw [cfold_num cs, List.length_cons, Nat.mul_add, Nat.mul_one, Nat.add_comm (8 * cs.length), citer_add]
    congr 1
    rw [fixedV, add_xor_256 _ _ (by have := c.toNat_lt; omega), ← Nat.xor_assoc, citer_xor]
    have := citer_double 8 (fixedV cs)
    rw [show (2 : Nat) ^ 8 = 256 from rfl] at this
    rw [this]; rfl
theorem cstep_zero {x : Nat} (h : x < 4294967296) (h0 : cstep x = 0) : x = 0 := by
  unfold cstep at h0
  split at h0
  · have : x / 2 = 3988292384 := by
      have := congrArg (fun z => z ^^^ 3988292384) h0
      simpa [Nat.xor_assoc] using this
    omega
  · omega
theorem citer_zero_inv : ∀ k {x : Nat}, x < 4294967296 → citer k x = 0 → x = 0
  | 0, _, _, h => h
  | k + 1, _, hx, h => cstep_zero hx (citer_zero_inv k (cstep_lt hx) h)
/-- what right bytes leave -/
theorem right_rest {bs : List UInt8} (h : openK bs = 0) : citer (8 * bs.length) (cnot 0 ^^^ fixedV bs) = citer 32 4294967295 := by
  unfold openK at h
  split at h
  · cases h
  · rename_i h4
    split at h
    · rename_i h2
      rw [← cfold_num]
      have e : bs = bs.take (bs.length - 4) ++ bs.drop (bs.length - 4) := (List.take_append_drop _ _).symm
      have hl : (bs.drop (bs.length - 4)).length = 4 := by simp; omega
      conv => lhs; rw [e]
      rw [cfold_append, cfold_num (bs.drop _), h2, hl]
      unfold csum cmore cnot
      rw [← Nat.xor_assoc, Nat.xor_self, Nat.zero_xor]
    · cases h
/-- one bit turned -/
theorem fixedV_flip : ∀ (l : List UInt8) (j : Nat) (r : Nat) (x : UInt8), l[j]? = some x → r < 8 → fixedV (l.set j (x ^^^ b8 (2 ^ r))) = fixedV l ^^^ 2 ^ (8 * j + r)
  | [], j, _, _, h, _ => by simp at h
  | c :: cs, 0, r, x, h, hr => by
    obtain rfl : c = x := by simpa using h
    have hp : 2 ^ r < 256 := by
      have : (2 : Nat) ^ r ≤ 2 ^ 7 := Nat.pow_le_pow_right (by decide) (by omega)
      have e : (2 : Nat) ^ 7 = 128 := rfl
      omega
    have h1 : (c ^^^ b8 (2 ^ r)).toNat = c.toNat ^^^ 2 ^ r := by rw [UInt8.toNat_xor, b8_toNat, Nat.mod_eq_of_lt hp]
    have h2 : c.toNat ^^^ 2 ^ r < 256 := Nat.xor_lt_two_pow (n := 8) c.toNat_lt hp
    simp only [List.set_cons_zero, fixedV, h1, Nat.mul_zero, Nat.zero_add]
    rw [add_xor_256 _ _ h2, add_xor_256 _ _ c.toNat_lt, Nat.xor_assoc, Nat.xor_comm (2 ^ r), ← Nat.xor_assoc]
  | c :: cs, j + 1, r, x, h, hr => by
    have ih := fixedV_flip cs j r x (by simpa using h) hr
    simp only [List.set_cons_succ, fixedV, ih]
    rw [add_xor_256 _ _ c.toNat_lt, add_xor_256 _ _ c.toNat_lt, Nat.xor_assoc]
    congr 1
    have := Nat.shiftLeft_xor_distrib (a := fixedV cs) (b := 2 ^ (8 * j + r)) (i := 8)
    simp only [Nat.shiftLeft_eq, show (2 : Nat) ^ 8 = 256 from rfl] at this
    rw [Nat.mul_comm, this, Nat.mul_comm, show 8 * (j + 1) + r = 8 * j + r + 8 from by omega, Nat.pow_add (2) (8 * j + r) 8]
theorem bit_low (m i : Nat) : m % 2 ^ (i + 1) = (if m / 2 ^ i % 2 = 1 then m % 2 ^ i ^^^ 2 ^ i else m % 2 ^ i) := by
  apply Nat.eq_of_testBit_eq
  intro j
  have hb : m.testBit i = decide (m / 2 ^ i % 2 = 1) := Nat.testBit_eq_decide_div_mod_eq
  by_cases hm : m / 2 ^ i % 2 = 1
  · rw [if_pos hm, Nat.testBit_mod_two_pow, Nat.testBit_xor, Nat.testBit_mod_two_pow, Nat.testBit_two_pow]
    rcases Nat.lt_trichotomy j i with h | h | h
    · simp [h, Nat.lt_succ_of_lt h, show ¬ i = j by omega]
    · subst h; simp [hb, hm]
    · simp [show ¬ j < i by omega, show ¬ j < i + 1 by omega, show ¬ i = j by omega]
  · rw [if_neg hm, Nat.testBit_mod_two_pow, Nat.testBit_mod_two_pow]
    rcases Nat.lt_trichotomy j i with h | h | h
    · simp [h, Nat.lt_succ_of_lt h]
    · subst h; simp [hb, hm]
    · simp [show ¬ j < i by omega, show ¬ j < i + 1 by omega]
/-- so many of the bits turned -/
def Turned (S T : List UInt8) (m k i : Nat) : Prop := T.length = S.length ∧ fixedV T = fixedV S ^^^ (m % 2 ^ i) * 2 ^ k
theorem Turned.start (S : List UInt8) (m k : Nat) : Turned S S m k 0 := ⟨rfl, by simp [Nat.mod_one]⟩
theorem Turned.leave {S T : List UInt8} {m k i : Nat} (h : Turned S T m k i) (hm : ¬ m / 2 ^ i % 2 = 1) : Turned S T m k (i + 1) := ⟨h.1, by rw [h.2, bit_low, if_neg hm]⟩
theorem Turned.turn {S T : List UInt8} {m k i : Nat} (h : Turned S T m k i) (hm : m / 2 ^ i % 2 = 1) {x : UInt8} (hx : T[(k + i) / 8]? = some x) : Turned S (T.set ((k + i) / 8) (x ^^^ b8 (2 ^ ((k + i) % 8)))) m k (i + 1) := by
  refine ⟨by rw [List.length_set]; exact h.1, ?_⟩
  rw [fixedV_flip T _ _ x hx (by omega), h.2, bit_low, if_pos hm, show 8 * ((k + i) / 8) + (k + i) % 8 = i + k from by omega, Nat.xor_assoc]
  congr 1
  have := Nat.shiftLeft_xor_distrib (a := m % 2 ^ i) (b := 2 ^ i) (i := k)
  simp only [Nat.shiftLeft_eq] at this
  rw [this, Nat.pow_add]
theorem Turned.wrong {S T : List UInt8} {m k : Nat} (h : Turned S T m k 32) (hm : 0 < m) (hm32 : m < 4294967296) (hS : openK S = 0) (hk : k + 32 ≤ 8 * S.length) : openK T = 18 := by
  have hne : openK T ≠ 0 := fun h0 => by
    have r1 := right_rest hS
    have r2 := right_rest h0
    rw [h.1, h.2, show (2 : Nat) ^ 32 = 4294967296 from rfl, Nat.mod_eq_of_lt hm32, ← Nat.xor_assoc, citer_xor, r1] at r2
    have r3 : citer (8 * S.length) (m * 2 ^ k) = 0 := by
      have := congrArg (fun z => citer 32 4294967295 ^^^ z) r2
      simp only [← Nat.xor_assoc, Nat.xor_self, Nat.zero_xor] at this
      exact this
    rw [show 8 * S.length = k + (8 * S.length - k) from by omega, citer_add, Nat.mul_comm m, citer_double] at r3
    have := citer_zero_inv _ hm32 r3
    omega
  have hl := h.1
  unfold openK at hne ⊢
  rw [if_neg (by omega)] at hne ⊢
  split at hne
  · exact absurd rfl hne
  · rename_i h2; rw [if_neg h2]
end Go.Proofs.YtjincjgapjekeaaDoor
