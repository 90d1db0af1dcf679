/- Plain: the number with which bytes begin, told by places (as the reference tells it), and that a number's varint is parsed as it was. -/
import Derived.Test.YtgehbabcpmkgaaaDoorVparse
namespace Go.Proofs.YtgehbabcpmkgaaaDoor
open Go
set_option linter.unusedVariables false
/-- how many bytes ahead say that another follows, c at most -/
def vend : Nat → List UInt8 → Nat
  | 0, _ => 0
  | _ + 1, [] => 0
  | c + 1, x :: xs => if 128 ≤ x.toNat then vend c xs + 1 else 0
/-- the number of bytes, seven bits each, the lowest first -/
def vval : List UInt8 → Nat
  | [] => 0
  | x :: xs => x.toNat % 128 + 128 * vval xs
theorem vend_le : ∀ (c : Nat) (l : List UInt8), vend c l ≤ l.length
  | 0, _ => Nat.zero_le _
  | _ + 1, [] => Nat.le_refl _
  | c + 1, x :: xs => by simp only [vend]; split <;> simp; exact vend_le c xs
theorem vend_cap : ∀ (c : Nat) (l : List UInt8), vend c l ≤ c
  | 0, _ => Nat.le_refl _
  | _ + 1, [] => Nat.zero_le _
  | c + 1, x :: xs => by simp only [vend]; split <;> simp; exact vend_cap c xs
/-- what the reference answers, out of the place of the last byte -/
def vref (i acc : Nat) (l : List UInt8) : Nat × Nat × Nat :=
  let e := vend (10 - i) l
  if i + e = 10 ∨ i + e = 9 ∧ e < l.length ∧ 1 < (l.getD e 0).toNat then (0, 0, 4) else if e = l.length then (0, 0, 2) else (acc + vval (l.take (e + 1)) * 128 ^ i, i + e + 1, 0)
theorem ifc {p q : Prop} [Decidable p] [Decidable q] {α : Type} {a b c d : α} (h : p ↔ q) (h1 : a = c) (h2 : b = d) : (if p then a else b) = if q then c else d := by
  subst h1
  subst h2
  by_cases hp : p
  · rw [if_pos hp, if_pos (h.1 hp)]
  · rw [if_neg hp, if_neg (fun hq => hp (h.2 hq))]
theorem vref_eq : ∀ (l : List UInt8) (i acc : Nat), i ≤ 9 → vparse i acc l = vref i acc l
  | [], i, acc, hi => by
    obtain ⟨c, hc⟩ : ∃ c, 10 - i = c + 1 := ⟨9 - i, by omega⟩
    simp only [vparse, vref, hc, vend]
    rw [if_neg (by simp; omega), if_pos (show 0 = ([] : List UInt8).length from rfl)]
  | x :: xs, i, acc, hi => by
    obtain ⟨c, hc⟩ : ∃ c, 10 - i = c + 1 := ⟨9 - i, by omega⟩
    by_cases hx : 128 ≤ x.toNat
    · by_cases h9 : i = 9
      · subst h9
        obtain rfl : c = 0 := by omega
        simp only [vparse, vref, hc, vend, if_pos hx]
        rw [if_pos ⟨trivial, by omega⟩, if_pos (.inl (by simp))]
      · have ih := vref_eq xs (i + 1) (acc + x.toNat % 128 * 128 ^ i) (by omega)
        have hc' : 10 - (i + 1) = c := by omega
        simp only [vparse, h9, false_and, if_false, show ¬ x.toNat < 128 from by omega]
        rw [ih]
        simp only [vref, hc, hc', vend, if_pos hx, List.length_cons, List.getD_cons_succ, List.take_succ_cons, vval]
        have e1 : (i + 1 + vend c xs = 10 ∨ i + 1 + vend c xs = 9 ∧ vend c xs < xs.length ∧ 1 < (xs.getD (vend c xs) 0).toNat) ↔ (i + (vend c xs + 1) = 10 ∨ i + (vend c xs + 1) = 9 ∧ vend c xs + 1 < xs.length + 1 ∧ 1 < (xs.getD (vend c xs) 0).toNat) := by
          constructor <;> (rintro (h | ⟨h1, h2, h3⟩); exact .inl (by omega); exact .inr ⟨by omega, by omega, h3⟩)
        refine ifc e1 rfl ?_
        refine ifc (show vend c xs = xs.length ↔ vend c xs + 1 = xs.length + 1 by omega) rfl ?_
        refine Prod.ext ?_ (Prod.ext (by show i + 1 + vend c xs + 1 = i + (vend c xs + 1) + 1; omega) rfl)
        show acc + x.toNat % 128 * 128 ^ i + vval (xs.take (vend c xs + 1)) * 128 ^ (i + 1) = acc + (x.toNat % 128 + 128 * vval (xs.take (vend c xs + 1))) * 128 ^ i
        generalize vval (xs.take (vend c xs + 1)) = q
        rw [Nat.add_mul, Nat.pow_succ, Nat.mul_comm 128 q, Nat.mul_assoc q 128, Nat.mul_comm 128 (128 ^ i), Nat.add_assoc]
    · simp only [vparse, vref, hc, vend, if_neg hx, List.length_cons, List.getD_cons_zero, show x.toNat < 128 from by omega, if_true]
      by_cases h9 : i = 9 ∧ 1 < x.toNat
      · rw [if_pos h9, if_pos (.inr ⟨by omega, by omega, h9.2⟩)]
      · rw [if_neg h9, if_neg (by rintro (h | ⟨h1, h2, h3⟩); omega; exact h9 ⟨by omega, h3⟩), if_neg (by omega)]
        refine Prod.ext ?_ (Prod.ext rfl rfl)
        show acc + x.toNat * 128 ^ i = acc + vval (x :: xs.take 0) * 128 ^ i
        rw [List.take_zero]
        simp only [vval]
        rw [show x.toNat % 128 = x.toNat from by omega]; rfl
/-- a number's varint, whatever follows, is parsed as it was -/
theorem vparse_vput : ∀ (f n i acc : Nat) (rest : List UInt8), n < 128 ^ f → n * 128 ^ i < 18446744073709551616 → (1 < n → i ≤ 9) → (i ≤ 9) → vparse i acc (vput n ++ rest) = (acc + n * 128 ^ i, i + (vput n).length, 0)
  | 0, n, i, acc, rest, h, hb, h9, hi => by
    obtain rfl : n = 0 := by simpa using h
    rw [vput_lo (by decide)]
    simp [vparse, b8]
  | f + 1, n, i, acc, rest, h, hb, h9, hi => by
    by_cases hn : n < 128
    · rw [vput_lo hn]
      have hx : (b8 n).toNat = n := by rw [b8_toNat]; omega
      have hnot : ¬ (i = 9 ∧ 1 < n) := by
        rintro ⟨rfl, h2⟩
        have e : (128 : Nat) ^ 9 = 9223372036854775808 := by decide +kernel
        rw [e] at hb; omega
      simp only [List.cons_append, List.nil_append, vparse, hx, if_neg hnot, if_pos hn, List.length_singleton]
    · rw [vput_hi hn]
      have hx : (b8 (n % 128 + 128)).toNat = n % 128 + 128 := by rw [b8_toNat]; omega
      have hm : n / 128 * 128 ^ (i + 1) ≤ n * 128 ^ i := by
        rw [Nat.pow_succ, Nat.mul_comm (128 ^ i) 128, ← Nat.mul_assoc]
        exact Nat.mul_le_mul_right _ (Nat.div_mul_le_self n 128)
      have hi8 : i + 1 ≤ 9 := by
        refine Nat.le_of_not_lt fun hlt => ?_
        have hi9 : i = 9 := by omega
        subst hi9
        have e : (128 : Nat) ^ 9 = 9223372036854775808 := by decide +kernel
        rw [e] at hb; omega
      have ih := vparse_vput f (n / 128) (i + 1) (acc + n % 128 * 128 ^ i) rest (by rw [Nat.div_lt_iff_lt_mul (by omega)]; rw [Nat.pow_succ] at h; exact h) (by omega) (fun _ => hi8) hi8
      simp only [List.cons_append, vparse, hx, show ¬ (i = 9 ∧ 1 < n % 128 + 128) from by omega, show ¬ n % 128 + 128 < 128 from by omega, if_false]
      rw [show (n % 128 + 128) % 128 = n % 128 from by omega, ih]
      refine Prod.ext ?_ (Prod.ext (by show i + 1 + _ = i + List.length (_ :: _); simp; omega) rfl)
      show acc + n % 128 * 128 ^ i + n / 128 * 128 ^ (i + 1) = acc + n * 128 ^ i
      have e : n * 128 ^ i = n % 128 * 128 ^ i + n / 128 * 128 ^ (i + 1) := by
        conv => lhs; rw [← Nat.mod_add_div n 128]
        rw [Nat.add_mul, Nat.pow_succ, Nat.mul_comm (128 ^ i) 128, ← Nat.mul_assoc, Nat.mul_comm 128 (n / 128)]
      omega
theorem vparse_put (n : Nat) (h : n < 18446744073709551616) (rest : List UInt8) : vparse 0 0 (vput n ++ rest) = (n, (vput n).length, 0) := by
  have e : (128 : Nat) ^ 10 = 1180591620717411303424 := by decide +kernel
  have := vparse_vput 10 n 0 0 rest (by rw [e]; omega) (by simpa using h) (fun _ => by omega) (by omega)
  simpa using this
theorem vval_lt : ∀ l : List UInt8, vval l < 128 ^ l.length
  | [] => by simp [vval]
  | x :: xs => by
    have := vval_lt xs
    simp only [vval, List.length_cons, Nat.pow_succ]
    omega
theorem vval_drop : ∀ (m : Nat) (l : List UInt8), vval (l.drop m) ≤ vval l
  | 0, l => by simp
  | m + 1, [] => by simp
  | m + 1, x :: xs => by
    have := vval_drop m xs
    simp only [List.drop_succ_cons, vval]
    omega
theorem vval_append : ∀ (l r : List UInt8), vval (l ++ r) = vval l + 128 ^ l.length * vval r
  | [], r => by simp [vval]
  | x :: xs, r => by
    simp only [List.cons_append, vval, vval_append xs r, List.length_cons, Nat.pow_succ]
    rw [Nat.mul_add, ← Nat.mul_assoc, Nat.mul_comm 128 (128 ^ xs.length), Nat.add_assoc]
theorem vval_bound (bs : List UInt8) (e : Nat) (he : e < bs.length) (h : e < 9 ∨ e = 9 ∧ (bs.getD e 0).toNat ≤ 1) : vval (bs.take (e + 1)) < 18446744073709551616 := by
  have p9 : (128 : Nat) ^ 9 = 9223372036854775808 := by decide +kernel
  rcases h with h | ⟨rfl, h⟩
  · have h1 := vval_lt (bs.take (e + 1))
    have h2 := Nat.pow_le_pow_right (n := 128) (by omega) (show (bs.take (e + 1)).length ≤ 9 by simp; omega)
    omega
  · have h1 := vval_lt (bs.take 9)
    have hl : (bs.take 9).length = 9 := by simp; omega
    have h2 : bs.take (9 + 1) = bs.take 9 ++ [bs.getD 9 0] := by
      rw [List.take_succ_eq_append_getElem he, List.getD_eq_getElem?_getD, List.getElem?_eq_getElem he]; rfl
    rw [h2, vval_append, hl]
    rw [hl] at h1
    simp only [vval]
    have h3 : (bs.getD 9 0).toNat % 128 ≤ 1 := by omega
    generalize (bs.getD 9 0).toNat % 128 = y at h3
    omega
end Go.Proofs.YtgehbabcpmkgaaaDoor
