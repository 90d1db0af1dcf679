/- Scripts, plain: a text cut at a sign and put together, numbers. -/
import Derived.Test.YtcjflglpkpkflaaDoorLib
import Derived.Lib.ItoaNum
import Derived.Lib.ParseIntB
namespace Go.Proofs.YtcjflglpkpkflaaDoor
set_option linter.unusedVariables false
abbrev Bs := List UInt8
/-! ### a text cut at a sign, and put together -/
def spl (c : UInt8) : Bs → List Bs
  | [] => [[]]
  | b :: l => if b = c then [] :: spl c l else match spl c l with
    | [] => [[b]]
    | x :: r => (b :: x) :: r
def joi (c : UInt8) : List Bs → Bs
  | [] => []
  | [x] => x
  | x :: y :: r => x ++ c :: joi c (y :: r)
theorem spl_ne (c : UInt8) (l : Bs) : spl c l ≠ [] := by
  cases l with
  | nil => simp [spl]
  | cons b l => simp only [spl]; split <;> (try split) <;> simp
theorem joi_cons (c : UInt8) (x : Bs) {r : List Bs} (h : r ≠ []) : joi c (x :: r) = x ++ c :: joi c r := by
  cases r with
  | nil => exact absurd rfl h
  | cons y r => rfl
theorem joi_spl (c : UInt8) : ∀ l : Bs, joi c (spl c l) = l
  | [] => rfl
  | b :: l => by
    have ih := joi_spl c l
    simp only [spl]
    split
    · rename_i h
      rw [joi_cons c [] (spl_ne c l), ih, h]; rfl
    · have hne := spl_ne c l
      cases hs : spl c l with
      | nil => exact absurd hs hne
      | cons x r =>
        simp only
        rw [hs] at ih
        cases r with
        | nil => simp only [joi] at ih ⊢; rw [ih]
        | cons y r =>
          rw [joi_cons c x (by simp)] at ih
          rw [joi_cons c (b :: x) (by simp), List.cons_append, ih]
theorem spl_free (c : UInt8) : ∀ l : Bs, ∀ x ∈ spl c l, c ∉ x
  | [], x, h => by simp [spl] at h; subst h; simp
  | b :: l, x, h => by
    have ih := spl_free c l
    simp only [spl] at h
    split at h
    · rcases List.mem_cons.1 h with rfl | h
      · simp
      · exact ih x h
    · rename_i hb
      cases hs : spl c l with
      | nil => exact absurd hs (spl_ne c l)
      | cons y r =>
        rw [hs] at h ih
        simp only at h
        rcases List.mem_cons.1 h with rfl | h
        · simp only [List.mem_cons, not_or]
          exact ⟨fun e => hb e.symm, ih y (by simp)⟩
        · exact ih x (by simp [h])
theorem spl_app (c : UInt8) : ∀ (x l : Bs), c ∉ x → spl c (x ++ c :: l) = x :: spl c l
  | [], l, _ => by simp [spl]
  | b :: x, l, h => by
    simp only [List.mem_cons, not_or] at h
    rw [List.cons_append, spl, if_neg (fun e => h.1 e.symm), spl_app c x l h.2]
theorem spl_one (c : UInt8) : ∀ x : Bs, c ∉ x → spl c x = [x]
  | [], _ => rfl
  | b :: x, h => by
    simp only [List.mem_cons, not_or] at h
    rw [spl, if_neg (fun e => h.1 e.symm), spl_one c x h.2]
theorem spl_joi (c : UInt8) : ∀ xs : List Bs, xs ≠ [] → (∀ x ∈ xs, c ∉ x) → spl c (joi c xs) = xs
  | [], h, _ => absurd rfl h
  | [x], _, h => spl_one c x (h x (by simp))
  | x :: y :: r, _, h => by
    rw [joi_cons c x (by simp), spl_app c x _ (h x (by simp)), spl_joi c (y :: r) (by simp) (fun z hz => h z (by simp [hz]))]
/-! ### numbers -/
def isDg (b : UInt8) : Bool := decide (48 ≤ b.toNat ∧ b.toNat ≤ 57)
def valD (n : Nat) (l : Bs) : Nat := l.foldl (fun n b => n * 10 + (b.toNat - 48)) n
theorem valD_nil (n : Nat) : valD n [] = n := rfl
theorem valD_cons (n : Nat) (b : UInt8) (l : Bs) : valD n (b :: l) = valD (n * 10 + (b.toNat - 48)) l := by simp only [valD, List.foldl_cons]
theorem valD_app (n : Nat) : ∀ (x y : Bs), valD n (x ++ y) = valD (valD n x) y
  | [], y => rfl
  | b :: x, y => by rw [List.cons_append, valD_cons, valD_cons, valD_app _ x y]
theorem dg_nat (d : Nat) (h : d < 10) : (UInt8.ofNat (48 + d)).toNat = 48 + d := by
  rw [UInt8.toNat_ofNat']; omega
theorem dec_small (u : Nat) (h : u < 10) : Lib.decDigits u = [UInt8.ofNat (48 + u)] := by rw [Lib.decDigits, dif_pos h]
theorem dec_big (u : Nat) (h : ¬ u < 10) : Lib.decDigits u = Lib.decDigits (u / 10) ++ [UInt8.ofNat (48 + u % 10)] := by rw [Lib.decDigits, dif_neg h]
theorem dec_val' : ∀ k u : Nat, u < k → valD 0 (Lib.decDigits u) = u := by
  intro k
  induction k with
  | zero => intro u h; omega
  | succ k ih =>
    intro u hu
    by_cases h : u < 10
    · rw [dec_small u h, valD_cons, valD_nil, dg_nat u h]; omega
    · rw [dec_big u h, valD_app, ih (u / 10) (by omega), valD_cons, valD_nil, dg_nat _ (by omega)]; omega
theorem dec_val (u : Nat) : valD 0 (Lib.decDigits u) = u := dec_val' (u + 1) u (by omega)
theorem dec_dg (u : Nat) : ∀ b ∈ Lib.decDigits u, isDg b = true := by
  induction u using Nat.strongRecOn with
  | _ u ih =>
    intro b hb
    by_cases h : u < 10
    · rw [dec_small u h, List.mem_singleton] at hb
      subst hb; unfold isDg; rw [dg_nat u h]; simp; omega
    · rw [dec_big u h, List.mem_append, List.mem_singleton] at hb
      rcases hb with hb | rfl
      · exact ih (u / 10) (by omega) b hb
      · unfold isDg; rw [dg_nat _ (by omega)]; simp; omega
theorem dec_ne (u : Nat) : Lib.decDigits u ≠ [] := by
  by_cases h : u < 10
  · rw [dec_small u h]; simp
  · rw [dec_big u h]; simp
theorem dec_len (k : Nat) : ∀ u : Nat, u < 10 ^ (k + 1) → (Lib.decDigits u).length ≤ k + 1 := by
  induction k with
  | zero => intro u h; rw [dec_small u (by omega)]; simp
  | succ k ih =>
    intro u h
    by_cases h0 : u < 10
    · rw [dec_small u h0]; simp
    · rw [dec_big u h0, List.length_append]
      have := ih (u / 10) (by rw [Nat.pow_succ] at h; omega)
      simp; omega
/-- the first figure is no 0, but for 0 itself -/
theorem dec_head (u : Nat) : (Lib.decDigits u).length ≤ 1 ∨ (Lib.decDigits u).head? ≠ some 48 := by
  have key : ∀ u : Nat, 0 < u → (Lib.decDigits u).head? ≠ some 48 := by
    intro u
    induction u using Nat.strongRecOn with
    | _ u ih =>
      intro hu
      by_cases h : u < 10
      · rw [dec_small u h]
        simp only [List.head?_cons, ne_eq, Option.some.injEq]
        intro e
        have := congrArg UInt8.toNat e
        rw [dg_nat u h] at this
        simp at this
        omega
      · rw [dec_big u h]
        have h1 := ih (u / 10) (by omega) (by omega)
        cases hd : Lib.decDigits (u / 10) with
        | nil => exact absurd hd (dec_ne _)
        | cons b l => rw [hd] at h1; simpa using h1
  by_cases h : u < 10
  · left; rw [dec_small u h]; simp
  · exact .inr (key u (by omega))
theorem dec_of_val : ∀ (x : Bs) (n : Nat), (∀ b ∈ x, isDg b = true) → n ≠ 0 → Lib.decDigits (valD n x) = Lib.decDigits n ++ x
  | [], n, _, _ => by rw [valD_nil, List.append_nil]
  | b :: x, n, h, hn => by
    have hb := h b (by simp)
    unfold isDg at hb
    simp only [decide_eq_true_eq] at hb
    have e1 : (n * 10 + (b.toNat - 48)) / 10 = n := by omega
    have e2 : (n * 10 + (b.toNat - 48)) % 10 = b.toNat - 48 := by omega
    have e3 : UInt8.ofNat (48 + (b.toNat - 48)) = b := by
      apply UInt8.toNat.inj
      rw [dg_nat _ (by omega)]; omega
    rw [valD_cons, dec_of_val x _ (fun c hc => h c (by simp [hc])) (by omega), dec_big _ (by omega), e1, e2, e3]
    simp
/-- a text that tells a number -/
def parseN (s : Bs) : Option Nat := if s ≠ [] ∧ s.length ≤ 9 ∧ (∀ b ∈ s, isDg b = true) ∧ (s.length ≤ 1 ∨ s.head? ≠ some 48) then some (valD 0 s) else none
theorem valD_lt : ∀ (x : Bs) (n : Nat), (∀ b ∈ x, isDg b = true) → valD n x < (n + 1) * 10 ^ x.length
  | [], n, _ => by rw [valD_nil]; simp
  | b :: x, n, h => by
    have hb := h b (by simp)
    unfold isDg at hb
    simp only [decide_eq_true_eq] at hb
    have ih := valD_lt x (n * 10 + (b.toNat - 48)) (fun c hc => h c (by simp [hc]))
    rw [valD_cons, List.length_cons, Nat.pow_succ, Nat.mul_comm (10 ^ x.length) 10, ← Nat.mul_assoc]
    refine Nat.lt_of_lt_of_le ih (Nat.mul_le_mul_right _ ?_)
    omega
theorem parseN_some {s : Bs} {u : Nat} (h : parseN s = some u) : Lib.decDigits u = s ∧ u ≤ 999999999 := by
  unfold parseN at h
  split at h
  · rename_i hc
    obtain ⟨h1, h2, h3, h4⟩ := hc
    cases h
    have hlt := valD_lt s 0 h3
    refine ⟨?_, ?_⟩
    · cases s with
      | nil => exact absurd rfl h1
      | cons b x =>
        have hb := h3 b (by simp)
        unfold isDg at hb
        simp only [decide_eq_true_eq] at hb
        have e3 : UInt8.ofNat (48 + (b.toNat - 48)) = b := by
          apply UInt8.toNat.inj
          rw [dg_nat _ (by omega)]; omega
        rw [valD_cons, Nat.zero_mul, Nat.zero_add]
        by_cases hz : b.toNat - 48 = 0
        · have hx : x = [] := by
            rcases h4 with h4 | h4
            · cases x with
              | nil => rfl
              | cons c y => simp at h4
            · exfalso
              apply h4
              have : b = 48 := UInt8.toNat.inj (by simp; omega)
              rw [this]; rfl
          subst hx
          rw [valD_nil, dec_small _ (by omega), e3]
        · rw [dec_of_val x _ (fun c hc => h3 c (by simp [hc])) hz, dec_small _ (by omega), e3]
          rfl
    · have : 10 ^ s.length ≤ 10 ^ 9 := Nat.pow_le_pow_right (by decide) h2
      omega
  · cases h
theorem parseN_dec {u : Nat} (h : u ≤ 999999999) : parseN (Lib.decDigits u) = some u := by
  unfold parseN
  rw [if_pos ⟨dec_ne u, dec_len 8 u (by omega), dec_dg u, dec_head u⟩, dec_val]
/-- the library's way to it -/
theorem parseUintM_val (M : Nat) : ∀ (x : Bs) (n : Nat), (∀ b ∈ x, isDg b = true) → valD n x ≤ M → M < 18446744073709551616 → valD n x < 1844674407370955162 → Lib.parseUintM M n x = .ok (valD n x)
  | [], n, _, _, _, _ => rfl
  | b :: x, n, h, h1, h2, h3 => by
    have hb := h b (by simp)
    unfold isDg at hb
    simp only [decide_eq_true_eq] at hb
    have hge : ∀ (x : Bs) (n : Nat), n ≤ valD n x := by
      intro x
      induction x with
      | nil => intro n; exact Nat.le_refl _
      | cons b x ih => intro n; have := ih (n * 10 + (b.toNat - 48)); rw [valD_cons]; omega
    have := hge x (n * 10 + (b.toNat - 48))
    rw [valD_cons] at h1 h3 ⊢
    rw [Lib.parseUintM, if_pos hb, if_neg (by omega), if_neg (by omega)]
    exact parseUintM_val M x _ (fun c hc => h c (by simp [hc])) h1 h2 h3
theorem parseUintM_dg (M : Nat) : ∀ (x : Bs) (n u : Nat), Lib.parseUintM M n x = .ok u → (∀ b ∈ x, isDg b = true) ∧ u = valD n x
  | [], n, u, h => by
    rw [Lib.parseUintM] at h
    cases h
    exact ⟨fun b hb => (by cases hb), rfl⟩
  | b :: x, n, u, h => by
    rw [Lib.parseUintM] at h
    split at h
    · rename_i hb
      split at h
      · cases h
      · split at h
        · cases h
        · obtain ⟨h1, h2⟩ := parseUintM_dg M x _ u h
          refine ⟨fun c hc => ?_, h2⟩
          rcases List.mem_cons.1 hc with hcb | hc
          · rw [hcb]; unfold isDg; exact decide_eq_true hb
          · exact h1 c hc
    · cases h
/-- ParseUint's answer, and the two tests behind it -/
theorem parseN_lib (s : Bs) : parseN s = match Lib.parseUintB 32 s with
    | .ok u => if s.length ≤ 9 ∧ (s.length ≤ 1 ∨ s.head? ≠ some 48) then some u else none
    | _ => none := by
  unfold parseN Lib.parseUintB
  by_cases h0 : s = []
  · subst h0; simp
  · rw [if_neg h0]
    by_cases hl : s.length ≤ 9
    · by_cases hd : ∀ b ∈ s, isDg b = true
      · have hlt := valD_lt s 0 hd
        have hp : 10 ^ s.length ≤ 10 ^ 9 := Nat.pow_le_pow_right (by decide) hl
        rw [parseUintM_val _ s 0 hd (by omega) (by decide) (by omega)]
        simp only
        by_cases hh : s.length ≤ 1 ∨ s.head? ≠ some 48
        · rw [if_pos ⟨h0, hl, hd, hh⟩, if_pos ⟨hl, hh⟩]
        · rw [if_neg (fun h => hh h.2.2.2), if_neg (fun h => hh h.2)]
      · rw [if_neg (fun h => hd h.2.2.1)]
        split
        · rename_i u hr; exact absurd (parseUintM_dg _ s 0 u hr).1 hd
        · rfl
    · rw [if_neg (fun h => hl h.2.1)]
      split
      · rw [if_neg (fun h => hl h.1)]
      · rfl
end Go.Proofs.YtcjflglpkpkflaaDoor
