/- Scripts, plain: the document reads a line leniently and looks whether it is the line of what it read: the same. -/
import Derived.Test.YtbcpciegdmminaaGreatDoorScC
namespace Go.Proofs.YtbcpciegdmminaaGreatDoor
set_option linter.unusedVariables false
/-! ### the document's parse: what a line seems to say, and whether its line is this one -/
def numL (s : Bs) : Nat := (s.take 9).foldl (fun n b => if isDg b then n * 10 + (b.toNat - 48) else n) 0
def hexL (x : Nat) (b : UInt8) : Nat := if 48 ≤ b.toNat ∧ b.toNat ≤ 57 then x * 16 + (b.toNat - 48) else if 97 ≤ b.toNat ∧ b.toNat ≤ 102 then x * 16 + (b.toNat - 97) + 10 else x * 16
def unhexL : Bs → Bs
  | [] => []
  | [_] => []
  | x :: y :: l => UInt8.ofNat (hexL (hexL 0 x) y) :: unhexL l
def tornL (s : Bs) : Int × Bs := ((numL ((spl 58 s).getD 0 []) : Nat), unhexL ((spl 58 s).getD 1 []))
def polL2 (w : Bs) : Int := if w = [116, 104, 101, 105, 114, 115] then 2 else if w = [111, 117, 114, 115] then 1 else 0
def lenF (k : Int) (w : List Bs) : Ac :=
  if k = 1 then { ac0 k with bs := unhexL (w.getD 1 []) }
  else if k = 3 ∨ k = 6 ∨ k = 11 then { ac0 k with a := (numL (w.getD 1 []) : Nat) }
  else if k = 4 then { ac0 k with a := (numL (w.getD 1 []) : Nat), b := (numL (w.getD 2 []) : Nat), c := (numL (w.getD 3 []) : Nat), n := polL2 (w.getD 4 []) }
  else if k = 5 then { ac0 k with a := (numL (w.getD 1 []) : Nat), b := (numL (w.getD 2 []) : Nat) }
  else if k = 8 then { ac0 k with a := if w.getD 1 [] = offW then -1 else (numL (w.getD 1 []) : Nat) }
  else if k = 9 then { ac0 k with keep := if w.getD 2 [] = [45] then [] else (spl 44 (w.getD 2 [])).map fun s => ((numL s : Nat) : Int), torn := if w.getD 4 [] = [45] then [] else (spl 44 (w.getD 4 [])).map tornL }
  else ac0 k
def lenA (line : Bs) : Ac := lenF (kindOf ((spl 32 line).getD 0 [])) (spl 32 line)
def refP (line : Bs) : Option Ac := if rightA (lenA line) && lineA (lenA line) == line then some (lenA line) else none
theorem foldl_dg : ∀ (x : Bs) (n : Nat), (∀ b ∈ x, isDg b = true) → x.foldl (fun n b => if isDg b then n * 10 + (b.toNat - 48) else n) n = valD n x
  | [], n, _ => rfl
  | b :: x, n, h => by
    rw [List.foldl_cons, if_pos (h b (by simp)), foldl_dg x _ (fun c hc => h c (by simp [hc])), valD_cons]
theorem numL_dec {n : Int} (h : inN n = true) : ((numL (decI n) : Nat) : Int) = n := by
  unfold inN at h
  simp only [decide_eq_true_eq] at h
  unfold numL decI
  rw [List.take_of_length_le (dec_len 8 _ (by omega)), foldl_dg _ _ (dec_dg _), dec_val]
  omega
theorem hexL_hexd {d x : Nat} (h : d < 16) : hexL x (hexd d) = x * 16 + d := by
  have h1 := hexd_nat h
  unfold hexL
  rw [h1]
  by_cases hd : d < 10
  · rw [if_pos hd, if_pos (by omega)]; omega
  · rw [if_neg hd, if_neg (by omega), if_pos (by omega)]; omega
theorem unhexL_hex : ∀ l : Bs, unhexL (hexB l) = l
  | [] => rfl
  | b :: l => by
    have hb := b.toNat_lt
    rw [hexB, unhexL, hexL_hexd (by omega), hexL_hexd (by omega), unhexL_hex l]
    congr 1
    apply UInt8.toNat.inj
    rw [of_nat (by omega)]; omega
theorem unhexL_put (l : Bs) : unhexL (putB l) = l := by
  unfold putB
  split
  · rename_i h; rw [h]; rfl
  · exact unhexL_hex l
theorem tornL_put {t : Int × Bs} (h : inN t.1 = true) : tornL (putT t) = t := by
  unfold tornL putT
  rw [spl_app 58 _ _ (decI_free _ 58 (by decide)), spl_one 58 _ (putB_free _ 58 (by decide))]
  simp only [List.getD_cons_zero, List.getD_cons_succ, unhexL_put, numL_dec h]
theorem polL2_word : ∀ n : Nat, n ≤ 2 → polL2 (polOf n) = (n : Int) := by
  have h : ∀ k ∈ List.range 3, polL2 (polOf (k : Int)) = (k : Int) := by decide
  exact fun n h1 => h n (List.mem_range.2 (by omega))
theorem map_put {α : Type} {p : α → Bs} {g : Bs → α} (l : List α) (h : ∀ x ∈ l, g (p x) = x ∧ 44 ∉ p x ∧ p x ≠ [] ∧ (p x).head? ≠ some 45) : (if putL p l = [45] then [] else (spl 44 (putL p l)).map g) = l := by
  unfold putL
  by_cases h0 : l = []
  · rw [if_pos h0, if_pos rfl, h0]
  · rw [if_neg h0]
    have hne : joi 44 (l.map p) ≠ [45] := by
      cases l with
      | nil => exact absurd rfl h0
      | cons x l =>
        intro e
        have h1 := joi_head 44 (p x) (l.map p) (h x (by simp)).2.2.1
        rw [List.map_cons] at e
        rw [e] at h1
        exact (h x (by simp)).2.2.2 h1.symm
    rw [if_neg hne, spl_joi 44 (l.map p) (by simpa using h0) (fun s hs => by
      obtain ⟨x, hx, rfl⟩ := List.mem_map.1 hs
      exact (h x hx).2.1), List.map_map]
    conv => rhs; rw [← List.map_id l]
    exact List.map_congr_left fun x hx => (h x hx).1
theorem line_spl {a : Ac} : spl 32 (lineA a) = wordOf a.k :: restA a := spl_joi 32 _ (by simp) (fun x hx => by
    rcases List.mem_cons.1 hx with e | hx
    · rw [e]; exact wordOf_free _
    · exact restA_free a x hx)
/-- of a right act's line the document reads the act -/
theorem len_line {a : Ac} (h : rightA a = true) : lenA (lineA a) = a := by
  unfold rightA at h
  simp only [Bool.and_eq_true, decide_eq_true_eq, Bool.or_eq_true, beq_iff_eq, List.isEmpty_iff] at h
  obtain ⟨⟨⟨⟨⟨⟨hk, hn⟩, hb⟩, hkt⟩, -⟩, hka⟩, hta⟩ := h
  have hkk : kindOf (wordOf a.k) = a.k := by
    have := kind_word a.k.toNat (by omega) (by omega)
    rwa [show ((a.k.toNat : Nat) : Int) = a.k by omega] at this
  unfold lenA
  rw [line_spl, List.getD_cons_zero, hkk]
  obtain ⟨k, A, B, C, N, bs, keep, torn⟩ := a
  simp only at hk hn hb hkt hka hta ⊢
  have hbs : k ≠ 1 → bs = [] := fun e => by rcases hb with h | h; exact absurd h e; exact h
  have hkl : k ≠ 9 → keep = [] ∧ torn = [] := fun e => by rcases hkt with h | h; exact absurd h e; exact h
  unfold numbered at hn
  simp only at hn
  unfold lenF restA
  simp only
  by_cases h1 : k = 1
  · have e := zero_eq (by simpa [h1] using hn : zero [A, B, C, N] = true)
    obtain ⟨k1, k2⟩ := hkl (by omega)
    simp only [if_pos h1, List.getD_cons_succ, List.getD_cons_zero, unhexL_put, ac0]
    rw [e A (by simp), e B (by simp), e C (by simp), e N (by simp), k1, k2]
  · have hb0 := hbs h1
    by_cases h2 : k = 3 ∨ k = 6 ∨ k = 11
    · obtain ⟨k1, k2⟩ := hkl (by omega)
      rw [if_pos h2, Bool.and_eq_true] at hn
      have e := zero_eq hn.2
      simp only [if_neg h1, if_pos h2, List.getD_cons_succ, List.getD_cons_zero, numL_dec hn.1, ac0]
      rw [e B (by simp), e C (by simp), e N (by simp), k1, k2, hb0]
    · rw [if_neg h2] at hn
      by_cases h4 : k = 4
      · obtain ⟨k1, k2⟩ := hkl (by omega)
        rw [if_neg (show ¬ k = 5 by omega), if_pos h4] at hn
        simp only [Bool.and_eq_true, decide_eq_true_eq] at hn
        have hp : polL2 (polOf N) = N := by
          have := polL2_word N.toNat (by omega)
          rwa [show ((N.toNat : Nat) : Int) = N by omega] at this
        simp only [if_neg h1, if_neg h2, if_pos h4, if_neg (show ¬ k = 5 by omega), List.getD_cons_succ, List.getD_cons_zero, numL_dec hn.1.1.1, numL_dec hn.1.1.2, numL_dec hn.1.2, hp, ac0]
        rw [k1, k2, hb0]
      · by_cases h3 : k = 5
        · obtain ⟨k1, k2⟩ := hkl (by omega)
          rw [if_pos h3, Bool.and_eq_true, Bool.and_eq_true] at hn
          have e := zero_eq hn.2
          simp only [if_neg h1, if_neg h2, if_neg h4, if_pos h3, List.getD_cons_succ, List.getD_cons_zero, numL_dec hn.1.1, numL_dec hn.1.2, ac0]
          rw [e C (by simp), e N (by simp), k1, k2, hb0]
        · rw [if_neg h3, if_neg h4] at hn
          by_cases h5 : k = 8
          · obtain ⟨k1, k2⟩ := hkl (by omega)
            rw [if_pos h5, Bool.and_eq_true] at hn
            have e := zero_eq hn.2
            by_cases hA : A = -1
            · simp only [if_neg h1, if_neg h2, if_neg h4, if_neg h3, if_pos h5, if_pos hA, List.getD_cons_succ, List.getD_cons_zero, if_true, ac0]
              rw [e B (by simp), e C (by simp), e N (by simp), k1, k2, hb0, hA]
            · have hi : inN A = true := by
                rcases (by simpa using hn.1 : inN A = true ∨ A = -1) with h | h
                · exact h
                · exact absurd h hA
              have hoff : decI A ≠ offW := fun e => by
                have h1 := decI_free A 111 (by decide)
                rw [e] at h1
                exact h1 (by decide)
              simp only [if_neg h1, if_neg h2, if_neg h4, if_neg h3, if_pos h5, if_neg hA, List.getD_cons_succ, List.getD_cons_zero, if_neg hoff, numL_dec hi, ac0]
              rw [e B (by simp), e C (by simp), e N (by simp), k1, k2, hb0]
          · rw [if_neg h5] at hn
            have e := zero_eq hn
            by_cases h6 : k = 9
            · have g1 := map_put (p := decI) (g := fun s => ((numL s : Nat) : Int)) keep (fun x hx => ⟨numL_dec (by simpa using List.all_eq_true.1 hka x hx), decI_free _ 44 (by decide), (decI_ne x).1, (decI_ne x).2⟩)
              have g2 := map_put (p := putT) (g := tornL) torn (fun x hx => ⟨tornL_put (by
                have := List.all_eq_true.1 hta x hx
                unfold tornOk at this
                rw [Bool.and_eq_true] at this
                exact this.1), putT_free _ 44 (by decide), (putT_ne x).1, (putT_ne x).2⟩)
              simp only [if_neg h1, if_neg h2, if_neg h3, if_neg h4, if_neg h5, if_pos h6, List.getD_cons_succ, List.getD_cons_zero, ac0]
              rw [g1, g2, e A (by simp), e B (by simp), e C (by simp), e N (by simp), hb0]
            · obtain ⟨k1, k2⟩ := hkl h6
              simp only [if_neg h1, if_neg h2, if_neg h3, if_neg h4, if_neg h5, if_neg h6, ac0]
              rw [e A (by simp), e B (by simp), e C (by simp), e N (by simp), hb0, k1, k2]
/-- the document's parse is the program's -/
theorem ref_parse (line : Bs) : refP line = parseA line := by
  unfold refP
  cases hp : parseA line with
  | some a =>
    obtain ⟨h1, h2⟩ := parse_line hp
    have h3 : lenA line = a := by rw [← h2]; exact len_line h1
    rw [h3, h1, h2]
    simp
  | none =>
    split
    · rename_i h
      simp only [Bool.and_eq_true, beq_iff_eq] at h
      have h2 := line_parse h.1
      rw [h.2, hp] at h2
      cases h2
    · rfl
/-- a right act's line is not empty; a word has a kind -/
theorem parse_right {line : Bs} {a : Ac} (h : parseA line = some a) : rightA a = true := (parse_line h).1
end Go.Proofs.YtbcpciegdmminaaGreatDoor
