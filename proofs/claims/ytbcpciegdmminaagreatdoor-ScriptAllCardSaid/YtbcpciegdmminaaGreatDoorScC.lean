/- Scripts, plain: acts, their lines; a line is parsed to the act whose line it is, and to no other. -/
import Derived.Test.YtbcpciegdmminaaGreatDoorScB
namespace Go.Proofs.YtbcpciegdmminaaGreatDoor
set_option linter.unusedVariables false
/-! ### acts -/
structure Ac where
  k : Int
  a : Int
  b : Int
  c : Int
  n : Int
  bs : Bs
  keep : List Int
  torn : List (Int × Bs)
def wordsL : List Bs := [[], [97, 112, 112, 101, 110, 100], [115, 121, 110, 99], [114, 101, 97, 100], [109, 101, 114, 103, 101], [100, 105, 102, 102], [114, 101, 118, 101, 114, 116], [99, 111, 109, 112, 97, 99, 116], [102, 117, 115, 101], [99, 114, 97, 115, 104], [111, 112, 101, 110], [99, 114, 101, 97, 116, 101]]
def polL : List Bs := [[102, 97, 105, 108], [111, 117, 114, 115], [116, 104, 101, 105, 114, 115]]
def offW : Bs := [111, 102, 102]
def keepW : Bs := [107, 101, 101, 112]
def tornW : Bs := [116, 111, 114, 110]
def wordOf (k : Int) : Bs := if 1 ≤ k ∧ k ≤ 11 then wordsL.getD k.toNat [] else []
def polOf (n : Int) : Bs := if 0 ≤ n ∧ n ≤ 2 then polL.getD n.toNat [] else []
def zero (l : List Int) : Bool := l.all fun n => n == 0
def numbered (a : Ac) : Bool :=
  if a.k = 3 ∨ a.k = 6 ∨ a.k = 11 then inN a.a && zero [a.b, a.c, a.n]
  else if a.k = 5 then inN a.a && inN a.b && zero [a.c, a.n]
  else if a.k = 4 then inN a.a && inN a.b && inN a.c && decide (0 ≤ a.n ∧ a.n ≤ 2)
  else if a.k = 8 then (inN a.a || a.a == -1) && zero [a.b, a.c, a.n]
  else zero [a.a, a.b, a.c, a.n]
def tornOk (t : Int × Bs) : Bool := inN t.1 && decide (t.2.length ≤ 4096)
def rightA (a : Ac) : Bool := decide (1 ≤ a.k ∧ a.k ≤ 11) && numbered a && (a.k == 1 || a.bs.isEmpty) && (a.k == 9 || a.keep.isEmpty && a.torn.isEmpty) && decide (a.bs.length ≤ 4096 ∧ a.keep.length ≤ 200 ∧ a.torn.length ≤ 200) && a.keep.all inN && a.torn.all tornOk
def restA (a : Ac) : List Bs :=
  if a.k = 1 then [putB a.bs]
  else if a.k = 3 ∨ a.k = 6 ∨ a.k = 11 then [decI a.a]
  else if a.k = 5 then [decI a.a, decI a.b]
  else if a.k = 4 then [decI a.a, decI a.b, decI a.c, polOf a.n]
  else if a.k = 8 then (if a.a = -1 then [offW] else [decI a.a])
  else if a.k = 9 then [keepW, putL decI a.keep, tornW, putL putT a.torn]
  else []
def lineA (a : Ac) : Bs := joi 32 (wordOf a.k :: restA a)
def ac0 (k : Int) : Ac := ⟨k, 0, 0, 0, 0, [], [], []⟩
/-- which kind a word tells; 0: none -/
def kindOf (w : Bs) : Int := if w ∈ wordsL then (wordsL.idxOf w : Int) else 0
def polN (w : Bs) : Option Int := if w ∈ polL then some (polL.idxOf w : Int) else none
def fillA (k : Int) (r : List Bs) : Option Ac :=
  if k = 1 then match r with
    | [x] => (unB x).map fun b => { ac0 k with bs := b }
    | _ => none
  else if k = 3 ∨ k = 6 ∨ k = 11 then match r with
    | [x] => (numO x).map fun n => { ac0 k with a := n }
    | _ => none
  else if k = 5 then match r with
    | [x, y] => match numO x, numO y with
      | some m, some n => some { ac0 k with a := m, b := n }
      | _, _ => none
    | _ => none
  else if k = 4 then match r with
    | [x, y, z, p] => match numO x, numO y, numO z, polN p with
      | some m, some n, some l, some q => some { ac0 k with a := m, b := n, c := l, n := q }
      | _, _, _, _ => none
    | _ => none
  else if k = 8 then match r with
    | [x] => if x = offW then some { ac0 k with a := -1 } else (numO x).map fun n => { ac0 k with a := n }
    | _ => none
  else if k = 9 then match r with
    | [x, y, z, t] => if x = keepW ∧ z = tornW then match getL numO y, getL getT t with
        | some l, some m => some { ac0 k with keep := l, torn := m }
        | _, _ => none
      else none
    | _ => none
  else match r with
    | [] => some (ac0 k)
    | _ => none
def parseA (line : Bs) : Option Ac := match spl 32 line with
  | [] => none
  | w :: r => if kindOf w = 0 then none else match fillA (kindOf w) r with
    | some a => if rightA a then some a else none
    | none => none
theorem kind_bd (w : Bs) : 0 ≤ kindOf w ∧ kindOf w ≤ 11 := by
  unfold kindOf
  split
  · rename_i h
    have := List.idxOf_lt_length_of_mem h
    have hl : wordsL.length = 12 := rfl
    omega
  · omega
theorem word_kind (w : Bs) (h : kindOf w ≠ 0) : wordOf (kindOf w) = w := by
  have hb := kind_bd w
  unfold wordOf
  rw [if_pos (by omega)]
  unfold kindOf at h ⊢
  split
  · rename_i hm
    rw [Int.toNat_natCast, List.getD_eq_getElem?_getD, List.getElem?_eq_getElem (List.idxOf_lt_length_of_mem hm), List.getElem_idxOf]
    rfl
  · rename_i hm; rw [if_neg hm] at h; exact absurd rfl h
theorem kind_word : ∀ k : Nat, 1 ≤ k → k ≤ 11 → kindOf (wordOf k) = k := by
  have h : ∀ k ∈ List.range 12, 1 ≤ k → kindOf (wordOf (k : Int)) = (k : Int) := by decide
  exact fun k h1 h2 => h k (List.mem_range.2 (by omega)) h1
theorem pol_word : ∀ n : Nat, n ≤ 2 → polN (polOf n) = some (n : Int) := by
  have h : ∀ k ∈ List.range 3, polN (polOf (k : Int)) = some (k : Int) := by decide
  exact fun n h1 => h n (List.mem_range.2 (by omega))
theorem word_pol {w : Bs} {n : Int} (h : polN w = some n) : polOf n = w ∧ 0 ≤ n ∧ n ≤ 2 := by
  unfold polN at h
  split at h
  · rename_i hm
    cases h
    have hl := List.idxOf_lt_length_of_mem hm
    have h3 : polL.length = 3 := rfl
    refine ⟨?_, by omega, by omega⟩
    unfold polOf
    rw [if_pos (by omega), Int.toNat_natCast, List.getD_eq_getElem?_getD, List.getElem?_eq_getElem hl, List.getElem_idxOf]
    rfl
  · cases h
/-- what is filled tells the rest -/
theorem fill_rest {k : Int} {r : List Bs} {a : Ac} (h : fillA k r = some a) : restA a = r ∧ a.k = k := by
  unfold fillA at h
  by_cases h1 : k = 1
  · rw [if_pos h1] at h
    split at h
    · rename_i x
      cases hu : unB x with
      | none => rw [hu] at h; cases h
      | some b => rw [hu] at h; cases h; simp only [restA, ac0, if_pos h1, put_unB hu, and_self]
    · cases h
  · rw [if_neg h1] at h
    by_cases h2 : k = 3 ∨ k = 6 ∨ k = 11
    · rw [if_pos h2] at h
      split at h
      · rename_i x
        cases hu : numO x with
        | none => rw [hu] at h; cases h
        | some b => rw [hu] at h; cases h; simp only [restA, ac0, if_neg h1, if_pos h2, (dec_numO hu).1, and_self]
      · cases h
    · rw [if_neg h2] at h
      by_cases h3 : k = 5
      · rw [if_pos h3] at h
        split at h
        · rename_i x y
          split at h
          · rename_i m n hm hn
            cases h; simp only [restA, ac0, if_neg h1, if_neg h2, if_pos h3, (dec_numO hm).1, (dec_numO hn).1, and_self]
          · cases h
        · cases h
      · rw [if_neg h3] at h
        by_cases h4 : k = 4
        · rw [if_pos h4] at h
          split at h
          · rename_i x y z p
            split at h
            · rename_i m n l q hm hn hl hq
              cases h; simp only [restA, ac0, if_neg h1, if_neg h2, if_neg h3, if_pos h4, (dec_numO hm).1, (dec_numO hn).1, (dec_numO hl).1, (word_pol hq).1, and_self]
            · cases h
          · cases h
        · rw [if_neg h4] at h
          by_cases h5 : k = 8
          · rw [if_pos h5] at h
            split at h
            · rename_i x
              by_cases hx : x = offW
              · rw [if_pos hx] at h; cases h; simp only [restA, ac0, if_neg h1, if_neg h2, if_neg h3, if_neg h4, if_pos h5, if_true, hx, and_self]
              · rw [if_neg hx] at h
                cases hu : numO x with
                | none => rw [hu] at h; cases h
                | some b =>
                  rw [hu] at h; cases h
                  have hb := (dec_numO hu).2
                  unfold inN at hb
                  simp only [decide_eq_true_eq] at hb
                  simp only [restA, ac0, if_neg h1, if_neg h2, if_neg h3, if_neg h4, if_pos h5, (dec_numO hu).1, if_neg (show ¬ b = -1 by omega), and_self]
            · cases h
          · rw [if_neg h5] at h
            by_cases h6 : k = 9
            · rw [if_pos h6] at h
              split at h
              · rename_i x y z t
                by_cases hx : x = keepW ∧ z = tornW
                · rw [if_pos hx] at h
                  split at h
                  · rename_i l m hl hm
                    cases h
                    simp only [restA, ac0, if_neg h1, if_neg h2, if_neg h3, if_neg h4, if_neg h5, if_pos h6, put_getL (p := decI) (fun s x h => (dec_numO h).1) hl, put_getL (p := putT) (fun s x h => put_getT h) hm, hx.1, hx.2, and_self]
                  · cases h
                · rw [if_neg hx] at h; cases h
              · cases h
            · rw [if_neg h6] at h
              split at h
              · cases h; exact ⟨by unfold restA; rw [if_neg (show ¬ (ac0 k).k = 1 from h1), if_neg (show ¬ ((ac0 k).k = 3 ∨ (ac0 k).k = 6 ∨ (ac0 k).k = 11) from h2), if_neg (show ¬ (ac0 k).k = 5 from h3), if_neg (show ¬ (ac0 k).k = 4 from h4), if_neg (show ¬ (ac0 k).k = 8 from h5), if_neg (show ¬ (ac0 k).k = 9 from h6)], rfl⟩
              · cases h
theorem parse_line {line : Bs} {a : Ac} (h : parseA line = some a) : rightA a = true ∧ lineA a = line := by
  unfold parseA at h
  split at h
  · cases h
  · rename_i w r hs
    split at h
    · cases h
    · rename_i hk
      split at h
      · rename_i a' hf
        split at h
        · rename_i hr
          cases h
          obtain ⟨h1, h2⟩ := fill_rest hf
          refine ⟨hr, ?_⟩
          unfold lineA
          rw [h1, h2, word_kind w hk, ← hs, joi_spl]
        · cases h
      · cases h
theorem zero_eq {l : List Int} (h : zero l = true) : ∀ n ∈ l, n = 0 := by
  unfold zero at h
  simpa using h
theorem wordOf_free (k : Int) : 32 ∉ wordOf k := by
  have h : ∀ w ∈ wordsL, (32 : UInt8) ∉ w := by decide
  unfold wordOf
  split
  · by_cases hk : k.toNat < wordsL.length
    · rw [List.getD_eq_getElem?_getD, List.getElem?_eq_getElem hk]
      exact h _ (List.getElem_mem hk)
    · rw [List.getD_eq_getElem?_getD, List.getElem?_eq_none (by omega)]; simp
  · simp
theorem polOf_free (k : Int) : 32 ∉ polOf k := by
  have h : ∀ w ∈ polL, (32 : UInt8) ∉ w := by decide
  unfold polOf
  split
  · by_cases hk : k.toNat < polL.length
    · rw [List.getD_eq_getElem?_getD, List.getElem?_eq_getElem hk]
      exact h _ (List.getElem_mem hk)
    · rw [List.getD_eq_getElem?_getD, List.getElem?_eq_none (by omega)]; simp
  · simp
theorem joi_free {c d : UInt8} (hcd : c ≠ d) : ∀ r : List Bs, (∀ x ∈ r, d ∉ x) → d ∉ joi c r
  | [], _ => by simp [joi]
  | [x], h => h x (by simp)
  | x :: y :: r, h => by
    rw [joi_cons c x (by simp), List.mem_append, List.mem_cons, not_or, not_or]
    exact ⟨h x (by simp), fun e => hcd e.symm, joi_free hcd (y :: r) (fun z hz => h z (by simp [hz]))⟩
theorem putL_free {α : Type} {p : α → Bs} {l : List α} {d : UInt8} (h1 : d ≠ 45) (h2 : d ≠ 44) (h : ∀ x ∈ l, d ∉ p x) : d ∉ putL p l := by
  unfold putL
  split
  · simpa using h1
  · exact joi_free (fun e => h2 e.symm) _ (fun x hx => by
      obtain ⟨y, hy, rfl⟩ := List.mem_map.1 hx
      exact h y hy)
theorem putT_free (t : Int × Bs) (c : UInt8) (h : c.toNat < 45) : c ∉ putT t := by
  unfold putT
  rw [List.mem_append, List.mem_cons, not_or, not_or]
  exact ⟨decI_free _ c (by omega), fun e => by rw [e] at h; simp at h, putB_free _ c (by omega)⟩
theorem restA_free (a : Ac) : ∀ x ∈ restA a, 32 ∉ x := by
  have o1 : (32 : UInt8) ∉ offW := by decide
  have o2 : (32 : UInt8) ∉ keepW := by decide
  have o3 : (32 : UInt8) ∉ tornW := by decide
  have d : ∀ n, (32 : UInt8) ∉ decI n := fun n => decI_free n 32 (by decide)
  have p : (32 : UInt8) ∉ putB a.bs := putB_free _ 32 (by decide)
  have q := polOf_free a.n
  have l1 : (32 : UInt8) ∉ putL decI a.keep := putL_free (by decide) (by decide) (fun x _ => d x)
  have l2 : (32 : UInt8) ∉ putL putT a.torn := putL_free (by decide) (by decide) (fun x _ => putT_free x 32 (by decide))
  intro x hx
  unfold restA at hx
  repeat' split at hx
  all_goals simp only [List.mem_cons, List.not_mem_nil, or_false] at hx
  · rw [hx]; exact p
  · rw [hx]; exact d _
  · rcases hx with rfl | rfl <;> exact d _
  · rcases hx with rfl | rfl | rfl | rfl <;> first | exact d _ | exact q
  · rw [hx]; exact o1
  · rw [hx]; exact d _
  · rcases hx with rfl | rfl | rfl | rfl
    · exact o2
    · exact l1
    · exact o3
    · exact l2
theorem decI_ne (n : Int) : decI n ≠ [] ∧ (decI n).head? ≠ some 45 := by
  refine ⟨dec_ne _, fun h => ?_⟩
  have := dec_mem n.toNat 45 (List.mem_of_mem_head? h)
  simp at this
theorem putT_ne (t : Int × Bs) : putT t ≠ [] ∧ (putT t).head? ≠ some 45 := by
  obtain ⟨h1, h2⟩ := decI_ne t.1
  unfold putT
  cases hd : decI t.1 with
  | nil => exact absurd hd h1
  | cons b l => rw [hd] at h2; exact ⟨by simp, by simpa using h2⟩
/-- a right act is parsed from its line as it was -/
theorem line_parse {a : Ac} (h : rightA a = true) : parseA (lineA a) = some a := by
  have hr := h
  unfold rightA at h
  simp only [Bool.and_eq_true, decide_eq_true_eq, Bool.or_eq_true, beq_iff_eq, List.isEmpty_iff] at h
  obtain ⟨⟨⟨⟨⟨⟨hk, hn⟩, hb⟩, hkt⟩, -⟩, hka⟩, hta⟩ := h
  have hs : spl 32 (lineA a) = wordOf a.k :: restA a := spl_joi 32 _ (by simp) (fun x hx => by
    rcases List.mem_cons.1 hx with e | hx
    · rw [e]; exact wordOf_free _
    · exact restA_free a x hx)
  have hkk : kindOf (wordOf a.k) = a.k := by
    have := kind_word a.k.toNat (by omega) (by omega)
    rwa [show ((a.k.toNat : Nat) : Int) = a.k by omega] at this
  have hfill : fillA a.k (restA a) = some a := by
    obtain ⟨k, A, B, C, N, bs, keep, torn⟩ := a
    simp only at hk hn hb hkt hka hta ⊢
    have hbs : k ≠ 1 → bs = [] := fun e => by rcases hb with h | h; exact absurd h e; exact h
    have hkl : k ≠ 9 → keep = [] ∧ torn = [] := fun e => by rcases hkt with h | h; exact absurd h e; exact h
    unfold numbered at hn
    simp only at hn
    unfold fillA restA
    simp only
    by_cases h1 : k = 1
    · have e := zero_eq (by simpa [h1] using hn : zero [A, B, C, N] = true)
      obtain ⟨k1, k2⟩ := hkl (by omega)
      simp only [if_pos h1, unB_put, Option.map_some, ac0]
      rw [e A (by simp), e B (by simp), e C (by simp), e N (by simp), k1, k2]
    · have hb0 := hbs h1
      by_cases h2 : k = 3 ∨ k = 6 ∨ k = 11
      · obtain ⟨k1, k2⟩ := hkl (by omega)
        rw [if_pos h2, Bool.and_eq_true] at hn
        have e := zero_eq hn.2
        simp only [if_neg h1, if_pos h2, numO_dec hn.1, Option.map_some, ac0]
        rw [e B (by simp), e C (by simp), e N (by simp), k1, k2, hb0]
      · rw [if_neg h2] at hn
        by_cases h3 : k = 5
        · obtain ⟨k1, k2⟩ := hkl (by omega)
          rw [if_pos h3, Bool.and_eq_true, Bool.and_eq_true] at hn
          have e := zero_eq hn.2
          simp only [if_neg h1, if_neg h2, if_pos h3, numO_dec hn.1.1, numO_dec hn.1.2, ac0]
          rw [e C (by simp), e N (by simp), k1, k2, hb0]
        · rw [if_neg h3] at hn
          by_cases h4 : k = 4
          · obtain ⟨k1, k2⟩ := hkl (by omega)
            rw [if_pos h4] at hn
            simp only [Bool.and_eq_true, decide_eq_true_eq] at hn
            have hp : polN (polOf N) = some N := by
              have := pol_word N.toNat (by omega)
              rwa [show ((N.toNat : Nat) : Int) = N by omega] at this
            simp only [if_neg h1, if_neg h2, if_neg h3, if_pos h4, numO_dec hn.1.1.1, numO_dec hn.1.1.2, numO_dec hn.1.2, hp, ac0]
            rw [k1, k2, hb0]
          · rw [if_neg h4] at hn
            by_cases h5 : k = 8
            · obtain ⟨k1, k2⟩ := hkl (by omega)
              rw [if_pos h5, Bool.and_eq_true] at hn
              have e := zero_eq hn.2
              by_cases hA : A = -1
              · simp only [if_neg h1, if_neg h2, if_neg h3, if_neg h4, if_pos h5, if_pos hA, if_true, ac0]
                rw [e B (by simp), e C (by simp), e N (by simp), k1, k2, hb0, hA]
              · have hi : inN A = true := by
                  rcases (by simpa using hn.1 : inN A = true ∨ A = -1) with h | h
                  · exact h
                  · exact absurd h hA
                have hoff : decI A ≠ offW := fun e => by
                  have h1 := decI_free A 111 (by decide)
                  rw [e] at h1
                  exact h1 (by decide)
                simp only [if_neg h1, if_neg h2, if_neg h3, if_neg h4, if_pos h5, if_neg hA, if_neg hoff, numO_dec hi, Option.map_some, ac0]
                rw [e B (by simp), e C (by simp), e N (by simp), k1, k2, hb0]
            · rw [if_neg h5] at hn
              have e := zero_eq hn
              by_cases h6 : k = 9
              · have g1 : getL numO (putL decI keep) = some keep := getL_put keep (fun x hx => ⟨numO_dec (by simpa using List.all_eq_true.1 hka x hx), decI_free _ 44 (by decide), (decI_ne x).1, (decI_ne x).2⟩)
                have g2 : getL getT (putL putT torn) = some torn := getL_put torn (fun x hx => ⟨getT_put (by
                  have := List.all_eq_true.1 hta x hx
                  unfold tornOk at this
                  rw [Bool.and_eq_true] at this
                  exact this.1), putT_free _ 44 (by decide), (putT_ne x).1, (putT_ne x).2⟩)
                simp only [if_neg h1, if_neg h2, if_neg h3, if_neg h4, if_neg h5, if_pos h6, and_self, if_true, g1, g2, ac0]
                rw [e A (by simp), e B (by simp), e C (by simp), e N (by simp), hb0]
              · obtain ⟨k1, k2⟩ := hkl h6
                simp only [if_neg h1, if_neg h2, if_neg h3, if_neg h4, if_neg h5, if_neg h6, ac0]
                rw [e A (by simp), e B (by simp), e C (by simp), e N (by simp), hb0, k1, k2]
  unfold parseA
  rw [hs]
  simp only [hkk]
  rw [if_neg (by omega), hfill]
  simp only [hr, if_true]
end Go.Proofs.YtbcpciegdmminaaGreatDoor
