/- Plain: two rows that come of a third one: fellows, chunks. -/
import Derived.Test.YtidfjemblidjkaaMyW
namespace Go.Proofs.Ytidfjemblidjkaa
set_option linter.unusedVariables false
/-- where each number is kept; -1: it isn't -/
def fel : List Int → Int → List Int
  | [], _ => []
  | s :: ss, p => if s = 1 then p :: fel ss (p + 1) else if s = 2 then -1 :: fel ss p else fel ss (p + 1)
def felV (o a : List Int) : List Int := fel (stepsV o a) 0
/-- what fellows are -/
structure Fel (o a f : List Int) : Prop where
  len : f.length = o.length
  rng : ∀ i j : Nat, f[i]? = some (j : Int) → j < a.length ∧ o[i]? = a[j]?
  low : ∀ (i : Nat) (j : Int), f[i]? = some j → -1 ≤ j
  inc : ∀ (i i' j j' : Nat), i < i' → f[i]? = some (j : Int) → f[i']? = some (j' : Int) → j < j'
theorem fel_props : ∀ (ss o a : List Int) (p : Nat), kindsOk ss → wayP ss o a = true →
    (fel ss p).length = o.length ∧ (∀ (i : Nat) (j : Int), (fel ss p)[i]? = some j → j = -1 ∨ ((p : Int) ≤ j ∧ j < p + a.length ∧ o[i]? = a[(j - p).toNat]?)) ∧
    ∀ (i i' : Nat) (j j' : Int), i < i' → (fel ss p)[i]? = some j → (fel ss p)[i']? = some j' → j ≠ -1 → j' ≠ -1 → j < j'
  | [], o, a, p, _, h => by
    unfold wayP at h
    simp at h
    obtain ⟨rfl, rfl⟩ := h
    exact ⟨rfl, fun i j h => by simp [fel] at h, fun i i' j j' _ h => by simp [fel] at h⟩
  | s :: ss, o, a, p, hk, h => by
    have hks : kindsOk ss := fun t ht => hk t (by simp [ht])
    have h1 := hk s (by simp)
    rcases (show s = 1 ∨ s = 2 ∨ s = 3 by omega) with rfl | rfl | rfl
    · cases o with
      | nil => rw [wayP_1a] at h; cases h
      | cons u o =>
        cases a with
        | nil => rw [wayP_1b] at h; cases h
        | cons v a =>
          rw [wayP_1] at h
          simp at h
          obtain ⟨rfl, h⟩ := h
          obtain ⟨h2, h3, h4⟩ := fel_props ss o a (p + 1) hks h
          have hf : fel (1 :: ss) (p : Int) = (p : Int) :: fel ss ((p + 1 : Nat) : Int) := by simp [fel]
          rw [hf]
          refine ⟨by rw [List.length_cons, List.length_cons, h2], fun i j hj => ?_, fun i i' j j' hi hj hj' hn hn' => ?_⟩
          · cases i with
            | zero => simp at hj; subst hj; exact .inr ⟨Int.le_refl _, by simp; omega, by simp⟩
            | succ i =>
              rcases h3 i j (by simpa using hj) with h5 | ⟨h5, h6, h7⟩
              · exact .inl h5
              · refine .inr ⟨by push_cast at h5; omega, by push_cast at h6; simp; omega, ?_⟩
                rw [show (j - (p : Int)).toNat = (j - ((p + 1 : Nat) : Int)).toNat + 1 from by push_cast at h5 ⊢; omega]
                simpa using h7
          · cases i' with
            | zero => omega
            | succ i' =>
              rw [List.getElem?_cons_succ] at hj'
              cases i with
              | zero =>
                simp at hj; subst hj
                rcases h3 i' j' hj' with h5 | ⟨h5, _, _⟩
                · exact absurd h5 hn'
                · push_cast at h5; omega
              | succ i => exact h4 i i' j j' (by omega) (by simpa using hj) hj' hn hn'
    · cases o with
      | nil => rw [wayP_2a] at h; cases h
      | cons u o =>
        rw [wayP_2] at h
        obtain ⟨h2, h3, h4⟩ := fel_props ss o a p hks h
        have hf : fel (2 :: ss) (p : Int) = -1 :: fel ss (p : Int) := by simp [fel]
        rw [hf]
        refine ⟨by rw [List.length_cons, List.length_cons, h2], fun i j hj => ?_, fun i i' j j' hi hj hj' hn hn' => ?_⟩
        · cases i with
          | zero => simp at hj; exact .inl hj.symm
          | succ i => simpa using h3 i j (by simpa using hj)
        · cases i' with
          | zero => omega
          | succ i' =>
            cases i with
            | zero => simp at hj; omega
            | succ i => exact h4 i i' j j' (by omega) (by simpa using hj) (by simpa using hj') hn hn'
    · cases a with
      | nil => rw [wayP_3b] at h; cases h
      | cons v a =>
        rw [wayP_3] at h
        obtain ⟨h2, h3, h4⟩ := fel_props ss o a (p + 1) hks h
        have hf : fel (3 :: ss) (p : Int) = fel ss ((p + 1 : Nat) : Int) := by simp [fel]
        rw [hf]
        refine ⟨h2, fun i j hj => ?_, h4⟩
        rcases h3 i j hj with h5 | ⟨h5, h6, h7⟩
        · exact .inl h5
        · refine .inr ⟨by push_cast at h5; omega, by push_cast at h6; simp; omega, ?_⟩
          rw [show (j - (p : Int)).toNat = (j - ((p + 1 : Nat) : Int)).toNat + 1 from by push_cast at h5 ⊢; omega]
          simpa using h7
theorem felV_ok {o a : List Int} (h : dist o a ≤ 400) : Fel o a (felV o a) := by
  have he : stepsV o a = stepsT o a := by unfold stepsV; rw [if_neg (by omega)]
  obtain ⟨h1, _, h3⟩ := wayP_T _ o a (Nat.le_refl _)
  obtain ⟨k1, k2, k3⟩ := fel_props (stepsT o a) o a 0 h3 h1
  unfold felV
  rw [he]
  refine ⟨k1, fun i j hj => ?_, fun i j hj => ?_, fun i i' j j' hi hj hj' => ?_⟩
  · rcases k2 i j hj with h | ⟨h, h', h''⟩
    · omega
    · exact ⟨by simpa using h', by simpa using h''⟩
  · rcases k2 i j hj with h | ⟨h, _, _⟩ <;> omega
  · have := k3 i i' j j' hi hj hj' (by omega) (by omega); omega
/-- a chunk: its kind, and its parts of three rows -/
structure Ck where
  k : Int
  o0 : Nat
  o1 : Nat
  a0 : Nat
  a1 : Nat
  b0 : Nat
  b1 : Nat
def seg (l : List Int) (i j : Nat) : List Int := (l.take j).drop i
def kindV (p q r : List Int) : Int := if q = r then 4 else if q = p then 3 else if r = p then 2 else 5
/-- how many numbers that come next are kept by both -/
def stabL : List Int → List Int → Int → Int → Nat
  | p :: f, q :: g, y, z => if p = y ∧ q = z then stabL f g (y + 1) (z + 1) + 1 else 0
  | _, _, _, _ => 0
/-- how many numbers that come next aren't kept by both -/
def leadL : List Int → List Int → Nat
  | p :: f, q :: g => if p ≠ -1 ∧ q ≠ -1 then 0 else leadL f g + 1
  | _, _ => 0
theorem stabL_le : ∀ (f g : List Int) (y z : Int), stabL f g y z ≤ f.length ∧ stabL f g y z ≤ g.length
  | [], g, y, z => by simp [stabL]
  | p :: f, [], y, z => by simp [stabL]
  | p :: f, q :: g, y, z => by
    rw [stabL]
    have := stabL_le f g (y + 1) (z + 1)
    split <;> simp <;> omega
theorem stabL_get : ∀ (f g : List Int) (y z : Int) (k : Nat), k < stabL f g y z → f[k]? = some (y + k) ∧ g[k]? = some (z + k)
  | [], g, y, z, k, h => by simp [stabL] at h
  | p :: f, [], y, z, k, h => by simp [stabL] at h
  | p :: f, q :: g, y, z, k, h => by
    rw [stabL] at h
    split at h
    · rename_i h1
      obtain ⟨rfl, rfl⟩ := h1
      cases k with
      | zero => simp
      | succ k =>
        have := stabL_get f g (p + 1) (q + 1) k (by omega)
        simp only [List.getElem?_cons_succ]
        refine ⟨this.1.trans ?_, this.2.trans ?_⟩ <;> (congr 1; push_cast; omega)
    · omega
theorem stabL_drop : ∀ (n : Nat) (f g : List Int) (y z : Int), n ≤ stabL f g y z → n + stabL (f.drop n) (g.drop n) (y + n) (z + n) = stabL f g y z
  | 0, f, g, y, z, _ => by simp
  | n + 1, [], g, y, z, h => by simp [stabL] at h
  | n + 1, p :: f, [], y, z, h => by simp [stabL] at h
  | n + 1, p :: f, q :: g, y, z, h => by
    rw [stabL] at h ⊢
    split at h
    · rename_i h1
      rw [if_pos h1]
      have := stabL_drop n f g (y + 1) (z + 1) (by omega)
      simp only [List.drop_succ_cons]
      rw [show y + ((n + 1 : Nat) : Int) = y + 1 + n from by push_cast; omega, show z + ((n + 1 : Nat) : Int) = z + 1 + n from by push_cast; omega]
      omega
    · omega
theorem leadL_le : ∀ f g : List Int, leadL f g ≤ f.length ∧ leadL f g ≤ g.length
  | [], g => by simp [leadL]
  | p :: f, [] => by simp [leadL]
  | p :: f, q :: g => by
    rw [leadL]
    have := leadL_le f g
    split <;> simp <;> omega
theorem leadL_at : ∀ (f g : List Int) (p q : Int), f[leadL f g]? = some p → g[leadL f g]? = some q → p ≠ -1 ∧ q ≠ -1
  | [], g, p, q, h, _ => by simp at h
  | u :: f, [], p, q, _, h => by simp at h
  | u :: f, v :: g, p, q, h1, h2 => by
    rw [leadL] at h1 h2
    split at h1
    · rename_i h3
      rw [if_pos h3] at h2
      simp at h1 h2
      subst h1; subst h2; exact h3
    · rename_i h3
      rw [if_neg h3] at h2
      exact leadL_at f g p q (by simpa using h1) (by simpa using h2)
/-- ahead of it none is kept by both -/
theorem leadL_pre : ∀ (f g : List Int) (k : Nat) (p q : Int), k < leadL f g → f[k]? = some p → g[k]? = some q → p = -1 ∨ q = -1
  | [], g, k, p, q, _, h, _ => by simp at h
  | u :: f, [], k, p, q, _, _, h => by simp at h
  | u :: f, v :: g, k, p, q, hk, h1, h2 => by
    rw [leadL] at hk
    split at hk
    · omega
    · rename_i h3
      cases k with
      | zero =>
        simp at h1 h2
        subst h1; subst h2
        by_cases e : u = -1
        · exact .inl e
        · by_cases e' : v = -1
          · exact .inr e'
          · exact absurd ⟨e, e'⟩ h3
      | succ k => exact leadL_pre f g k p q (by omega) (by simpa using h1) (by simpa using h2)
theorem leadL_drop : ∀ (n : Nat) (f g : List Int), n ≤ leadL f g → n + leadL (f.drop n) (g.drop n) = leadL f g
  | 0, f, g, _ => by simp
  | n + 1, [], g, h => by simp [leadL] at h
  | n + 1, p :: f, [], h => by simp [leadL] at h
  | n + 1, p :: f, q :: g, h => by
    rw [leadL] at h ⊢
    split at h
    · omega
    · rename_i h1
      rw [if_neg h1]
      have := leadL_drop n f g (by omega)
      simp only [List.drop_succ_cons]
      omega
section
variable (o a b f g : List Int)
def stb (x y z : Nat) : Nat := stabL (f.drop x) (g.drop x) y z
def nxi (x : Nat) : Nat := x + leadL (f.drop x) (g.drop x)
/-- the next place that is kept by both, or the ends -/
def nxt (x : Nat) : Nat × Nat × Nat := if nxi f g x < o.length then (nxi f g x, (f.getD (nxi f g x) 0).toNat, (g.getD (nxi f g x) 0).toNat) else (o.length, a.length, b.length)
def chunks : Nat → Nat → Nat → Nat → List Ck
  | 0, _, _, _ => []
  | n + 1, x, y, z =>
    if x < o.length ∨ y < a.length ∨ z < b.length then
      (if 0 < stb f g x y z then ⟨1, x, x + stb f g x y z, y, y + stb f g x y z, z, z + stb f g x y z⟩ :: chunks n (x + stb f g x y z) (y + stb f g x y z) (z + stb f g x y z)
       else ⟨kindV (seg o x (nxt o a b f g x).1) (seg a y (nxt o a b f g x).2.1) (seg b z (nxt o a b f g x).2.2), x, (nxt o a b f g x).1, y, (nxt o a b f g x).2.1, z, (nxt o a b f g x).2.2⟩ :: chunks n (nxt o a b f g x).1 (nxt o a b f g x).2.1 (nxt o a b f g x).2.2)
    else []
/-- so far the walker has come -/
structure At (x y z : Nat) : Prop where
  hx : x ≤ o.length
  hy : y ≤ a.length
  hz : z ≤ b.length
  fy : ∀ i j : Nat, x ≤ i → f[i]? = some (j : Int) → y ≤ j
  gz : ∀ i j : Nat, x ≤ i → g[i]? = some (j : Int) → z ≤ j
end
section
variable {o a b f g : List Int} (hf : Fel o a f) (hg : Fel o b g) {x y z : Nat} (h : At o a b f g x y z)
include hf hg h
theorem stb_at (hs : 0 < stb f g x y z) : At o a b f g (x + stb f g x y z) (y + stb f g x y z) (z + stb f g x y z) := by
  obtain ⟨s, hss⟩ : ∃ s, s = stb f g x y z := ⟨_, rfl⟩
  rw [← hss] at hs ⊢
  have hle := stabL_le (f.drop x) (g.drop x) y z
  have hget := stabL_get (f.drop x) (g.drop x) y z (s - 1) (by unfold stb at hss; omega)
  rw [List.getElem?_drop, List.getElem?_drop] at hget
  have e1 : (y : Int) + ((s - 1 : Nat) : Int) = ((y + (s - 1) : Nat) : Int) := by push_cast; rfl
  have e2 : (z : Int) + ((s - 1 : Nat) : Int) = ((z + (s - 1) : Nat) : Int) := by push_cast; rfl
  rw [e1, e2] at hget
  have r1 := hf.rng _ _ hget.1
  have r2 := hg.rng _ _ hget.2
  unfold stb at hss
  simp only [List.length_drop] at hle
  have hfl := hf.len
  refine ⟨by have := h.hx; omega, by omega, by omega, fun i j hi hj => ?_, fun i j hi hj => ?_⟩
  · have := hf.inc (x + (s - 1)) i _ j (by omega) hget.1 hj; omega
  · have := hg.inc (x + (s - 1)) i _ j (by omega) hget.2 hj; omega
omit h in
theorem stb_same (k : Nat) (hk : k < stb f g x y z) : o[x + k]? = a[y + k]? ∧ o[x + k]? = b[z + k]? := by
  have hget := stabL_get (f.drop x) (g.drop x) y z k hk
  rw [List.getElem?_drop, List.getElem?_drop] at hget
  exact ⟨(hf.rng _ (y + k) (by rw [hget.1]; push_cast; rfl)).2, (hg.rng _ (z + k) (by rw [hget.2]; push_cast; rfl)).2⟩
omit hf hg h in
theorem stb_next : stb f g (x + stb f g x y z) (y + stb f g x y z) (z + stb f g x y z) = 0 := by
  have := stabL_drop (stb f g x y z) (f.drop x) (g.drop x) y z (Nat.le_refl _)
  unfold stb at this ⊢
  rw [List.drop_drop, List.drop_drop] at this
  push_cast
  omega
omit hg in
theorem nxi_le : x ≤ nxi f g x ∧ nxi f g x ≤ o.length := by
  have := leadL_le (f.drop x) (g.drop x)
  have := h.hx
  have := hf.len
  unfold nxi
  simp only [List.length_drop] at *
  omega
/-- the next place's fellows -/
theorem nxi_get (hi : nxi f g x < o.length) : ∃ p q : Nat, f[nxi f g x]? = some (p : Int) ∧ g[nxi f g x]? = some (q : Int) ∧ p < a.length ∧ q < b.length ∧ y ≤ p ∧ z ≤ q := by
  have hl := nxi_le hf h
  obtain ⟨p, hp⟩ : ∃ p, f[nxi f g x]? = some p := ⟨_, List.getElem?_eq_getElem (by rw [hf.len]; exact hi)⟩
  obtain ⟨q, hq⟩ : ∃ q, g[nxi f g x]? = some q := ⟨_, List.getElem?_eq_getElem (by rw [hg.len]; exact hi)⟩
  have hn := leadL_at (f.drop x) (g.drop x) p q (by rw [List.getElem?_drop]; exact hp) (by rw [List.getElem?_drop]; exact hq)
  have hp0 := hf.low _ _ hp
  have hq0 := hg.low _ _ hq
  obtain ⟨P, rfl⟩ := Int.eq_ofNat_of_zero_le (by omega : 0 ≤ p)
  obtain ⟨Q, rfl⟩ := Int.eq_ofNat_of_zero_le (by omega : 0 ≤ q)
  exact ⟨P, Q, hp, hq, (hf.rng _ _ hp).1, (hg.rng _ _ hq).1, h.fy _ _ hl.1 hp, h.gz _ _ hl.1 hq⟩
omit hf hg h in
theorem nxt_eq (hi : nxi f g x < o.length) {p q : Nat} (hp : f[nxi f g x]? = some (p : Int)) (hq : g[nxi f g x]? = some (q : Int)) : nxt o a b f g x = (nxi f g x, p, q) := by
  unfold nxt
  rw [if_pos hi]
  simp [List.getD_eq_getElem?_getD, hp, hq]
theorem nxt_at : At o a b f g (nxt o a b f g x).1 (nxt o a b f g x).2.1 (nxt o a b f g x).2.2 ∧ x ≤ (nxt o a b f g x).1 ∧ y ≤ (nxt o a b f g x).2.1 ∧ z ≤ (nxt o a b f g x).2.2 := by
  by_cases hi : nxi f g x < o.length
  · obtain ⟨p, q, h1, h2, h3, h4, h5, h6⟩ := nxi_get hf hg h hi
    have hl := nxi_le hf h
    rw [nxt_eq hi h1 h2]
    show At o a b f g (nxi f g x) p q ∧ x ≤ nxi f g x ∧ y ≤ p ∧ z ≤ q
    refine ⟨⟨hl.2, by omega, by omega, fun i j hij hj => ?_, fun i j hij hj => ?_⟩, hl.1, h5, h6⟩
    · rcases Nat.eq_or_lt_of_le hij with e | e
      · subst e; rw [h1] at hj; simp at hj; omega
      · have := hf.inc _ i _ j e h1 hj; omega
    · rcases Nat.eq_or_lt_of_le hij with e | e
      · subst e; rw [h2] at hj; simp at hj; omega
      · have := hg.inc _ i _ j e h2 hj; omega
  · unfold nxt
    rw [if_neg hi]
    show At o a b f g o.length a.length b.length ∧ x ≤ o.length ∧ y ≤ a.length ∧ z ≤ b.length
    refine ⟨⟨Nat.le_refl _, Nat.le_refl _, Nat.le_refl _, fun i j hij hj => ?_, fun i j hij hj => ?_⟩, h.hx, h.hy, h.hz⟩
    · have := (List.getElem?_eq_some_iff.1 hj).1; have := hf.len; omega
    · have := (List.getElem?_eq_some_iff.1 hj).1; have := hg.len; omega
/-- the walker goes on -/
theorem nxt_more (hs : stb f g x y z = 0) (hm : x < o.length ∨ y < a.length ∨ z < b.length) : x + y + z < (nxt o a b f g x).1 + (nxt o a b f g x).2.1 + (nxt o a b f g x).2.2 := by
  obtain ⟨_, h1, h2, h3⟩ := nxt_at hf hg h
  by_cases hi : nxi f g x < o.length
  · obtain ⟨p, q, k1, k2, k3, k4, k5, k6⟩ := nxi_get hf hg h hi
    rw [nxt_eq hi k1 k2] at h1 h2 h3 ⊢
    show x + y + z < nxi f g x + p + q
    replace h1 : x ≤ nxi f g x := h1
    replace h2 : y ≤ p := h2
    replace h3 : z ≤ q := h3
    by_cases e : nxi f g x = x ∧ p = y ∧ q = z
    · exfalso
      obtain ⟨e1, rfl, rfl⟩ := e
      rw [e1] at k1 k2 hi
      have hfx : f.drop x = f[x]'(by rw [hf.len]; exact hi) :: f.drop (x + 1) := List.drop_eq_getElem_cons _
      have hgx : g.drop x = g[x]'(by rw [hg.len]; exact hi) :: g.drop (x + 1) := List.drop_eq_getElem_cons _
      have e3 : f[x]'(by rw [hf.len]; exact hi) = (p : Int) := by rw [List.getElem?_eq_getElem (by rw [hf.len]; exact hi)] at k1; exact Option.some.inj k1
      have e4 : g[x]'(by rw [hg.len]; exact hi) = (q : Int) := by rw [List.getElem?_eq_getElem (by rw [hg.len]; exact hi)] at k2; exact Option.some.inj k2
      unfold stb at hs
      rw [hfx, hgx, e3, e4, stabL, if_pos ⟨rfl, rfl⟩] at hs
      omega
    · omega
  · unfold nxt
    rw [if_neg hi]
    show x + y + z < o.length + a.length + b.length
    have := h.hx; have := h.hy; have := h.hz
    omega
end
end Go.Proofs.Ytidfjemblidjkaa
