/- Heaps as lists, plain: pushed, popped; no program. -/
import Derived.Test.YthabjnppmhlomaaDoorLib
namespace Go.Proofs.YthabjnppmhlomaaDoor
set_option linter.unusedVariables false
/-- two elements changed for each other -/
def swp {α : Type} (l : List α) (i j : Nat) : List α := match l[i]?, l[j]? with
  | some a, some b => (l.set i b).set j a
  | _, _ => l
theorem swp_len {α : Type} (l : List α) (i j : Nat) : (swp l i j).length = l.length := by
  unfold swp; split <;> simp
theorem swp_eq {α : Type} {l : List α} {i j : Nat} {a b : α} (hi : l[i]? = some a) (hj : l[j]? = some b) : swp l i j = (l.set i b).set j a := by
  unfold swp; rw [hi, hj]
theorem swp_get {α : Type} {l : List α} {i j : Nat} (hi : i < l.length) (hj : j < l.length) (k : Nat) : (swp l i j)[k]? = if k = j then l[i]? else if k = i then l[j]? else l[k]? := by
  rw [swp_eq (List.getElem?_eq_getElem hi) (List.getElem?_eq_getElem hj), List.getElem?_set, List.getElem?_set]
  by_cases h1 : j = k
  · subst h1; simp [hi, hj]
  · by_cases h2 : i = k
    · subst h2; simp [h1, hi, hj, Ne.symm h1]
    · simp [h1, h2, Ne.symm h1, Ne.symm h2]
theorem set_perm {α : Type} : ∀ (l : List α) (i : Nat) (a b : α), l[i]? = some a → (b :: l).Perm (a :: l.set i b)
  | [], i, a, b, h => by simp at h
  | x :: l, 0, a, b, h => by
    obtain rfl : x = a := by simpa using h
    simpa using List.Perm.swap x b l
  | x :: l, i + 1, a, b, h => by
    have ih := set_perm l i a b (by simpa using h)
    simp only [List.set_cons_succ]
    exact (List.Perm.swap x b l).trans ((ih.cons x).trans (List.Perm.swap a x _))
theorem swp_perm {α : Type} (l : List α) (i j : Nat) : (swp l i j).Perm l := by
  unfold swp
  split
  · rename_i a b hi hj
    have hil : i < l.length := (List.getElem?_eq_some_iff.1 hi).1
    have hjl : j < l.length := (List.getElem?_eq_some_iff.1 hj).1
    have h1 := set_perm l i a b hi
    have h2 := set_perm (l.set i b) j b a (by
      rw [List.getElem?_set]
      by_cases e : i = j
      · subst e; simp [hil]
      · simp [e, hj])
    -- a :: l.set i b ~ b :: (l.set i b).set j a
    have h3 := h1.trans h2
    exact ((List.perm_cons b).1 h3).symm
  · exact List.Perm.refl _
section
variable {α : Type} (le : α → α → Prop)
/-- the first n elements are a heap -/
def Hp (l : List α) (n : Nat) : Prop := ∀ k a b, 0 < k → k < n → l[(k - 1) / 2]? = some a → l[k]? = some b → le a b
/-- a heap but for element j, which may be lesser than what stands above it -/
def Up (l : List α) (j : Nat) : Prop := (∀ k a b, 0 < k → k < l.length → k ≠ j → l[(k - 1) / 2]? = some a → l[k]? = some b → le a b) ∧
  (∀ k a b, 0 < j → 0 < k → k < l.length → (k - 1) / 2 = j → l[(j - 1) / 2]? = some a → l[k]? = some b → le a b)
/-- of the first n elements a heap but for element i, which may be greater than what stands below it -/
def Dn (l : List α) (i n : Nat) : Prop := (∀ k a b, 0 < k → k < n → (k - 1) / 2 ≠ i → l[(k - 1) / 2]? = some a → l[k]? = some b → le a b) ∧
  (∀ k a b, 0 < i → 0 < k → k < n → (k - 1) / 2 = i → l[(i - 1) / 2]? = some a → l[k]? = some b → le a b)
variable {le}
theorem Hp.root (ht : ∀ a b c, le a b → le b c → le a c) (hr : ∀ a, le a a) {l : List α} {n : Nat} (h : Hp le l n) (hn : n ≤ l.length) {a : α} (h0 : l[0]? = some a) : ∀ (k : Nat) (b : α), k < n → l[k]? = some b → le a b := by
  intro k
  induction k using Nat.strongRecOn with
  | ind k ih =>
    intro b hk hb
    by_cases e : k = 0
    · subst e; rw [h0] at hb; cases hb; exact hr _
    · have hp : (k - 1) / 2 < l.length := by omega
      exact ht _ _ _ (ih ((k - 1) / 2) (by omega) _ (by omega) (List.getElem?_eq_getElem hp)) (h k _ b (by omega) hk (List.getElem?_eq_getElem hp) hb)
theorem Hp.to {l : List α} {n m : Nat} (h : Hp le l n) (hm : m ≤ n) : Hp le l m := fun k a b h0 hk => h k a b h0 (by omega)
theorem Hp.nil : Hp le ([] : List α) 0 := fun k a b _ h => by omega
/-- one more at the end -/
theorem Hp.push {l : List α} (h : Hp le l l.length) (x : α) : Up le (l ++ [x]) l.length := by
  refine ⟨fun k a b h0 hk hne ha hb => ?_, fun k a b _ _ hk hp => ?_⟩
  · simp at hk
    rw [List.getElem?_append_left (by omega)] at ha hb
    exact h k a b h0 (by omega) ha hb
  · simp at hk; omega
theorem Up.step (ht : ∀ a b c, le a b → le b c → le a c) {l : List α} {j : Nat} (h : Up le l j) (hj : j < l.length) (h0 : 0 < j) {a b : α} (ha : l[(j - 1) / 2]? = some a) (hb : l[j]? = some b) (hl : le b a) : Up le (swp l ((j - 1) / 2) j) ((j - 1) / 2) := by
  have hi : (j - 1) / 2 < l.length := by omega
  have hg := swp_get (l := l) hi hj
  refine ⟨fun k x y k0 hk hne hx hy => ?_, fun k x y i0 k0 hk hp hx hy => ?_⟩
  · rw [swp_len] at hk
    rw [hg] at hx hy
    by_cases e : k = j
    · subst e
      rw [if_neg (by omega), if_pos rfl, hb] at hx
      rw [if_pos rfl, ha] at hy
      cases hx; cases hy; exact hl
    · rw [if_neg e, if_neg hne] at hy
      by_cases e1 : (k - 1) / 2 = j
      · rw [if_pos e1, ha] at hx
        cases hx
        exact h.2 k _ y h0 k0 hk e1 ha hy
      · rw [if_neg e1] at hx
        by_cases e2 : (k - 1) / 2 = (j - 1) / 2
        · rw [if_pos e2, hb] at hx
          cases hx
          exact ht _ _ _ hl (h.1 k _ y k0 hk e (by rw [e2]; exact ha) hy)
        · rw [if_neg e2] at hx
          exact h.1 k x y k0 hk e hx hy
  · rw [swp_len] at hk
    rw [hg] at hx hy
    rw [if_neg (by omega), if_neg (by omega)] at hx
    have hxa : le x a := h.1 _ _ _ i0 hi (by omega) hx ha
    by_cases e : k = j
    · subst e
      rw [if_pos rfl, ha] at hy
      cases hy; exact hxa
    · rw [if_neg e, if_neg (by omega)] at hy
      exact ht _ _ _ hxa (h.1 k _ y k0 hk e (by rw [hp]; exact ha) hy)
theorem Up.done {l : List α} {j : Nat} (h : Up le l j) (hd : ∀ a b, 0 < j → l[(j - 1) / 2]? = some a → l[j]? = some b → le a b) : Hp le l l.length := fun k a b h0 hk ha hb => by
  by_cases e : k = j
  · subst e; exact hd a b h0 ha hb
  · exact h.1 k a b h0 hk e ha hb
/-- the last one put at the head: the others are a heap but for it -/
theorem Hp.pop {l : List α} {n : Nat} (h : Hp le l l.length) (hn : l.length = n + 1) : Dn le (swp l 0 n) 0 n := by
  refine ⟨fun k a b h0 hk hne ha hb => ?_, fun k a b h0 => by omega⟩
  rw [swp_get (by omega) (by omega)] at ha hb
  rw [if_neg (by omega), if_neg hne] at ha
  rw [if_neg (by omega), if_neg (by omega)] at hb
  exact h k a b h0 (by omega) ha hb
/-- element j, the least of those below i, goes up -/
theorem Dn.step (ht : ∀ a b c, le a b → le b c → le a c) {l : List α} {i n j : Nat} (h : Dn le l i n) (hn : n ≤ l.length) (hj : j < n) (hji : (j - 1) / 2 = i) (h0 : 0 < j) {a b : α} (ha : l[i]? = some a) (hb : l[j]? = some b) (hl : le b a)
    (hs : ∀ k c, k < n → 0 < k → (k - 1) / 2 = i → l[k]? = some c → le b c) : Dn le (swp l i j) j n := by
  have hg := swp_get (l := l) (i := i) (j := j) (by omega) (by omega)
  refine ⟨fun k x y k0 hk hne hx hy => ?_, fun k x y _ k0 hk hp hx hy => ?_⟩
  · rw [hg] at hx hy
    rw [if_neg hne] at hx
    by_cases e : (k - 1) / 2 = i
    · rw [if_pos e, hb] at hx
      cases hx
      by_cases e1 : k = j
      · rw [if_pos e1, ha] at hy; cases hy; exact hl
      · rw [if_neg e1, if_neg (by omega)] at hy
        exact hs k y hk k0 e hy
    · rw [if_neg e] at hx
      rw [if_neg (by omega)] at hy
      by_cases e2 : k = i
      · rw [if_pos e2, hb] at hy
        cases hy
        subst e2
        exact h.2 j x _ k0 h0 hj hji hx hb
      · rw [if_neg e2] at hy
        exact h.1 k x y k0 hk e hx hy
  · rw [hg] at hx hy
    rw [if_neg (by omega), if_pos hji, hb] at hx
    cases hx
    rw [if_neg (by omega), if_neg (by omega)] at hy
    exact h.1 k _ y k0 hk (by omega) (by rw [hp]; exact hb) hy
theorem Dn.done {l : List α} {i n : Nat} (h : Dn le l i n) (hd : ∀ k a b, 0 < k → k < n → (k - 1) / 2 = i → l[i]? = some a → l[k]? = some b → le a b) : Hp le l n := fun k a b h0 hk ha hb => by
  by_cases e : (k - 1) / 2 = i
  · exact hd k a b h0 hk e (by rw [← e]; exact ha) hb
  · exact h.1 k a b h0 hk e ha hb
end
end Go.Proofs.YthabjnppmhlomaaDoor
