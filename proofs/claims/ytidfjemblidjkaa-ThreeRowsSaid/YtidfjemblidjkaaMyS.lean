/- Plain: how far two rows are apart (numbers dropped and put), and the steps from one to the other. -/
import Derived.Test.YtidfjemblidjkaaLib
namespace Go.Proofs.Ytidfjemblidjkaa
set_option linter.unusedVariables false
/-- the distance -/
def dist : List Int → List Int → Nat
  | [], bs => bs.length
  | us, [] => us.length
  | x :: us, y :: bs => if x = y then dist us bs else min (dist us (y :: bs)) (dist (x :: us) bs) + 1
termination_by us bs => us.length + bs.length
theorem dist_nil (bs : List Int) : dist [] bs = bs.length := by rw [dist]
theorem dist_nil' (us : List Int) : dist us [] = us.length := by cases us <;> rw [dist] <;> simp
theorem dist_same (x : Int) (us bs : List Int) : dist (x :: us) (x :: bs) = dist us bs := by rw [dist, if_pos rfl]
theorem dist_other {x y : Int} (h : ¬ x = y) (us bs : List Int) : dist (x :: us) (y :: bs) = min (dist us (y :: bs)) (dist (x :: us) bs) + 1 := by rw [dist, if_neg h]
theorem dist_swap : ∀ (n : Nat) (us bs : List Int), us.length + bs.length ≤ n → dist us bs = dist bs us
  | _, [], bs, _ => by rw [dist_nil, dist_nil']
  | _, x :: us, [], _ => by rw [dist_nil, dist_nil']
  | 0, x :: us, y :: bs, h => by simp at h
  | n + 1, x :: us, y :: bs, h => by
    simp only [List.length_cons] at h
    by_cases e : x = y
    · subst e
      rw [dist_same, dist_same, dist_swap n us bs (by omega)]
    · rw [dist_other e, dist_other (fun h => e h.symm), dist_swap n us (y :: bs) (by simp; omega), dist_swap n (x :: us) bs (by simp; omega), Nat.min_comm]
theorem dist_comm (us bs : List Int) : dist us bs = dist bs us := dist_swap _ us bs (Nat.le_refl _)
/-- one number more or less -/
theorem dist_near : ∀ (n : Nat) (us bs : List Int) (x : Int), us.length + bs.length ≤ n → dist (x :: us) bs ≤ dist us bs + 1 ∧ dist us bs ≤ dist (x :: us) bs + 1
  | _, us, [], x, _ => by rw [dist_nil', dist_nil']; simp; omega
  | 0, us, y :: bs, x, h => by simp at h
  | n + 1, us, y :: bs, x, h => by
    simp only [List.length_cons] at h
    have h1 := dist_near n us bs x (by omega)
    have h2 : dist (y :: bs) us ≤ dist bs us + 1 ∧ dist bs us ≤ dist (y :: bs) us + 1 := by
      cases us with
      | nil => rw [dist_nil', dist_nil']; simp; omega
      | cons z us => exact dist_near n bs (z :: us) y (by simp at h ⊢; omega)
    rw [dist_comm (y :: bs), dist_comm bs] at h2
    by_cases e : x = y
    · subst e
      rw [dist_same]
      exact ⟨h2.2, h2.1⟩
    · rw [dist_other e]
      refine ⟨?_, ?_⟩
      · have := Nat.min_le_left (dist us (y :: bs)) (dist (x :: us) bs)
        omega
      · rcases Nat.le_total (dist us (y :: bs)) (dist (x :: us) bs) with h3 | h3
        · rw [Nat.min_eq_left h3]; omega
        · rw [Nat.min_eq_right h3]; omega
theorem dist_drop_l (x : Int) (us bs : List Int) : dist (x :: us) bs ≤ dist us bs + 1 := (dist_near _ us bs x (Nat.le_refl _)).1
theorem dist_put_l (x : Int) (us bs : List Int) : dist us bs ≤ dist (x :: us) bs + 1 := (dist_near _ us bs x (Nat.le_refl _)).2
theorem dist_drop_r (y : Int) (us bs : List Int) : dist us (y :: bs) ≤ dist us bs + 1 := by rw [dist_comm, dist_comm us]; exact dist_drop_l y bs us
theorem dist_put_r (y : Int) (us bs : List Int) : dist us bs ≤ dist us (y :: bs) + 1 := by rw [dist_comm, dist_comm us (y :: bs)]; exact dist_put_l y bs us
/-- along a diagonal -/
theorem dist_diag (x y : Int) (us bs : List Int) : dist us bs ≤ dist (x :: us) (y :: bs) := by
  by_cases e : x = y
  · subst e; rw [dist_same]; exact Nat.le_refl _
  · rw [dist_other e]
    have h1 := dist_put_r y us bs
    have h2 := dist_put_l x us bs
    rcases Nat.le_total (dist us (y :: bs)) (dist (x :: us) bs) with h3 | h3
    · rw [Nat.min_eq_left h3]; omega
    · rw [Nat.min_eq_right h3]; omega
/-- never more than all dropped and all put -/
theorem dist_le : ∀ (n : Nat) (us bs : List Int), us.length + bs.length ≤ n → dist us bs ≤ us.length + bs.length
  | _, [], bs, _ => by rw [dist_nil]; simp
  | _, x :: us, [], _ => by rw [dist_nil']; simp
  | 0, x :: us, y :: bs, h => by simp at h
  | n + 1, x :: us, y :: bs, h => by
    have := dist_le n us (y :: bs) (by simp at h ⊢; omega)
    have := dist_drop_l x us (y :: bs)
    simp at *; omega
theorem dist_zero : ∀ (us bs : List Int), dist us bs = 0 ↔ us = bs
  | [], bs => by rw [dist_nil]; exact ⟨fun h => (List.length_eq_zero_iff.1 h).symm, fun h => by rw [← h]; rfl⟩
  | x :: us, [] => by rw [dist_nil']; simp
  | x :: us, y :: bs => by
    by_cases e : x = y
    · subst e; rw [dist_same, dist_zero us bs]; simp
    · rw [dist_other e]; simp [e]

/-! ### the table by places -/
def tab (a b : List Int) (x y : Nat) : Nat := dist (a.drop x) (b.drop y)
section
variable {a b : List Int} {x y : Nat}
theorem drop_cons (h : x < a.length) : a.drop x = a[x] :: a.drop (x + 1) := List.drop_eq_getElem_cons h
theorem tab_end (h : a.length ≤ x) : tab a b x y = b.length - y := by
  unfold tab; rw [List.drop_of_length_le h, dist_nil, List.length_drop]
theorem tab_end' (h : b.length ≤ y) : tab a b x y = a.length - x := by
  unfold tab; rw [List.drop_of_length_le h, dist_nil', List.length_drop]
theorem tab_same (hx : x < a.length) (hy : y < b.length) (h : a[x] = b[y]) : tab a b x y = tab a b (x + 1) (y + 1) := by
  unfold tab; rw [drop_cons hx, drop_cons hy, h, dist_same]
theorem tab_other (hx : x < a.length) (hy : y < b.length) (h : ¬ a[x] = b[y]) : tab a b x y = min (tab a b (x + 1) y) (tab a b x (y + 1)) + 1 := by
  unfold tab; rw [drop_cons hx, drop_cons hy, dist_other h]
theorem tab_near (a b : List Int) (x y : Nat) : tab a b x y ≤ tab a b (x + 1) y + 1 ∧ tab a b (x + 1) y ≤ tab a b x y + 1 := by
  by_cases hx : x < a.length
  · unfold tab; rw [drop_cons hx]; exact ⟨dist_drop_l _ _ _, dist_put_l _ _ _⟩
  · rw [tab_end (by omega), tab_end (by omega)]; omega
theorem tab_near' (a b : List Int) (x y : Nat) : tab a b x y ≤ tab a b x (y + 1) + 1 ∧ tab a b x (y + 1) ≤ tab a b x y + 1 := by
  by_cases hy : y < b.length
  · unfold tab; rw [drop_cons hy]; exact ⟨dist_drop_r _ _ _, dist_put_r _ _ _⟩
  · rw [tab_end' (by omega), tab_end' (by omega)]; omega
theorem tab_diag (hx : x < a.length) (hy : y < b.length) : tab a b (x + 1) (y + 1) ≤ tab a b x y := by
  unfold tab; rw [drop_cons hx, drop_cons hy]; exact dist_diag _ _ _ _
theorem tab_le (a b : List Int) (x y : Nat) : tab a b x y ≤ a.length + b.length := by
  unfold tab
  refine Nat.le_trans (dist_le _ _ _ (Nat.le_refl _)) ?_
  simp only [List.length_drop]; omega
end
end Go.Proofs.Ytidfjemblidjkaa
