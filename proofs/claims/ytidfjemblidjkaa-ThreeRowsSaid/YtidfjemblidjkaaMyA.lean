/- Plain: the steps from one row to another, and their runs. -/
import Derived.Test.YtidfjemblidjkaaMyL
namespace Go.Proofs.Ytidfjemblidjkaa
set_option linter.unusedVariables false
/-- a run: its kind (1 kept, 2 dropped, 3 put), and how many -/
abbrev Rn := Int × Int
/-- a number more at the end of runs -/
def addR (rs : List Rn) (k c : Int) : List Rn :=
  if c = 0 then rs else match rs.getLast? with
    | none => [(k, c)]
    | some r => if r.1 = k then rs.dropLast ++ [(k, r.2 + c)] else rs ++ [(k, c)]
theorem addR_zero (rs : List Rn) (k : Int) : addR rs k 0 = rs := if_pos rfl
theorem addR_nil {c : Int} (k : Int) (h : c ≠ 0) : addR [] k c = [(k, c)] := by unfold addR; rw [if_neg h]; rfl
theorem addR_same {rs : List Rn} {k c d : Int} (h : c ≠ 0) : addR (rs ++ [(k, d)]) k c = rs ++ [(k, d + c)] := by
  unfold addR; rw [if_neg h]; simp
theorem addR_other {rs : List Rn} {k k' c d : Int} (h : c ≠ 0) (hk : ¬ k' = k) : addR (rs ++ [(k', d)]) k c = rs ++ [(k', d)] ++ [(k, c)] := by
  unfold addR; rw [if_neg h]; simp [hk]
/-- steps as runs -/
def runsV (ss : List Int) : List Rn := ss.foldl (fun r k => addR r k 1) []
theorem runsV_snoc (ss : List Int) (k : Int) : runsV (ss ++ [k]) = addR (runsV ss) k 1 := by unfold runsV; rw [List.foldl_append]; rfl
theorem addR_one (rs : List Rn) (k c : Int) (hc : 0 ≤ c) : addR (addR rs k c) k 1 = addR rs k (c + 1) := by
  by_cases h0 : c = 0
  · subst h0; rw [addR_zero]; rfl
  · rcases List.eq_nil_or_concat rs with rfl | ⟨L, r, rfl⟩
    · rw [addR_nil k h0, addR_nil k (by omega), ← List.nil_append [(k, c)], addR_same (by decide)]; rfl
    · obtain ⟨k', d⟩ := r
      rw [List.concat_eq_append]
      by_cases hk : k' = k
      · subst hk
        rw [addR_same h0, addR_same (by decide), addR_same (by omega), Int.add_assoc]
      · rw [addR_other h0 hk, addR_other (by omega) hk, addR_same (by decide)]
theorem foldl_rep (k : Int) : ∀ (n : Nat) (rs : List Rn), (List.replicate n k).foldl (fun r k => addR r k 1) rs = addR rs k n
  | 0, rs => by simp [addR_zero]
  | n + 1, rs => by
    rw [List.replicate_succ', List.foldl_append, foldl_rep k n rs]
    show addR (addR rs k n) k 1 = _
    rw [addR_one _ _ _ (by omega)]; rfl
theorem runsV_rep (ss : List Int) (k : Int) (n : Nat) : runsV (ss ++ List.replicate n k) = addR (runsV ss) k n := by
  unfold runsV; rw [List.foldl_append, foldl_rep]
/-- the steps by the table -/
def stepsT : List Int → List Int → List Int
  | [], bs => List.replicate bs.length 3
  | us, [] => List.replicate us.length 2
  | x :: us, y :: bs => if x = y then 1 :: stepsT us bs else if dist us (y :: bs) ≤ dist (x :: us) bs then 2 :: stepsT us (y :: bs) else 3 :: stepsT (x :: us) bs
termination_by us bs => us.length + bs.length
theorem stepsT_nil (bs : List Int) : stepsT [] bs = List.replicate bs.length 3 := by rw [stepsT]
theorem stepsT_nil' (us : List Int) : stepsT us [] = List.replicate us.length 2 := by cases us <;> rw [stepsT] <;> simp
theorem stepsT_same (x : Int) (us bs : List Int) : stepsT (x :: us) (x :: bs) = 1 :: stepsT us bs := by rw [stepsT, if_pos rfl]
theorem stepsT_drop {x y : Int} (h : ¬ x = y) {us bs : List Int} (h2 : dist us (y :: bs) ≤ dist (x :: us) bs) : stepsT (x :: us) (y :: bs) = 2 :: stepsT us (y :: bs) := by rw [stepsT, if_neg h, if_pos h2]
theorem stepsT_put {x y : Int} (h : ¬ x = y) {us bs : List Int} (h2 : ¬ dist us (y :: bs) ≤ dist (x :: us) bs) : stepsT (x :: us) (y :: bs) = 3 :: stepsT (x :: us) bs := by rw [stepsT, if_neg h, if_neg h2]
/-- how many numbers two rows begin alike with -/
def alike : List Int → List Int → Nat
  | x :: us, y :: bs => if x = y then alike us bs + 1 else 0
  | _, _ => 0
theorem alike_le : ∀ us bs : List Int, alike us bs ≤ us.length ∧ alike us bs ≤ bs.length
  | [], bs => by simp [alike]
  | x :: us, [] => by simp [alike]
  | x :: us, y :: bs => by
    rw [alike]
    have := alike_le us bs
    split <;> simp <;> omega
/-- the steps of rows that are far apart -/
def stepsF (a b : List Int) : List Int :=
  let h := alike a b
  let t := alike (a.drop h).reverse (b.drop h).reverse
  List.replicate h 1 ++ List.replicate (a.length - h - t) 2 ++ List.replicate (b.length - h - t) 3 ++ List.replicate t 1
/-- the steps -/
def stepsV (a b : List Int) : List Int := if 400 < dist a b then stepsF a b else stepsT a b
def alignV (a b : List Int) : List Rn := runsV (stepsV a b)
/-- the distance as it is told -/
def farV (a b : List Int) : Nat := min (dist a b) 401
/-- the steps as from places -/
def stepsAt (a b : List Int) (x y : Nat) : List Int := stepsT (a.drop x) (b.drop y)
section
variable {a b : List Int} {x y : Nat}
theorem stepsAt_end (h : a.length ≤ x) (h2 : b.length ≤ y) : stepsAt a b x y = [] := by unfold stepsAt; rw [List.drop_of_length_le h, List.drop_of_length_le h2, stepsT_nil]; rfl
theorem stepsAt_same (hx : x < a.length) (hy : y < b.length) (h : a[x] = b[y]) : stepsAt a b x y = 1 :: stepsAt a b (x + 1) (y + 1) := by
  unfold stepsAt; rw [drop_cons hx, drop_cons hy, h, stepsT_same]
theorem stepsAt_drop' (hx : x < a.length) (hy : b.length ≤ y) : stepsAt a b x y = 2 :: stepsAt a b (x + 1) y := by
  unfold stepsAt; rw [drop_cons hx, List.drop_of_length_le hy, stepsT_nil', stepsT_nil', List.length_cons, List.replicate_succ]
theorem stepsAt_put' (hx : a.length ≤ x) (hy : y < b.length) : stepsAt a b x y = 3 :: stepsAt a b x (y + 1) := by
  unfold stepsAt; rw [drop_cons hy, List.drop_of_length_le hx, stepsT_nil, stepsT_nil, List.length_cons, List.replicate_succ]
theorem stepsAt_drop (hx : x < a.length) (hy : y < b.length) (h : ¬ a[x] = b[y]) (h2 : tab a b (x + 1) y ≤ tab a b x (y + 1)) : stepsAt a b x y = 2 :: stepsAt a b (x + 1) y := by
  unfold tab at h2
  rw [drop_cons hx, drop_cons hy] at h2
  unfold stepsAt; rw [drop_cons hx, drop_cons hy, stepsT_drop h h2]
theorem stepsAt_put (hx : x < a.length) (hy : y < b.length) (h : ¬ a[x] = b[y]) (h2 : ¬ tab a b (x + 1) y ≤ tab a b x (y + 1)) : stepsAt a b x y = 3 :: stepsAt a b x (y + 1) := by
  unfold tab at h2
  rw [drop_cons hx, drop_cons hy] at h2
  unfold stepsAt; rw [drop_cons hx, drop_cons hy, stepsT_put h h2]
end
end Go.Proofs.Ytidfjemblidjkaa
