/- Rows of structs: each element has so many cells; reading, writing one cell, appending. -/
import Derived.Test.YtcjflglpkpkflaaDoorLib
namespace Go.Proofs.YtcjflglpkpkflaaDoor
open Go Go.RowKit
set_option linter.unusedVariables false
/-- elements whose cells are told by cs, size each -/
def OwnS {α : Type} (E : TypeId) (size : Nat) (cs : α → List Value) (B : Nat) (w : World) (v : Value) (xs : List α) : Prop := w.ownsRow B E size v xs.length (xs.flatMap cs)
def RowS {α : Type} (cs : α → List Value) (w : World) (v : Value) (xs : List α) : Prop := Row w v xs.length (xs.flatMap cs)
theorem flat_get {α : Type} {cs : α → List Value} {size : Nat} (hcs : ∀ x, (cs x).length = size) : ∀ (xs : List α) (i j : Nat) (x : α), xs[i]? = some x → j < size → (xs.flatMap cs)[i * size + j]? = (cs x)[j]?
  | [], i, j, x, h, _ => by simp at h
  | y :: ys, 0, j, x, h, hj => by
    obtain rfl : y = x := by simpa using h
    rw [List.flatMap_cons, Nat.zero_mul, Nat.zero_add, List.getElem?_append_left (by rw [hcs]; exact hj)]
  | y :: ys, i + 1, j, x, h, hj => by
    rw [List.flatMap_cons, List.getElem?_append_right (by rw [hcs, Nat.succ_mul]; omega), hcs, show (i + 1) * size + j - size = i * size + j from by rw [Nat.succ_mul]; omega]
    exact flat_get hcs ys i j x (by simpa using h) hj
theorem flat_len {α : Type} {cs : α → List Value} {size : Nat} (hcs : ∀ x, (cs x).length = size) (xs : List α) : (xs.flatMap cs).length = xs.length * size := by
  induction xs with
  | nil => simp
  | cons x xs ih => rw [List.flatMap_cons, List.length_append, hcs, ih, List.length_cons, Nat.succ_mul, Nat.add_comm]
theorem flat_set {α : Type} {cs : α → List Value} {size : Nat} (hcs : ∀ x, (cs x).length = size) : ∀ (xs : List α) (i j : Nat) (x y : α) (u : Value), xs[i]? = some x → j < size → cs y = (cs x).set j u → (xs.flatMap cs).set (i * size + j) u = (xs.set i y).flatMap cs
  | [], i, j, x, y, u, h, _, _ => by simp at h
  | z :: zs, 0, j, x, y, u, h, hj, hy => by
    obtain rfl : z = x := by simpa using h
    rw [List.flatMap_cons, Nat.zero_mul, Nat.zero_add, List.set_append_left _ _ (by rw [hcs]; exact hj), List.set_cons_zero, List.flatMap_cons, hy]
  | z :: zs, i + 1, j, x, y, u, h, hj, hy => by
    rw [List.flatMap_cons, List.set_append_right _ _ (by rw [hcs, Nat.succ_mul]; omega), hcs, show (i + 1) * size + j - size = i * size + j from by rw [Nat.succ_mul]; omega, List.set_cons_succ, List.flatMap_cons,
      flat_set hcs zs i j x y u (by simpa using h) hj hy]
section
variable {α : Type} {cs : α → List Value} {E T : TypeId} {size B B' : Nat} {w w' W : World} {v : Value} {xs : List α}
theorem OwnS.row (h : OwnS E size cs B w v xs) : RowS cs w v xs := Row.ofOwn h
theorem OwnS.mono (h : OwnS E size cs B w v xs) (hB : B' ≤ B) : OwnS E size cs B' w v xs := own_mono h hB
theorem OwnS.stays (h : OwnS E size cs B w v xs) (hb : Below w.heap.size w w') : OwnS E size cs B w' v xs := own_stays h hb
theorem OwnS.alloc (h : OwnS E size cs B w v xs) (o : Obj) : OwnS E size cs B (w.alloc o) v xs := World.ownsRow.alloc h o
theorem OwnS.nil (B : Nat) (w : World) : OwnS E size cs B w (.slice none 0 0) [] := World.ownsRow_nil _ _ _ _
theorem OwnS.below (h : OwnS E size cs B w v xs) (hb : Below B W w) (hg : w.grownBy w' v.ownBlock) (hB : B ≤ w.heap.size) : Below B W w' := below_own hb h hg hB
theorem RowS.stays (h : RowS cs w v xs) (hb : Below w.heap.size w w') : RowS cs w' v xs := Row.stays h hb
theorem RowS.nil (w : World) : RowS cs w (.slice none 0 0) [] := .inl ⟨rfl, rfl, none, 0, rfl⟩
theorem RowS.shape (h : RowS cs w v xs) (hcs : ∀ x, (cs x).length = size) : ∃ a c, v = .slice a xs.length c ∧ xs.length ≤ maxLen ∧ ∀ i x, xs[i]? = some x → ∃ b o, a = some ⟨b, o, none⟩ ∧ ∀ j u, (cs x)[j]? = some u → w.cell? ⟨b, o + (i * size + j), none⟩ = some u := by
  rcases h with ⟨h1, h2, a, c, rfl⟩ | ⟨b, o, c, rfl, h1, h2, h3, h4⟩
  · obtain rfl : xs = [] := by simpa using h1
    exact ⟨a, c, rfl, Nat.zero_le _, fun j x hx => by simp at hx⟩
  · refine ⟨_, c, rfl, Nat.le_trans h1 h2, fun i x hx => ⟨b, o, rfl, fun j u hu => h4 (i * size + j) u ?_⟩⟩
    rw [flat_get hcs xs i j x hx (by rw [← hcs x]; exact (List.getElem?_eq_some_iff.1 hu).1)]; exact hu
theorem OwnS.block (h : OwnS E size cs B w v xs) (hcs : ∀ x, (cs x).length = size) (hne : xs ≠ []) : ∃ g c, v = .slice (some ⟨g, 0, none⟩) xs.length c ∧ B ≤ g ∧ g < w.heap.size ∧ xs.length ≤ c ∧ (∀ j, w.frozen? ⟨g, j, none⟩ = false) ∧ ∀ i x, xs[i]? = some x → ∀ j u, (cs x)[j]? = some u → w.cell? ⟨g, i * size + j, none⟩ = some u := by
  rcases h.2 with ⟨h1, h2⟩ | ⟨g, cap, cur, h1, h2, h3, h4, h5, h6, h7⟩
  · have hl := h.1
    rw [h2] at hl
    subst h1
    rcases h.row with ⟨h9, _⟩ | ⟨b, o, c, hv, _⟩
    · exact absurd (List.length_eq_zero_iff.1 h9) hne
    · cases hv
  · refine ⟨g, cap, h1, h2, lt_of_block h3, h4, fun j => by simp [World.frozen?, h3], fun i x hx j u hu => ?_⟩
    subst h1
    obtain ⟨a, c, hv, _, hc⟩ := h.row.shape hcs
    cases hv
    obtain ⟨b, o, ha, hc⟩ := hc i x hx
    cases ha
    have := hc j u hu
    rwa [Nat.zero_add] at this
/-- one cell of one element is written -/
theorem OwnS.set {g n c : Nat} (h : OwnS E size cs B w (.slice (some ⟨g, 0, none⟩) n c) xs) (hcs : ∀ x, (cs x).length = size) (i j : Nat) (x y : α) (u : Value) (hx : xs[i]? = some x) (hj : j < size) (hy : cs y = (cs x).set j u) :
    OwnS E size cs B (w.setCell ⟨g, i * size + j, none⟩ u) (.slice (some ⟨g, 0, none⟩) n c) (xs.set i y) := by
  rcases h.2 with ⟨h1, h2⟩ | ⟨g', cap, cur, h1, h2, h3, h4, h5, h6, h7⟩
  · cases h1
  · cases h1
    refine ⟨by rw [flat_len hcs, List.length_set], .inr ⟨g, c, cur.setIfInBounds (i * size + j) u, by rw [List.length_set], h2, heap_setCell_same w g _ _ _ u h3, by simpa using h4, h5, by simpa using h6, ?_⟩⟩
    rw [Array.toList_setIfInBounds, List.take_set, List.length_set, h7, flat_set hcs xs i j x y u hx hj hy]
/-- one element is appended to a row of the call's own -/
theorem wpList_pushS {P : Program} {ops : Array Oper} {rest : List Oper} {o : Oper} {a : Act} {Q : Exit → Act → World → Prop} (hcs : ∀ x, (cs x).length = size) (hf : ∀ x : α, (cs x).all Value.oneCell' = true) {z : Value} {bytes : Nat} (ht : P.underlying T = some (.slice E))
    (hinf : (P.info? E).map (fun i => (i.zero, i.size, i.bytes)) = some (some z, size, bytes)) (hz : z.cells.size = size) (hbs : bytes ≤ 1000) (hown : OwnS E size cs B w v xs) (x : α) (h63 : xs.length ≤ 100000000) (hbase : B ≤ w.heap.size)
    (hgd : o.guard = none) (s y : Operand) (ho : o.op = .call { callee := .builtin .append, args := #[s, y], argTypes := #[T, T] }) (hs : a.eval s = v)
    (us : Array Value) (e' : TypeId) (c : Nat) (hx : a.eval y = .slice (some ⟨w.heap.size, 0, none⟩) 1 c) (hu : us.toList = cs x)
    (h : ∀ v' w', OwnS E size cs B w' v' (xs ++ [x]) → w.grownBy w' v.ownBlock → NewOrSame w v v' → wpList P ops Q rest (a.put o.dst v') w') :
    wpList P ops Q (o :: rest) a (w.alloc (.cells us e')) := by
  have hul : us.size = size := by rw [← Array.length_toList, hu, hcs]
  refine wpList_push hgd s y T ho B E z size bytes ht hinf hz v xs.length (xs.flatMap cs) hs hown us e' c hx hul (by rw [hu]; exact hf x) (by unfold maxLen; omega) ?_ hbase (fun v' w' h1 h2 h3 => h v' w' ?_ h2 h3)
  · have := Nat.mul_le_mul (show xs.length + 1 ≤ 100000001 by omega) hbs
    omega
  · unfold OwnS
    rw [hu] at h1
    simpa using h1
/-- elements that are read are appended to a row of the call's own -/
theorem wpList_appendS {P : Program} {ops : Array Oper} {rest : List Oper} {o : Oper} {a : Act} {Q : Exit → Act → World → Prop} (hcs : ∀ x, (cs x).length = size) (hf : ∀ x : α, (cs x).all Value.oneCell' = true) {z : Value} {bytes : Nat} (ht : P.underlying T = some (.slice E))
    (hinf : (P.info? E).map (fun i => (i.zero, i.size, i.bytes)) = some (some z, size, bytes)) (hz : z.cells.size = size) (hbs : bytes ≤ 1000) (hown : OwnS E size cs B w v xs) {x' : Value} {ys : List α} (hr : RowS cs w x' ys) (h63 : xs.length + ys.length ≤ 100000000) (hbase : B ≤ w.heap.size)
    (hgd : o.guard = none) (s y : Operand) (ho : o.op = .call { callee := .builtin .append, args := #[s, y], argTypes := #[T, T] }) (hs : a.eval s = v) (hx : a.eval y = x')
    (h : ∀ v' w', OwnS E size cs B w' v' (xs ++ ys) → w.grownBy w' v.ownBlock → NewOrSame w v v' → Hid (v' = .slice none 0 0 ↔ v = .slice none 0 0 ∧ ys.length = 0) → wpList P ops Q rest (a.put o.dst v') w') :
    wpList P ops Q (o :: rest) a w := by
  refine wpList_append hgd s y T T ho B E z size bytes ht hinf hz v xs.length (xs.flatMap cs) hs hown x' ys.length (ys.flatMap cs) hx (Row.src hr ht (flat_len hcs ys) (fun u hu => by
      obtain ⟨q, _, hq⟩ := List.mem_flatMap.1 hu
      exact List.all_eq_true.1 (hf q) u hq)) (by unfold maxLen; omega) ?_ hbase
    (fun v' w' h1 h2 h3 h4 => h v' w' (by unfold OwnS; simpa using h1) h2 h3 h4)
  have := Nat.mul_le_mul h63 hbs
  omega
end
end Go.Proofs.YtcjflglpkpkflaaDoor
