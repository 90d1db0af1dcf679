/- A struct of many cells, stored whole into a block and read whole out of it, with no unrolling. -/
import Derived.Test.YtcjflglpkpkflaaDoorSrows
import Derived.Test.YtcjflglpkpkflaaDoorGrew
import Derived.Deep.MidRow
namespace Go.Proofs.YtcjflglpkpkflaaDoor
open Go Go.RowKit
set_option linter.unusedVariables false
def setAll {α : Type} : List α → Nat → List α → List α
  | l, _, [] => l
  | l, o, v :: r => setAll (l.set o v) (o + 1) r
theorem setAll_len {α : Type} : ∀ (vs l : List α) (o : Nat), (setAll l o vs).length = l.length
  | [], _, _ => rfl
  | v :: r, l, o => by rw [setAll, setAll_len r, List.length_set]
theorem setAll_eq {α : Type} : ∀ (vs l : List α) (o : Nat), o + vs.length ≤ l.length → setAll l o vs = l.take o ++ vs ++ l.drop (o + vs.length)
  | [], l, o, h => by simp [setAll]
  | v :: r, l, o, h => by
    have h1 : o < l.length := by simp at h; omega
    rw [setAll, setAll_eq r _ _ (by simp at h ⊢; omega), List.take_add_one, List.getElem?_set_self h1, List.take_set_of_le (Nat.le_refl _), List.drop_set_of_lt (by omega)]
    simp only [Option.toList, List.append_assoc, List.singleton_append, List.length_cons, show o + 1 + r.length = o + (r.length + 1) from by omega]
theorem CellsAt.setCells {g : Nat} {T : TypeId} : ∀ (vs : List Value) (o : Nat) {w : World} {l : List Value}, CellsAt w g T l.toArray → CellsAt (w.setCells g o vs) g T (setAll l o vs).toArray
  | [], _, _, _, h => h
  | v :: r, o, w, l, h => by
    rw [World.setCells, setAll]
    refine CellsAt.setCells r (o + 1) ?_
    have := h.set o v
    rwa [List.setIfInBounds_toArray] at this
theorem grew_setCells {S : List Nat} {g : Nat} {a : World} (hg : g ∈ S ∨ a.heap.size ≤ g) : ∀ (vs : List Value) (o : Nat) {w : World}, Grew S a w → Grew S a (w.setCells g o vs)
  | [], _, _, h => h
  | v :: r, o, w, h => grew_setCells hg r (o + 1) (h.setCell (p := ⟨g, o, none⟩) hg v)

section
variable {P : Program} {ops : Array Oper} {rest : List Oper} {o : Oper} {a : Act} {w : World} {Q : Exit → Act → World → Prop}
/-- a value of as many cells as the block has is stored -/
theorem wpList_storeW (hg : o.guard = none) (E : TypeId) (x y : Operand) (hop : o.op = Op.store E x y) (g : Nat) (hx : a.eval x = .pointer (some ⟨g, 0, none⟩)) (c' : Array Value) (hy : a.eval y = .agg c') (T : TypeId) (c : Array Value) (hc : CellsAt w g T c) (hcs : c.size = c'.size)
    (hi : (P.info? E).map (·.size) = some c'.size) (h1 : c'.all (·.oneCell') = true)
    (h : ∀ w', CellsAt w' g T c' → w.grownBy w' (some g) → wpList P ops Q rest (a.put o.dst undef) w') : wpList P ops Q (o :: rest) a w := by
  have ht : w.there g 0 c'.size := fun j hj => by
    rw [Nat.zero_add]
    exact ⟨by rw [hc.cell j (Array.getElem?_eq_getElem (by omega))]; rfl, hc.free j⟩
  refine wpList_store_mid hg E x y hop g 0 c' hx hy ht hi h1 ?_
  refine h _ ?_ ?_
  · obtain ⟨l, rfl⟩ : ∃ l : List Value, c = l.toArray := ⟨c.toList, by simp⟩
    have h2 := CellsAt.setCells c'.toList 0 hc
    have hl : l.length = c'.toList.length := by simpa using hcs
    rw [setAll_eq _ _ _ (by omega), List.take_zero, List.nil_append, Nat.zero_add, List.drop_of_length_le (by omega), List.append_nil] at h2
    simpa using h2
  · exact Grew.toGrown (grew_setCells (S := [g]) (.inl (by simp)) _ _ (Grew.refl [g] w)) (fun i hi => .inl (by simpa using hi))
/-- a block is read whole -/
theorem wpList_loadW (hg : o.guard = none) (E : TypeId) (x : Operand) (hop : o.op = Op.load E x) (g : Nat) (hx : a.eval x = .pointer (some ⟨g, 0, none⟩)) (T : TypeId) (c : Array Value) (hc : CellsAt w g T c) (d : TypeDesc)
    (hu : P.underlying E = some d) (hd : d.isRow = true) (hi : (P.info? E).map (·.size) = some c.size)
    (h : wpList P ops Q rest (a.put o.dst (.agg c)) w) : wpList P ops Q (o :: rest) a w := by
  refine wpList_load_mid hg E x hop g 0 hx c.toList d (fun j v hv => ?_) hu hd (by simpa using hi) (by simpa using h)
  rw [Nat.zero_add]
  exact hc.cell j (by simpa using hv)
/-- the same as an equation, the world behind it a letter -/
theorem run_storeW {g : Nat} {T : TypeId} {c : Array Value} (hc : CellsAt w g T c) (E : TypeId) (c' : Array Value) (hcs : c.size = c'.size) (hi : (P.info? E).map (·.size) = some c'.size) (h1 : c'.all (·.oneCell') = true) :
    ∃ w', (Instr.storeAt E (.pointer (some ⟨g, 0, none⟩)) (.agg c')).run P w = .ok () w' ∧ CellsAt w' g T c' ∧ w.grownBy w' (some g) := by
  have ht : w.there g 0 c'.size := fun j hj => by
    rw [Nat.zero_add]
    exact ⟨by rw [hc.cell j (Array.getElem?_eq_getElem (by omega))]; rfl, hc.free j⟩
  refine ⟨_, run_storeAt_mid w g 0 E c' ht hi h1, ?_, ?_⟩
  · obtain ⟨l, rfl⟩ : ∃ l : List Value, c = l.toArray := ⟨c.toList, by simp⟩
    have h2 := CellsAt.setCells c'.toList 0 hc
    have hl : l.length = c'.toList.length := by simpa using hcs
    rw [setAll_eq _ _ _ (by omega), List.take_zero, List.nil_append, Nat.zero_add, List.drop_of_length_le (by omega), List.append_nil] at h2
    simpa using h2
  · exact Grew.toGrown (grew_setCells (S := [g]) (.inl (by simp)) _ _ (Grew.refl [g] w)) (fun i hi => .inl (by simpa using hi))
/-- a part of a block that is known whole is stored -/
theorem wpList_storeM (hg : o.guard = none) (E : TypeId) (x y : Operand) (hop : o.op = Op.store E x y) (g k : Nat) (hx : a.eval x = .pointer (some ⟨g, k, none⟩)) (c' : Array Value) (hy : a.eval y = .agg c') (T : TypeId) (c : Array Value) (hc : CellsAt w g T c) (hcs : k + c'.size ≤ c.size)
    (hi : (P.info? E).map (·.size) = some c'.size) (h1 : c'.all (·.oneCell') = true) (d : Array Value) (hd : d.toList = c.toList.take k ++ c'.toList ++ c.toList.drop (k + c'.size))
    (h : ∀ w', CellsAt w' g T d → w.grownBy w' (some g) → wpList P ops Q rest (a.put o.dst undef) w') : wpList P ops Q (o :: rest) a w := by
  have ht : w.there g k c'.size := fun j hj => by
    exact ⟨by rw [hc.cell (k + j) (Array.getElem?_eq_getElem (by omega))]; rfl, hc.free (k + j)⟩
  refine wpList_store_mid hg E x y hop g k c' hx hy ht hi h1 ?_
  refine h _ ?_ ?_
  · obtain ⟨l, rfl⟩ : ∃ l : List Value, c = l.toArray := ⟨c.toList, by simp⟩
    have h2 := CellsAt.setCells c'.toList k hc
    rw [setAll_eq _ _ _ (by simpa using hcs)] at h2
    have h3 : d = (l.take k ++ c'.toList ++ l.drop (k + c'.toList.length)).toArray := by
      apply Array.ext'
      rw [hd]
      simp
    rw [h3]
    exact h2
  · exact Grew.toGrown (grew_setCells (S := [g]) (.inl (by simp)) _ _ (Grew.refl [g] w)) (fun i hi => .inl (by simpa using hi))
/-- a part of a block that is known whole is read -/
theorem wpList_loadM (hg : o.guard = none) (E : TypeId) (x : Operand) (hop : o.op = Op.load E x) (g k : Nat) (hx : a.eval x = .pointer (some ⟨g, k, none⟩)) (T : TypeId) (c : Array Value) (hc : CellsAt w g T c) (l : Array Value) (hl : l.toList = (c.toList.drop k).take l.size) (d : TypeDesc)
    (hu : P.underlying E = some d) (hd : d.isRow = true) (hi : (P.info? E).map (·.size) = some l.size)
    (h : wpList P ops Q rest (a.put o.dst (.agg l)) w) : wpList P ops Q (o :: rest) a w := by
  refine wpList_load_mid hg E x hop g k hx l.toList d (fun j v hv => ?_) hu hd (by simpa using hi) (by simpa using h)
  refine hc.cell (k + j) ?_
  rw [hl, List.getElem?_take] at hv
  split at hv
  · rw [List.getElem?_drop] at hv
    rw [← Array.getElem?_toList]; exact hv
  · cases hv
end
end Go.Proofs.YtcjflglpkpkflaaDoor
