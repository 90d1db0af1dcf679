/- 'Grew S w w'': of the blocks that were there in w, those outside the list S are in w' as they were. -/
import Derived.Test.YtcjflglpkpkflaaDoorLib
import Derived.BigQuiet
namespace Go.Proofs.YtcjflglpkpkflaaDoor
open Go Go.RowKit
set_option linter.unusedVariables false
structure Grew (S : List Nat) (w w' : World) : Prop where
  os : w'.os = w.os
  tape : w'.tape = w.tape
  output : w'.output = w.output
  size : w.heap.size ≤ w'.heap.size
  block : ∀ k, k < w.heap.size → k ∉ S → w'.heap[k]? = w.heap[k]?
theorem Grew.refl (S : List Nat) (w : World) : Grew S w w := ⟨rfl, rfl, rfl, Nat.le_refl _, fun _ _ _ => rfl⟩
theorem Grew.step {S S' : List Nat} {a b c : World} (h : Grew S a b) (k : Grew S' b c) (hs : ∀ i ∈ S', i ∈ S ∨ a.heap.size ≤ i) : Grew S a c :=
  ⟨k.os.trans h.os, k.tape.trans h.tape, k.output.trans h.output, Nat.le_trans h.size k.size, fun i hi hn => (k.block i (Nat.lt_of_lt_of_le hi h.size) (fun hm => (hs i hm).elim hn (fun h2 => absurd hi (Nat.not_lt.2 h2)))).trans (h.block i hi hn)⟩
theorem Grew.trans {S : List Nat} {a b c : World} (h : Grew S a b) (k : Grew S b c) : Grew S a c := h.step k fun _ hi => .inl hi
theorem Grew.mono {S S' : List Nat} {w w' : World} (h : Grew S w w') (hs : ∀ i ∈ S, i ∈ S') : Grew S' w w' := ⟨h.os, h.tape, h.output, h.size, fun k hk hn => h.block k hk fun hm => hn (hs k hm)⟩
theorem Grew.ofBelow {S : List Nat} {w w' : World} (h : Below w.heap.size w w') : Grew S w w' := ⟨h.os, h.tape, h.output, h.size, fun k hk _ => h.block k hk⟩
theorem Grew.ofGrown {g : Nat} {w w' : World} (h : w.grownBy w' (some g)) : Grew [g] w w' := ⟨h.os, h.tape, h.output, h.size, fun k hk hn => h.block k hk (fun e => hn (by cases e; simp))⟩
theorem Grew.grown {S : List Nat} {a w w' : World} {row : Option Nat} (h : Grew S a w) (hg : w.grownBy w' row) (hr : ∀ i, row = some i → i ∈ S ∨ a.heap.size ≤ i) : Grew S a w' :=
  ⟨hg.os.trans h.os, hg.tape.trans h.tape, hg.output.trans h.output, Nat.le_trans h.size hg.size, fun i hi hn => (hg.block i (Nat.lt_of_lt_of_le hi h.size) (fun e => (hr i e.symm).elim hn (fun h2 => absurd hi (Nat.not_lt.2 h2)))).trans (h.block i hi hn)⟩
theorem Grew.add {S : List Nat} {a w w' : World} (h : Grew S a w) (hb : Below w.heap.size w w') : Grew S a w' := h.step (Grew.ofBelow (S := S) hb) fun _ hi => .inl hi
theorem Grew.setCell {S : List Nat} {a w : World} (h : Grew S a w) {p : Addr} (hp : p.block ∈ S ∨ a.heap.size ≤ p.block) (u : Value) : Grew S a (w.setCell p u) :=
  h.step (S' := [p.block]) ⟨rfl, rfl, rfl, by simp [World.setCell], fun k hk hn => Below.heap_setCell _ _ _ _ (by simpa using hn)⟩ (fun i hi => by rw [List.mem_singleton] at hi; rw [hi]; exact hp)
theorem Grew.drew {S : List Nat} {a w : World} (h : Grew S a w) : Grew S a w.drew := ⟨h.os, h.tape, h.output, h.size, h.block⟩
theorem Grew.drewN {S : List Nat} {a w : World} (h : Grew S a w) (n : Nat) : Grew S a (w.drewN n) := ⟨h.os, h.tape, h.output, h.size, h.block⟩
theorem Grew.alloc {S : List Nat} {a w : World} (h : Grew S a w) (o : Obj) : Grew S a (w.alloc o) := h.add ((Below.refl _ _).alloc (Nat.le_refl _) o)
/-- where all that may have turned is the call's own -/
theorem Grew.below {S : List Nat} {B : Nat} {a w w' : World} (h : Grew S w w') (hb : Below B a w) (hs : ∀ i ∈ S, B ≤ i) (hB : B ≤ w.heap.size) : Below B a w' :=
  hb.trans ⟨h.os, h.tape, h.output, h.size, fun k hk => h.block k (Nat.lt_of_lt_of_le hk hB) (fun hm => absurd hk (Nat.not_lt.2 (hs k hm)))⟩
theorem Grew.toGrown {S : List Nat} {g : Nat} {w w' : World} (h : Grew S w w') (hs : ∀ i ∈ S, i = g ∨ w.heap.size ≤ i) : w.grownBy w' (some g) :=
  ⟨h.os, h.tape, h.output, h.size, fun k hk hn => h.block k hk (fun hm => (hs k hm).elim (fun e => hn (by rw [e])) (fun h2 => absurd hk (Nat.not_lt.2 h2)))⟩
theorem Grew.row {S : List Nat} {w w' : World} {v : Value} {n : Nat} {xs : List Value} (h : Grew S w w') (hr : Row w v n xs) (hv : ∀ k, v.ownBlock = some k → k ∉ S) : Row w' v n xs := by
  rcases hr with h1 | ⟨b, o, c, rfl, h1, h2, h3, h4⟩
  · exact .inl h1
  · refine .inr ⟨b, o, c, rfl, h1, h2, Nat.lt_of_lt_of_le h3 h.size, fun j u hu => ?_⟩
    exact (World.cell?_of_block (a := ⟨b, o + j, none⟩) (h.block b h3 (hv b rfl))).trans (h4 j u hu)
theorem Grew.rowB {S : List Nat} {w w' : World} {v : Value} {bs : List UInt8} (h : Grew S w w') (hr : RowB w v bs) (hv : bs ≠ [] → ∀ k, v.ownBlock = some k → k ∉ S) : RowB w' v bs := by
  by_cases hb : bs = []
  · subst hb
    rcases hr with h1 | ⟨b, o, c, hv1, h1, h2, h3, h4⟩
    · exact .inl h1
    · exact .inl ⟨rfl, rfl, _, c, hv1⟩
  · exact h.row hr (hv hb)
theorem CellsAt.grew {S : List Nat} {w w' : World} {g : Nat} {T : TypeId} {cs : Array Value} (h : CellsAt w g T cs) (hg : Grew S w w') (hn : g ∉ S) : CellsAt w' g T cs := (hg.block g h.lt hn).trans h
end Go.Proofs.YtcjflglpkpkflaaDoor
