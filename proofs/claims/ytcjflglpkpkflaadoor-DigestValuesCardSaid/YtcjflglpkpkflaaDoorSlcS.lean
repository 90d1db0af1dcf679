/- Pieces of rows of structs: x[:h], x[l:] as values, and what they read as. -/
import Derived.Test.YtcjflglpkpkflaaDoorSrows
namespace Go.Proofs.YtcjflglpkpkflaaDoor
open Go Go.RowKit
set_option linter.unusedVariables false
theorem RowS.upto {α : Type} {cs : α → List Value} {w : World} {a : Option Addr} {c : Nat} {xs : List α} (h : RowS cs w (.slice a xs.length c) xs) (m : Nat) (hm : m ≤ xs.length) : RowS cs w (.slice a m c) (xs.take m) := by
  have hl : (xs.take m).length = m := by simp; omega
  unfold RowS
  rw [hl]
  rcases h with ⟨h1, h2, _⟩ | ⟨b, o, c', hv, h1, h2, h3, h4⟩
  · obtain rfl : m = 0 := by omega
    exact .inl ⟨rfl, by simp, a, c, rfl⟩
  · cases hv
    refine .inr ⟨b, o, c, rfl, by omega, h2, h3, fun j u hu => h4 j u ?_⟩
    have e : xs.flatMap cs = (xs.take m).flatMap cs ++ (xs.drop m).flatMap cs := by rw [← List.flatMap_append, List.take_append_drop]
    rw [e, List.getElem?_append_left (List.getElem?_eq_some_iff.1 hu).1]
    exact hu
/-- the value of x[l:], elements of so many cells -/
def slcS (size : Nat) (a : Option Addr) (c l h : Nat) : Value := .slice (if c = l then a else a.map fun x => x.add (l * size)) (h - l) (c - l)
theorem RowS.capS {α : Type} {cs : α → List Value} {w : World} {a : Option Addr} {c : Nat} {xs : List α} (h : RowS cs w (.slice a xs.length c) xs) : xs.length ≤ c ∨ xs = [] := by
  rcases h with ⟨h1, _⟩ | ⟨b, o, c', hv, h1, _⟩
  · exact .inr (by simpa using h1)
  · cases hv; exact .inl h1
theorem RowS.from {α : Type} {cs : α → List Value} {size : Nat} (hcs : ∀ x, (cs x).length = size) {w : World} {a : Option Addr} {c : Nat} {xs : List α} (h : RowS cs w (.slice a xs.length c) xs) (l : Nat) (hl : l ≤ xs.length) : RowS cs w (slcS size a c l xs.length) (xs.drop l) := by
  unfold RowS
  rw [List.length_drop]
  rcases Nat.eq_or_lt_of_le hl with rfl | hlt
  · refine .inl ⟨by omega, by simp, ?_⟩
    unfold slcS
    exact ⟨_, _, by rw [Nat.sub_self]⟩
  · rcases h with ⟨h1, _⟩ | ⟨b, o, c', hv, h1, h2, h3, h4⟩
    · omega
    · cases hv
      have hcl : ¬ c = l := by omega
      refine .inr ⟨b, o + l * size, c - l, ?_, by omega, by omega, h3, fun j u hu => ?_⟩
      · simp [slcS, hcl, Addr.add_lit]
      · rw [Nat.add_assoc]
        refine h4 (l * size + j) u ?_
        have e : xs.flatMap cs = (xs.take l).flatMap cs ++ (xs.drop l).flatMap cs := by rw [← List.flatMap_append, List.take_append_drop]
        have hlen : ((xs.take l).flatMap cs).length = l * size := by rw [flat_len hcs, List.length_take, Nat.min_eq_left hl]
        rw [e, List.getElem?_append_right (by rw [hlen]; omega), hlen, Nat.add_sub_cancel_left]
        exact hu
section
variable {P : Program} {T E : TypeId} {z : Option Value} {size bytes : Nat} (ht : P.underlying T = some (.slice E)) (hinf : (P.info? E).map (fun i => (i.zero, i.size, i.bytes)) = some (z, size, bytes))
include ht hinf
theorem slcS_run (a : Option Addr) (n c l : Nat) (k : IntKind) (hl : l ≤ n) (w : World) : (Instr.slice T (.slice a n c) (some (.int k l)) none none).run P w = .ok (slcS size a c l n) w := by
  have ht' : P.underlying T = some (.slice (P.elem T)) := by rw [elem_of ht]; exact ht
  have hrun := run_slice_l (P := P) w T a n c ht' k l (by omega) (by omega)
  have hs := sizeOf_of (P := P) (w := w) hinf
  rw [elem_of ht, hs] at hrun
  simp only [Result.andThen_ok] at hrun
  rw [Int.toNat_natCast] at hrun
  rw [hrun]
  unfold sliced slcS
  simp
theorem slcS_at (a : Option Addr) (n c l : Nat) (k : IntKind) (hl : l ≤ n) (w : World) : (Instr.sliceAt T (.slice a n c) (some (.int k l)) none none).run P w = .ok (slcS size a c l n) w := by
  rw [run_sliceAt_slice w _ _ _ _ _ (by rw [elem_of ht]; exact ht)]
  exact slcS_run ht hinf a n c l k hl w
end
end Go.Proofs.YtcjflglpkpkflaaDoor
