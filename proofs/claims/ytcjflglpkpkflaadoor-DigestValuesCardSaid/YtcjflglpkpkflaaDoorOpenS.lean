/- Arguments that are slices of structs, opened as rows; whatever the elements' cells are. -/
import Derived.Test.YtcjflglpkpkflaaDoorSrows
import Derived.Deep.Slices
import Derived.Deep.Fields
import Derived.ChangeSame
import Derived.SizedLaws
namespace Go.Proofs.YtcjflglpkpkflaaDoor
open Go Go.RowKit Go.ChangeShapes Go.WideShapes Go.Deep
set_option linter.unusedVariables false
theorem exists_list {α : Type} {p : Nat → α → Prop} : ∀ n : Nat, (∀ i, i < n → ∃ x, p i x) → ∃ xs : List α, xs.length = n ∧ ∀ i x, xs[i]? = some x → p i x
  | 0, _ => ⟨[], rfl, fun i x h => by simp at h⟩
  | n + 1, h => by
    obtain ⟨xs, h1, h2⟩ := exists_list n (fun i hi => h i (by omega))
    obtain ⟨y, hy⟩ := h n (by omega)
    refine ⟨xs ++ [y], by simp [h1], fun i x hx => ?_⟩
    rw [List.getElem?_append] at hx
    split at hx
    · exact h2 i x hx
    · have hi : i - xs.length = 0 := by
        rcases Nat.eq_zero_or_pos (i - xs.length) with h0 | h0
        · exact h0
        · rw [List.getElem?_eq_none (by simp; omega)] at hx; cases hx
      rw [hi] at hx
      obtain rfl : y = x := by simpa using hx
      obtain rfl : i = n := by omega
      exact hy
section
variable {H : Type} {enc : TypeId × Value → H} {P : Program} {w : World} {base : Nat} {spare : Nat → Bool} {held : Bool}
theorem open_sliceS {α : Type} {cs : α → List Value} {size : Nat} {good : α → Prop} {t e : TypeId} {a0 : Option Addr} {l0 c0 : Nat} {d : DataW H} {p : List MemPlace}
    (ht : P.underlying t = some (.slice e)) (hC : P.cellsOf e = size) (hs : 0 < size) (hcs : ∀ x, (cs x).length = size)
    (hdec : ∀ (n : Nat) (cs' : List Value) (y : DataW H × List MemPlace), DataW.trod enc P w base spare held n e cs' = some y → ∃ x, cs' = cs x ∧ good x)
    (h : DataW.Trod enc P w base spare held t (.slice a0 l0 c0) d p) : ∃ xs : List α, xs.length = l0 ∧ RowS cs w (.slice a0 l0 c0) xs ∧ ∀ x ∈ xs, good x := by
  obtain ⟨fuel, hf⟩ := h
  rcases open_slice ht hf with ⟨h1, _⟩ | ⟨a, len, cap, m, n, D, Pl, h1, hb, hl, hm, hmm, hx, hi⟩
  · simp [Value.cells] at h1
    obtain ⟨rfl, rfl, rfl⟩ := h1
    exact ⟨[], rfl, RowS.nil w, fun x hx => by cases hx⟩
  · simp [Value.cells] at h1
    obtain ⟨rfl, rfl, rfl⟩ := h1
    have hlm : l0 ≤ m := by rw [hmm]; split <;> omega
    obtain ⟨xs, hxl, hxs⟩ := exists_list (p := fun i x => (∀ j u, (cs x)[j]? = some u → w.cell? ((a.add (i * size)).add j) = some u) ∧ good x) l0 (fun i hil => by
      obtain ⟨cs', hc, ht'⟩ := hi i (by omega)
      obtain ⟨x, rfl, hg⟩ := hdec n cs' _ ht'
      refine ⟨x, fun j u hu => ?_, hg⟩
      rw [hC] at hc
      obtain ⟨_, hcl, hat⟩ := World.cells?_some hc
      have hj : j < size := by rw [← hcs x]; exact (List.getElem?_eq_some_iff.1 hu).1
      exact (hat j hj).trans hu)
    have hgood : ∀ x ∈ xs, good x := fun x hx => by
      obtain ⟨i, hi'⟩ := List.mem_iff_getElem?.1 hx
      exact (hxs i x hi').2
    refine ⟨xs, hxl, ?_, hgood⟩
    rcases Nat.eq_zero_or_pos l0 with h0 | hp
    · refine .inl ⟨by omega, ?_, some a, c0, by rw [h0]⟩
      rw [List.length_eq_zero_iff.1 (hxl.trans h0)]; rfl
    · obtain ⟨b, o, spot⟩ := a
      obtain ⟨x, hx0⟩ : ∃ x, xs[0]? = some x := ⟨_, List.getElem?_eq_getElem (by omega)⟩
      have hc0 := (hxs 0 x hx0).1 0 _ (List.getElem?_eq_getElem (by rw [hcs]; exact hs))
      have hspot : spot = none := by simpa [Addr.add] using World.cell?_spot hc0
      subst hspot
      have hlt : b < w.heap.size := by simpa [Addr.add] using World.block_lt_of_cell? w _ hc0
      refine .inr ⟨b, o, c0, by rw [hxl], by omega, hm, hlt, fun j u hu => ?_⟩
      have hjl : j < xs.length * size := by rw [← flat_len hcs xs]; exact (List.getElem?_eq_some_iff.1 hu).1
      have hjd : j / size < xs.length := Nat.div_lt_of_lt_mul (by rw [Nat.mul_comm]; exact hjl)
      obtain ⟨x, hx⟩ : ∃ x, xs[j / size]? = some x := ⟨_, List.getElem?_eq_getElem hjd⟩
      have hmod : j % size < size := Nat.mod_lt _ hs
      have hdj : j / size * size + j % size = j := by rw [Nat.mul_comm]; exact Nat.div_add_mod j size
      have hfl := flat_get hcs xs (j / size) (j % size) x hx hmod
      rw [hdj] at hfl
      have h2 := (hxs (j / size) x hx).1 (j % size) u (hfl.symm.trans hu)
      have e1 : ((⟨b, o, none⟩ : Addr).add (j / size * size)).add (j % size) = ⟨b, o + j, none⟩ := by
        have e2 : ∀ (o k : Nat), (⟨b, o, none⟩ : Addr).add k = ⟨b, o + k, none⟩ := fun o k => by unfold Addr.add; split <;> simp_all
        rw [e2, e2, Nat.add_assoc, hdj]
      rw [e1] at h2
      exact h2
/-- no slice that is read takes more bytes than the form's reach -/
theorem reach_sliceS {t e : TypeId} {a0 : Option Addr} {l0 c0 : Nat} {d : DataW H} {p : List MemPlace} {ts : List TypeId} {ds : List (DataW H)} {j : Nat}
    (ht : P.underlying t = some (.slice e)) (h : DataW.Trod enc P w base spare held t (.slice a0 l0 c0) d p) (hR : (DataW.weightsEach P ts ds).all (· ≤ reachBytes) = true) (htj : ts[j]? = some t) (hdj : ds[j]? = some d) : l0 * P.bytesOf e ≤ reachBytes := by
  obtain ⟨fuel, hf⟩ := h
  rcases open_slice ht hf with ⟨h1, _⟩ | ⟨a, len, cap, m, n, D, Pl, h1, hb, hl, hm, hmm, hx, hi⟩
  · simp [Value.cells] at h1
    obtain ⟨rfl, rfl, rfl⟩ := h1
    simp
  · simp [Value.cells] at h1
    obtain ⟨rfl, rfl, rfl⟩ := h1
    have hd := (Prod.mk.inj hx).1
    subst hd
    have hs := sized_slice hR htj hdj ht
    rw [List.length_map, List.length_range, List.length_map, List.length_range] at hs
    exact Nat.le_trans (Nat.mul_le_mul_right _ (by omega)) hs
/-- a struct of two one-celled fields -/
theorem dec2 {e : TypeId} {f0 f1 : Field} {n : Nat} {cs' : List Value} {y : DataW H × List MemPlace} (he : P.underlying e = some (.struct #[f0, f1])) (hone : oneCellFields P #[f0, f1] = true) (hC : P.cellsOf e = 2)
    (h : DataW.trod enc P w base spare held n e cs' = some y) : ∃ (v0 v1 : Value) (y0 y1 : DataW H × List MemPlace) (n' : Nat), cs' = [v0, v1] ∧ DataW.trod enc P w base spare held n' f0.type [v0] = some y0 ∧ DataW.trod enc P w base spare held n' f1.type [v1] = some y1 := by
  obtain ⟨ys, n', hn', hy, hlen, hyl, hf⟩ := DataW.trod_struct he h
  obtain ⟨o0, k0⟩ := hone_of hone 0 f0 rfl
  obtain ⟨o1, k1⟩ := hone_of hone 1 f1 rfl
  match cs', hlen.trans hC, ys, hyl with
  | [c0, c1], _, [y0, y1], _ => exact ⟨c0, c1, y0, y1, n', rfl, by simpa [o0, k0] using hf 0 f0 rfl, by simpa [o1, k1] using hf 1 f1 rfl⟩
/-- a struct of one-celled fields, whatever their number -/
theorem decF {e : TypeId} {fs : Array Field} {n : Nat} {cs' : List Value} {y : DataW H × List MemPlace} (he : P.underlying e = some (.struct fs)) (hone : oneCellFields P fs = true) (hC : P.cellsOf e = fs.size)
    (h : DataW.trod enc P w base spare held n e cs' = some y) : cs'.length = fs.size ∧ ∃ n', ∀ (j : Nat) (f : Field), fs[j]? = some f → ∃ v y, cs'[j]? = some v ∧ DataW.trod enc P w base spare held n' f.type [v] = some y := by
  obtain ⟨ys, n', hn', hy, hlen, hyl, hf⟩ := DataW.trod_struct he h
  refine ⟨hlen.trans hC, n', fun j f hj => ?_⟩
  obtain ⟨ho, hk⟩ := hone_of hone j f hj
  have hjl : j < fs.size := (Array.getElem?_eq_some_iff.1 hj).1
  have h1 := hf j f hj
  rw [ho, hk] at h1
  have hone' : (cs'.drop j).take 1 = [cs'[j]'(by omega)] := by
    rw [List.drop_eq_getElem_cons (by omega)]; rfl
  rw [hone', List.getElem?_eq_getElem (by omega)] at h1
  exact ⟨_, _, List.getElem?_eq_getElem (by omega), h1⟩
/-- bytes -/
theorem dec_bytes {n : Nat} {v : Value} {y : DataW H × List MemPlace} (h : DataW.trod enc Tryd.prog w base (fun _ => true) held n 71 [v] = some y) : ∃ bs, RowB w v bs := by
  rcases open_ints Tryd.underlying71 Tryd.underlying5 (by kernel_rfl) h with ⟨hcs, _⟩ | ⟨x, l, c, zs, hcs, _, hl, hm, hz, _, hcell, hwz⟩
  · simp at hcs
    subst hcs
    exact ⟨[], RowB.nil w⟩
  · simp at hcs
    subst hcs
    simp at hz
    obtain ⟨bs, _, hb⟩ := rowB_of_ints (row_of_ints hl hm hz hcell) (by omega) hwz
    exact ⟨bs, hb⟩
end
end Go.Proofs.YtcjflglpkpkflaaDoor
