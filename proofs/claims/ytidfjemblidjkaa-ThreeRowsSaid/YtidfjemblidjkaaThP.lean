/- Plain: the document's marks, one after the other. -/
import Derived.Test.YtidfjemblidjkaaThH
import Derived.Test.YtidfjemblidjkaaThJ
namespace Go.Proofs.Ytidfjemblidjkaa
set_option linter.unusedVariables false
theorem marks_cons : ∀ (f g : List Int) (k i p q : Nat) (rest : List Mk), marksL f g k = (i, p, q) :: rest → ∃ j, i = k + j ∧ f[j]? = some (p : Int) ∧ g[j]? = some (q : Int) ∧ rest = marksL (f.drop (j + 1)) (g.drop (j + 1)) (i + 1)
  | [], g, k, i, p, q, rest, h => by simp [marksL] at h
  | u :: f, [], k, i, p, q, rest, h => by simp [marksL] at h
  | u :: f, v :: g, k, i, p, q, rest, h => by
    rw [marksL] at h
    split at h
    · rename_i h0
      cases h
      exact ⟨0, by simp, by simp; omega, by simp; omega, by simp⟩
    · obtain ⟨j, h1, h2, h3, h4⟩ := marks_cons f g (k + 1) i p q rest h
      exact ⟨j + 1, by omega, by simpa using h2, by simpa using h3, by rw [List.drop_succ_cons, List.drop_succ_cons]; exact h4⟩
section
variable {o a b f g : List Int} (hf : Fel o a f) (hg : Fel o b g) {x y z : Nat} (h : At o a b f g x y z)
include hf hg h
/-- the next mark -/
theorem mark_at {i p q : Nat} {rest : List Mk} (hm : marksL (f.drop x) (g.drop x) x = (i, p, q) :: rest) :
    x ≤ i ∧ y ≤ p ∧ z ≤ q ∧ i < o.length ∧ p < a.length ∧ q < b.length ∧ rest = marksL (f.drop (i + 1)) (g.drop (i + 1)) (i + 1) ∧ At o a b f g (i + 1) (p + 1) (q + 1) := by
  obtain ⟨j, h1, h2, h3, h4⟩ := marks_cons _ _ _ _ _ _ _ hm
  rw [List.getElem?_drop] at h2 h3
  rw [List.drop_drop, List.drop_drop] at h4
  rw [← h1] at h2 h3
  rw [show x + (j + 1) = i + 1 from by omega] at h4
  have r1 := hf.rng _ _ h2
  have r2 := hg.rng _ _ h3
  have hl := (List.getElem?_eq_some_iff.1 h2).1
  have hfl := hf.len
  refine ⟨by omega, h.fy _ _ (by omega) h2, h.gz _ _ (by omega) h3, by omega, r1.1, r2.1, h4, ⟨by omega, by omega, by omega, fun k v hk hv => ?_, fun k v hk hv => ?_⟩⟩
  · have := hf.inc i k _ v (by omega) h2 hv; omega
  · have := hg.inc i k _ v (by omega) h3 hv; omega
end
theorem marks_len : ∀ (f g : List Int) (k : Nat), (marksL f g k).length ≤ f.length
  | [], g, k => by simp [marksL]
  | u :: f, [], k => by simp [marksL]
  | u :: f, v :: g, k => by
    rw [marksL]
    have := marks_len f g (k + 1)
    split <;> simp <;> omega
/-- one more number is looked at -/
theorem marks_next {f g : List Int} {i : Nat} {p q : Int} (hp : f[i]? = some p) (hq : g[i]? = some q) (out : List Mk) :
    out ++ marksL (f.drop i) (g.drop i) i = (if 0 ≤ p ∧ 0 ≤ q then out ++ [(i, p.toNat, q.toNat)] else out) ++ marksL (f.drop (i + 1)) (g.drop (i + 1)) (i + 1) := by
  have h1 := (List.getElem?_eq_some_iff.1 hp)
  have h2 := (List.getElem?_eq_some_iff.1 hq)
  obtain ⟨h1, e1⟩ := h1
  obtain ⟨h2, e2⟩ := h2
  rw [List.drop_eq_getElem_cons h1, List.drop_eq_getElem_cons h2, e1, e2, marksL]
  split <;> simp
end Go.Proofs.Ytidfjemblidjkaa
