/- Plain: what With and Get weigh; where a field stands; boxes of seven cells. -/
import Derived.Test.YtcjflglpkpkflaaGreatDoorVw
import Derived.Test.YtcjflglpkpkflaaGreatDoorWValueOrder
namespace Go.Proofs.YtcjflglpkpkflaaGreatDoor
open Go Go.RowKit
set_option linter.unusedVariables false
theorem wF_app : ∀ a b : List (Int × V), wF (a ++ b) = wF a + wF b
  | [], b => by rw [List.nil_append, wF, Nat.zero_add]
  | (n, v) :: a, b => by simp only [List.cons_append, wF, wF_app a b]; omega
theorem wF_putA {c : Int × V → Int} {num : Int} {x : V} : ∀ (l : List (Int × V)) (done : Bool), wF (putA c (num, x) l done) ≤ wF l + (if done then 0 else 1 + wV x)
  | [], true => by simp [putA, wF]
  | [], false => by simp [putA, wF]
  | (n, v) :: r, true => by
    have h1 := wF_putA (c := c) (num := num) (x := x) r true
    simp only [putA, Bool.not_true, Bool.false_and, Bool.true_or, wF_app, Bool.false_eq_true, if_false, if_true, wF] at h1 ⊢
    split <;> simp [wF] <;> omega
  | (n, v) :: r, false => by
    by_cases h0 : 0 ≤ c (n, v)
    · have h1 := wF_putA (c := c) (num := num) (x := x) r true
      have hd : decide (0 ≤ c (n, v)) = true := decide_eq_true h0
      simp only [putA, hd, Bool.not_false, Bool.true_and, Bool.false_or, wF_app, if_true, Bool.false_eq_true, if_false, wF] at h1 ⊢
      split <;> simp [wF] <;> omega
    · have h1 := wF_putA (c := c) (num := num) (x := x) r false
      have hd : decide (0 ≤ c (n, v)) = false := decide_eq_false h0
      simp only [putA, hd, Bool.not_false, Bool.and_false, Bool.false_or, wF_app, Bool.false_eq_true, if_false, wF] at h1 ⊢
      split <;> simp [wF] <;> omega
theorem w_with (v x : V) (num : Int) : wV (withV v num x) ≤ wV v + wV x + 2 := by
  unfold withV
  split
  · omega
  · have h := wF_putA (c := fieldC num) (num := num) (x := x) v.fs (x.k == 0)
    have h2 : (if (x.k == 0) = true then 0 else 1 + wV x) ≤ 1 + wV x := by split <;> omega
    have h3 := wV_eq v
    simp only [wV, wL, wP, List.length_nil]
    omega
theorem w_find {c : Int × V → Int} : ∀ l : List (Int × V), wV (findA c Prod.snd V.none l) ≤ wF l + 1
  | [] => by simp [findA, V.none, wV, wF, wL, wP]
  | (n, v) :: r => by
    have h := w_find (c := c) r
    simp only [findA, wF]
    split <;> omega
theorem w_get (v : V) (num : Int) : wV (getV v num) ≤ wV v + 1 := by
  unfold getV
  split
  · have h := w_find (c := fieldC num) v.fs
    have h3 := wV_eq v
    omega
  · simp only [V.none, wV, wF, wL, wP, List.length_nil]; omega
theorem at_exists {α : Type} {c : α → Int} : ∀ l : List α, Rises c l → ∃ i, At c l i
  | [], _ => ⟨0, ⟨Nat.le_refl _, fun j x hj => by omega, fun j x _ hx => by simp at hx⟩⟩
  | y :: r, h => by
    by_cases h0 : 0 ≤ c y
    · refine ⟨0, ⟨Nat.zero_le _, fun j x hj => by omega, fun j x _ hx => ?_⟩⟩
      cases j with
      | zero => cases hx; exact h0
      | succ j => have := h 0 (j + 1) y x (by omega) rfl hx h0; omega
    · obtain ⟨i, hi⟩ := at_exists r h.tail
      refine ⟨i + 1, ⟨by have := hi.le; simp; omega, fun j x hj hx => ?_, fun j x hj hx => ?_⟩⟩
      · cases j with
        | zero => cases hx; omega
        | succ j => exact hi.lo j x (by omega) hx
      · cases j with
        | zero => omega
        | succ j => exact hi.hi j x (by omega) hx
theorem right_zero {v : V} (h : rightV v = true) (hk : v.k = 0) : v = V.none := by
  rw [rightV_iff] at h
  obtain ⟨⟨_, h1, h2, h3, h4, h5⟩, _⟩ := h
  have h6 := h3 (by omega)
  have h7 : v.ls = [] := by
    by_cases e : v.ls = []
    · exact e
    · have := h4.2 e; omega
  have h8 : v.ps = [] := by
    by_cases e : v.ps = []
    · exact e
    · have := h5.2 e; omega
  rw [← V.eta v, hk, h1 (by omega), h2 (by omega), h6.1, h6.2, h7, h8]
  rfl
/-- what has been put is got -/
theorem got_put {v x : V} {num : Int} (hv : rightV v = true) (hx : rightV x = true) (h3 : v.k = 3) (h1 : 1 ≤ num) (h2 : num ≤ 536870911) : getV (withV v num x) num = x := by
  obtain ⟨i, hi⟩ := at_exists v.fs (fields_rise ((rightV_iff v).1 hv).2.1 num)
  rw [get_with hv h3 h1 h2 i hi]
  split
  · rename_i hk; exact (right_zero hx hk).symm
  · rfl
theorem great_w2 {v : V} (h : ¬ greatV v 100 30 < 0) : wV v ≤ 80400 := by have := greatV_w v 100 30 (by omega) (by omega); have := greatV_bd v 100 30 (by omega); omega
theorem Rep.setC {S : Nat → Prop} {w : World} {v : V} {a : A3} {b o : Nat} {u : Value} (h : Rep S w v a) (hb : ∀ k, S k → k ≠ b) : Rep S (w.setCell ⟨b, o, none⟩ u) v a := h.grew ((Grew.refl [b] w).setCell (.inl (by simp)) u) (fun k hk hm => hb k hk (by simpa using hm))
theorem Rep.allocC {S : Nat → Prop} {w : World} {v : V} {a : A3} {o : Obj} (h : Rep S w v a) : Rep S (w.alloc o) v a := h.stays ((Below.refl _ _).alloc (Nat.le_refl _) o)
theorem CellsAt.new' {w : World} {b : Nat} {cs : Array Value} {T : TypeId} (h : b = w.heap.size) : CellsAt (w.alloc (.cells cs T)) b T cs := by rw [h]; exact CellsAt.new w cs T
theorem CellsAt.allocC {w : World} {b : Nat} {cs : Array Value} {T : TypeId} {o : Obj} (h : CellsAt w b T cs) : CellsAt (w.alloc o) b T cs := h.stays ((Below.refl _ _).alloc (Nat.le_refl _) o)
theorem CellsAt.set7 {w : World} {g : Nat} {T : TypeId} {c0 c1 c2 c3 c4 c5 c6 v0 v1 v2 v3 v4 v5 v6 : Value} (h : CellsAt w g T #[c0, c1, c2, c3, c4, c5, c6]) :
    CellsAt (((((((w.setCell ⟨g, 0, none⟩ v0).setCell ⟨g, 1, none⟩ v1).setCell ⟨g, 2, none⟩ v2).setCell ⟨g, 3, none⟩ v3).setCell ⟨g, 4, none⟩ v4).setCell ⟨g, 5, none⟩ v5).setCell ⟨g, 6, none⟩ v6) g T #[v0, v1, v2, v3, v4, v5, v6] := by
  have h0 : CellsAt (w.setCell ⟨g, 0, none⟩ v0) g T #[v0, c1, c2, c3, c4, c5, c6] := by simpa using h.set 0 v0
  have h1 : CellsAt ((w.setCell ⟨g, 0, none⟩ v0).setCell ⟨g, 1, none⟩ v1) g T #[v0, v1, c2, c3, c4, c5, c6] := by simpa using h0.set 1 v1
  have h2 : CellsAt (((w.setCell ⟨g, 0, none⟩ v0).setCell ⟨g, 1, none⟩ v1).setCell ⟨g, 2, none⟩ v2) g T #[v0, v1, v2, c3, c4, c5, c6] := by simpa using h1.set 2 v2
  have h3 : CellsAt ((((w.setCell ⟨g, 0, none⟩ v0).setCell ⟨g, 1, none⟩ v1).setCell ⟨g, 2, none⟩ v2).setCell ⟨g, 3, none⟩ v3) g T #[v0, v1, v2, v3, c4, c5, c6] := by simpa using h2.set 3 v3
  have h4 : CellsAt (((((w.setCell ⟨g, 0, none⟩ v0).setCell ⟨g, 1, none⟩ v1).setCell ⟨g, 2, none⟩ v2).setCell ⟨g, 3, none⟩ v3).setCell ⟨g, 4, none⟩ v4) g T #[v0, v1, v2, v3, v4, c5, c6] := by simpa using h3.set 4 v4
  have h5 : CellsAt ((((((w.setCell ⟨g, 0, none⟩ v0).setCell ⟨g, 1, none⟩ v1).setCell ⟨g, 2, none⟩ v2).setCell ⟨g, 3, none⟩ v3).setCell ⟨g, 4, none⟩ v4).setCell ⟨g, 5, none⟩ v5) g T #[v0, v1, v2, v3, v4, v5, c6] := by simpa using h4.set 5 v5
  simpa using h5.set 6 v6
theorem CellsAt.other7 {w : World} {g g' : Nat} {T : TypeId} {cs : Array Value} {v0 v1 v2 v3 v4 v5 v6 : Value} (h : CellsAt w g T cs) (hne : g ≠ g') :
    CellsAt (((((((w.setCell ⟨g', 0, none⟩ v0).setCell ⟨g', 1, none⟩ v1).setCell ⟨g', 2, none⟩ v2).setCell ⟨g', 3, none⟩ v3).setCell ⟨g', 4, none⟩ v4).setCell ⟨g', 5, none⟩ v5).setCell ⟨g', 6, none⟩ v6) g T cs :=
  ((((((h.other ⟨g', 0, none⟩ hne v0).other ⟨g', 1, none⟩ hne v1).other ⟨g', 2, none⟩ hne v2).other ⟨g', 3, none⟩ hne v3).other ⟨g', 4, none⟩ hne v4).other ⟨g', 5, none⟩ hne v5).other ⟨g', 6, none⟩ hne v6
theorem Rep.setC7 {S : Nat → Prop} {w : World} {v : V} {a : A3} {b : Nat} {v0 v1 v2 v3 v4 v5 v6 : Value} (h : Rep S w v a) (hb : ∀ k, S k → k ≠ b) :
    Rep S (((((((w.setCell ⟨b, 0, none⟩ v0).setCell ⟨b, 1, none⟩ v1).setCell ⟨b, 2, none⟩ v2).setCell ⟨b, 3, none⟩ v3).setCell ⟨b, 4, none⟩ v4).setCell ⟨b, 5, none⟩ v5).setCell ⟨b, 6, none⟩ v6) v a := h.grew (grew_set7 (Grew.refl [b] w) (by simp) _ _ _ _ _ _ _) (fun k hk hm => hb k hk (by simpa using hm))
theorem below_call {w W w5 : World} (hb5 : Below W.heap.size W w5) (h : Below w.heap.size w W) : Below w.heap.size w w5 := h.trans (hb5.mono h.size)
end Go.Proofs.YtcjflglpkpkflaaGreatDoor
