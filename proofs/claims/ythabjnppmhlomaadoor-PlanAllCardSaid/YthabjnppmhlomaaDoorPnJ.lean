/- The finder made: the edges by where they begin. -/
import Derived.Test.YthabjnppmhlomaaDoorPnI
namespace Go.Proofs.YthabjnppmhlomaaDoor
open Go Go.RowKit
set_option linter.unusedVariables false
/-- where the first k edges from a version on are -/
def fromK (L : List Eg) (k : Nat) (v : Int) : List Nat := (List.range k).filter fun i => match L[i]? with
  | some e => decide (e.src = v)
  | none => false
theorem fromK_all (L : List Eg) (v : Int) : fromK L L.length v = fromV L v := rfl
theorem fromK_succ {L : List Eg} {k : Nat} {e : Eg} (he : L[k]? = some e) (v : Int) : fromK L (k + 1) v = fromK L k v ++ if e.src = v then [k] else [] := by
  unfold fromK
  rw [List.range_succ, List.filter_append]
  congr 1
  by_cases h : e.src = v <;> simp [he, h]
theorem fromK_len (L : List Eg) (k : Nat) (v : Int) : (fromK L k v).length ≤ k := Nat.le_trans (List.length_filter_le _ _) (by simp)
def idxK (L : List Eg) (k : Nat) (v : Int) : List Int := (fromK L k v).map fun (i : Nat) => (i : Int)
theorem idxK_succ {L : List Eg} {k : Nat} {e : Eg} (he : L[k]? = some e) (v : Int) : idxK L (k + 1) v = idxK L k v ++ if e.src = v then [(k : Int)] else [] := by
  unfold idxK
  rw [fromK_succ he]
  split <;> simp
/-- the first k edges are taken in -/
structure Fr (F mf mb : Nat) (L : List Eg) (w wr : World) (lv : Value) (fr : Int → Option Value) (k : Nat) : Prop where
  cells : CellsAt wr F 63 #[lv, .map (some mf), .map (some mb), .slice none 0 0]
  frm : MapI Tryd.prog 3 wr mf k fr
  best : MapI Tryd.prog 3 wr mb 0 (fun _ => none)
  rows : ∀ v, OwnL 3 IV (F + 1) wr (frV fr v) (idxK L k v)
  apart : ∀ u v g, u ≠ v → (frV fr u).ownBlock = some g → (frV fr v).ownBlock ≠ some g
  lo : w.heap.size ≤ mf ∧ mf < F ∧ w.heap.size ≤ mb ∧ mb < F ∧ mf ≠ mb ∧ w.heap.size ≤ F
  below : Below w.heap.size w wr
def FrR (F mf mb : Nat) (L : List Eg) (w : World) (lv : Value) (k : Nat) (wr : World) : Prop := ∃ fr, Fr F mf mb L w wr lv fr k
theorem Fr.stays {F mf mb : Nat} {L : List Eg} {w wr w' : World} {lv : Value} {fr : Int → Option Value} {k : Nat} (h : Fr F mf mb L w wr lv fr k) (hb : Below wr.heap.size wr w') : Fr F mf mb L w w' lv fr k :=
  ⟨h.cells.stays hb, h.frm.stays hb, h.best.stays hb, fun v => (h.rows v).stays hb, h.apart, h.lo, h.below.trans (hb.mono h.below.size)⟩
/-- one more edge -/
theorem Fr.put {F mf mb : Nat} {L : List Eg} {w W w6 w7 : World} {lv v6 : Value} {fr : Int → Option Value} {k : Nat} {e : Eg} (h : Fr F mf mb L w W lv fr k) (he : L[k]? = some e) (ho : OwnL 3 IV (F + 1) w6 v6 (idxK L k e.src ++ [(k : Int)])) (hg : W.grownBy w6 (frV fr e.src).ownBlock) (hn : NewOrSame W (frV fr e.src) v6)
    (hm : MapI Tryd.prog 3 w7 mf (k + 1) (fun y => if y = e.src then some v6 else fr y)) (hg7 : w6.grownBy w7 (some mf)) : FrR F mf mb L w lv (k + 1) w7 := by
  have hlo := h.lo
  have hF := h.cells.lt
  have hrow : ∀ g, (frV fr e.src).ownBlock = some g → F < g := fun g hk => by have := ((h.rows e.src).lt g hk).1; omega
  have hfv : ∀ u, frV (fun y => if y = e.src then some v6 else fr y) u = if u = e.src then v6 else frV fr u := fun u => by
    unfold frV
    by_cases hu : u = e.src
    · simp [hu]
    · simp [hu]
  refine ⟨_, ⟨(h.cells.grown hg (fun hk => by have := hrow F hk; omega)).grown hg7 (fun hk => by cases hk; omega), hm, ?_, fun u => ?_, fun u v g huv hu => ?_, h.lo, ?_⟩⟩
  · exact (h.best.kept hg (fun hk => by have := hrow mb hk.symm; omega)).kept hg7 (fun hk => by cases hk; exact hlo.2.2.2.2.1 rfl)
  · rw [hfv, idxK_succ he]
    by_cases hu : u = e.src
    · subst hu
      rw [if_pos rfl, if_pos rfl]
      exact own_grown (show World.ownsRow _ _ _ _ _ _ _ from ho) hg7 (fun k hk hm => by cases hm; have := (ho.lt mf hk).1; omega)
    · rw [if_neg hu, if_neg (Ne.symm hu), List.append_nil]
      refine own_grown (show World.ownsRow _ _ _ _ _ _ _ from own_grown (show World.ownsRow _ _ _ _ _ _ _ from h.rows u) hg (fun k hk hm => ?_)) hg7 (fun k hk hm => by cases hm; have := ((h.rows u).lt mf hk).1; omega)
      exact h.apart u e.src k hu hk hm
  · rw [hfv] at hu
    rw [hfv]
    have hnew : ∀ x g, x ≠ e.src → v6.ownBlock = some g → (frV fr x).ownBlock ≠ some g := fun x g hx h6 hk => by
      rcases hn g h6 with h7 | h7
      · exact h.apart x e.src g hx hk h7
      · have := ((h.rows x).lt g hk).2; omega
    by_cases h1 : u = e.src
    · rw [if_pos h1] at hu
      rw [if_neg (fun h2 => huv (h1.trans h2.symm))]
      exact hnew v g (fun h2 => huv (h1.trans h2.symm)) hu
    · rw [if_neg h1] at hu
      by_cases h2 : v = e.src
      · rw [if_pos h2]
        exact fun h6 => hnew u g h1 h6 hu
      · rw [if_neg h2]
        exact h.apart u v g huv hu
  · exact (h.below.grown hg h.below.size (fun g hk => by have := hrow g hk; omega)).grown hg7 (by have := h.below.size; have := hg.size; omega) (fun g hk => by cases hk; omega)
end Go.Proofs.YthabjnppmhlomaaDoor
