/- Where a field stands; Get, With, Num, count. -/
import Derived.Test.YtcjflglpkpkflaaDoorVm
import Derived.Deep.RegionLaw
import Derived.Deep.DrawnRows
namespace Go.Proofs.YtcjflglpkpkflaaDoor
open Go Go.RowKit
set_option linter.unusedVariables false
section
variable {k : Int} {n : Nat} {t r : List UInt8} {fs : List (Int × V)} {ls : List V} {ps : List (V × V)} {fa la pa : Option Addr} {fc lc pc : Nat} {S : Nat → Prop} {w : World}
/-- what a search answers: a place, and whether it is there -/
def PlaceP {α : Type} (c : α → Int) (l : List α) (w : World) (e : Ending) (w' : World) : Prop := ∃ i : Nat, At c l i ∧ e = .returned (.tuple #[.int .i64 (i : Int), .bool (thereB c l i)]) ∧ Below w.heap.size w w'
theorem PlaceP.mk {α : Type} {c : α → Int} {l : List α} {w w' : World} {e : Ending} (i : Nat) (h : At c l i) (b : Bool) (hb : b = thereB c l i) (he : e = .returned (.tuple #[.int .i64 (i : Int), .bool b])) (h2 : Below w.heap.size w w') : PlaceP c l w e w' := ⟨i, h, by rw [he, hb], h2⟩
end
theorem below_set7 {B g : Nat} {w w1 : World} (h : Below B w w1) (hg : B ≤ g) (v0 v1 v2 v3 v4 v5 v6 : Value) : Below B w (((((((w1.setCell ⟨g, 0, none⟩ v0).setCell ⟨g, 1, none⟩ v1).setCell ⟨g, 2, none⟩ v2).setCell ⟨g, 3, none⟩ v3).setCell ⟨g, 4, none⟩ v4).setCell ⟨g, 5, none⟩ v5).setCell ⟨g, 6, none⟩ v6) :=
  (((((((h.setCell (by exact hg) _).setCell (by exact hg) _).setCell (by exact hg) _).setCell (by exact hg) _).setCell (by exact hg) _).setCell (by exact hg) _).setCell (by exact hg) _)
/-- what answers a value -/
def ValP (v : V) (w : World) (e : Ending) (w' : World) : Prop := ∃ a : A3, e = .returned (vG (v, a)) ∧ Rep (fun _ => True) w' v a ∧ Below w.heap.size w w'
theorem ValP.lit {k : Int} {n : Nat} {t r : List UInt8} {fs : List (Int × V)} {ls : List V} {ps : List (V × V)} {w w' : World} {e : Ending} (h : ValP (.mk k n t fs r ls ps) w e w') : ∃ (fa la pa : Option Addr) (fc lc pc : Nat), e = .returned (.agg #[.int .i64 k, .int .u64 (n : Int), .string (strB t), .slice fa fs.length fc, .string (strB r), .slice la ls.length lc, .slice pa ps.length pc]) ∧ Rep (fun _ => True) w' (.mk k n t fs r ls ps) ⟨fa, fc, la, lc, pa, pc⟩ ∧ Below w.heap.size w w' := by
  obtain ⟨⟨fa, fc, la, lc, pa, pc⟩, h1, h2, h3⟩ := h
  exact ⟨fa, la, pa, fc, lc, pc, by rw [h1, vG_lit], h2, h3⟩
theorem rep_none {S : Nat → Prop} {w : World} : Rep S w V.none A3.nil := Rep.leaf 0 0 [] [] ⟨by decide, by decide⟩ (by decide) _
section
variable {k : Int} {n : Nat} {t r : List UInt8} {fs : List (Int × V)} {ls : List V} {ps : List (V × V)} {fa la pa : Option Addr} {fc lc pc : Nat} {S : Nat → Prop} {w : World}
/-- which message comes of a field's value: the rows spliced -/
theorem with_rep {x : V} {w' : World} {key : Int} {i : Nat} {put : Bool} {ax : A3} {fl : List (Int × (V × A3))} {v' : Value} {B : Nat} {S2 : Nat → Prop} (hr : Rep S w (.mk k n t fs r ls ps) ⟨fa, fc, la, lc, pa, pc⟩) (hx : Rep S2 w x ax) (hb : Below w.heap.size w w') (hk : i64 key)
    (hfl : ∀ p ∈ fl, i64 p.1 ∧ Rep S w p.2.1 p.2.2) (m : Nat) (ho : OwnS 51 8 fC B w' v' (splice fl i m put (key, (x, ax)))) :
    ∃ (fa' : Option Addr) (fc' : Nat), v' = .slice fa' (splice (fl.map fE) i m put (key, x)).length fc' ∧ Rep (fun k => k < w.heap.size ∨ B ≤ k) w' (.mk k n t (splice (fl.map fE) i m put (key, x)) r ls ps) ⟨fa', fc', la, lc, pa, pc⟩ := by
  have hrow := ho.row
  have hlt := ho.lt
  obtain ⟨fa', fc', rfl, _, _⟩ := hrow.shape fC_len
  have hmap : (splice fl i m put (key, (x, ax))).map fE = splice (fl.map fE) i m put (key, x) := splice_map fE fl i m put _
  refine ⟨fa', fc', by rw [← hmap, List.length_map], ?_⟩
  rw [← hmap]
  refine hr.newFields hb (fun k hk => .inl hk) _ fa' fc' hrow (fun k hk => .inr (hlt k hk).1) (fun p hp => ?_)
  unfold splice at hp
  rcases List.mem_append.1 hp with hp | hp
  · rcases List.mem_append.1 hp with hp | hp
    · obtain ⟨h1, h2⟩ := hfl p (List.mem_of_mem_take hp)
      exact ⟨h1, (h2.lt.mono (fun k hk => .inl hk.2)).stays hb⟩
    · cases put with
      | true =>
        obtain rfl : p = (key, (x, ax)) := by simpa using hp
        exact ⟨hk, (hx.lt.mono (fun k hk => .inl hk.2)).stays hb⟩
      | false => simp at hp
  · obtain ⟨h1, h2⟩ := hfl p (List.mem_of_mem_drop hp)
    exact ⟨h1, (h2.lt.mono (fun k hk => .inl hk.2)).stays hb⟩
theorem grew_set7 {T : List Nat} {g : Nat} {a w1 : World} (h : Grew T a w1) (hg : g ∈ T) (v0 v1 v2 v3 v4 v5 v6 : Value) : Grew T a (((((((w1.setCell ⟨g, 0, none⟩ v0).setCell ⟨g, 1, none⟩ v1).setCell ⟨g, 2, none⟩ v2).setCell ⟨g, 3, none⟩ v3).setCell ⟨g, 4, none⟩ v4).setCell ⟨g, 5, none⟩ v5).setCell ⟨g, 6, none⟩ v6) :=
  (((((((h.setCell (.inl hg) _).setCell (.inl hg) _).setCell (.inl hg) _).setCell (.inl hg) _).setCell (.inl hg) _).setCell (.inl hg) _).setCell (.inl hg) _)
variable {k2 : Int} {n2 : Nat} {t2 r2 : List UInt8} {fs2 : List (Int × V)} {ls2 : List V} {ps2 : List (V × V)} {fa2 la2 pa2 : Option Addr} {fc2 lc2 pc2 : Nat} {S2 : Nat → Prop}
end
end Go.Proofs.YtcjflglpkpkflaaDoor
