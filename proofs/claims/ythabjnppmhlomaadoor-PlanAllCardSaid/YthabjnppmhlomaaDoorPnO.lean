/- The law's alive of layer 35; edges that came in, opened. -/
import Derived.Test.YthabjnppmhlomaaDoorPnN
import Derived.Test.YthabjnppmhlomaaDoorSameZ
import Derived.Test.YthabjnppmhlomaaDoorOpenS
namespace Go.Proofs.YthabjnppmhlomaaDoor
open Go Go.RowKit
set_option linter.unusedVariables false
theorem RowL.new {α : Type} {f : α → Value} (w : World) (cs : Array Value) (E : TypeId) (xs : List α) (n : Nat) (h : cs.toList = xs.map f) (hn : n = xs.length) (hm : n ≤ maxLen) : RowL f (w.alloc (.cells cs E)) (.slice (some ⟨w.heap.size, 0, none⟩) n n) xs := by
  subst hn
  refine .inr ⟨w.heap.size, 0, _, rfl, Nat.le_refl _, hm, by simp, fun j u hu => ?_⟩
  rw [Nat.zero_add, (CellsAt.new w cs E).cell j (v := u) ?_]
  rw [← h] at hu
  simpa using hu
def eG (e : Eg) : Prop := i64 e.src ∧ i64 e.dst ∧ i64 e.cost
theorem cells3 {α : Type} : ∀ {cs : List α}, cs.length = 3 → ∃ a b c, cs = [a, b, c]
  | [a, b, c], _ => ⟨a, b, c, rfl⟩
theorem e_dec {H : Type} {enc : TypeId × Value → H} {w : World} {base : Nat} {spare : Nat → Bool} {held : Bool} (n : Nat) (cs' : List Value) (y : DataW H × List MemPlace)
    (h : DataW.trod enc Tryd.prog w base spare held n 52 cs' = some y) : ∃ x, cs' = eC x ∧ eG x := by
  obtain ⟨hl, n', hf⟩ := decF Tryd.underlying52 (by kernel_rfl) (by kernel_rfl) h
  obtain ⟨c0, c1, c2, rfl⟩ := cells3 hl
  obtain ⟨v0, y0, e0, g0⟩ := hf 0 _ rfl
  obtain ⟨v1, y1, e1, g1⟩ := hf 1 _ rfl
  obtain ⟨v2, y2, e2, g2⟩ := hf 2 _ rfl
  cases e0; cases e1; cases e2
  obtain ⟨z0, q0, _, w0⟩ := DataW.trod_int Tryd.underlying3 g0
  obtain ⟨z1, q1, _, w1⟩ := DataW.trod_int Tryd.underlying3 g1
  obtain ⟨z2, q2, _, w2⟩ := DataW.trod_int Tryd.underlying3 g2
  cases q0; cases q1; cases q2
  exact ⟨⟨z0, z1, z2⟩, rfl, bounds_i64 w0, bounds_i64 w1, bounds_i64 w2⟩
def aL : List Eg := [⟨-1, 0, 5⟩, ⟨0, 1, 3⟩, ⟨-1, 1, 7⟩]
theorem aL_right : rightL aL = true := by decide
def aC (v : Int) : Option Tr := if v = 0 then some ⟨0, 5, [0]⟩ else if v = 1 then some ⟨1, 7, [2]⟩ else none
theorem aL_least : Least aL aC := by
  refine least_of ((rightL_iff aL).1 aL_right) (fun v t h => ?_) (fun v t h i e he hs => ?_)
  · unfold aC at h
    split at h
    · rename_i hv; cases h
      exact ⟨.ext trip0 0 ⟨-1, 0, 5⟩ .start rfl rfl, hv.symm, by simp⟩
    · split at h
      · rename_i hv; cases h
        exact ⟨.ext trip0 2 ⟨-1, 1, 7⟩ .start rfl rfl, hv.symm, by simp⟩
      · cases h
  · have hi : i = 0 ∨ i = 1 ∨ i = 2 := by have := (List.getElem?_eq_some_iff.1 he).1; simp [aL] at this; omega
    unfold bst aC at h
    split at h
    · cases h
      rcases hi with rfl | rfl | rfl <;> (simp only [aL, List.getElem?_cons_zero, List.getElem?_cons_succ, Option.some.injEq] at he; subst he)
      · exact ⟨_, rfl, by decide⟩
      · exact absurd hs (by decide)
      · exact ⟨_, rfl, by decide⟩
    · split at h
      · cases h
        rcases hi with rfl | rfl | rfl <;> (simp only [aL, List.getElem?_cons_zero, List.getElem?_cons_succ, Option.some.injEq] at he; subst he)
        · exact absurd hs (by decide)
        · exact ⟨_, rfl, by decide⟩
        · exact absurd hs (by decide)
      · split at h
        · cases h
          rcases hi with rfl | rfl | rfl <;> (simp only [aL, List.getElem?_cons_zero, List.getElem?_cons_succ, Option.some.injEq] at he; subst he)
          · exact absurd hs (by decide)
          · exact absurd hs (by decide)
          · exact absurd hs (by decide)
        · cases h
theorem aL_row (w : World) (T : TypeId) : RowS eC (w.alloc (.cells #[.int .i64 (-1), .int .i64 0, .int .i64 5, .int .i64 0, .int .i64 1, .int .i64 3, .int .i64 (-1), .int .i64 1, .int .i64 7] T)) (.slice (some ⟨w.heap.size, 0, none⟩) 3 3) aL :=
  Row.ofOwn (base := w.heap.size) (e := T) (size := 3) (show World.ownsRow _ _ _ _ _ _ _ from ⟨rfl, .inr ⟨w.heap.size, 3, _, rfl, Nat.le_refl _, heap_alloc_new w _, Nat.le_refl _, by decide, rfl, rfl⟩⟩)
set_option maxRecDepth 100000 in
theorem alive35 (w : World) (ea : Nat → Addr) (he14 : ErrAt w 1 (ea 14)) : Calls Tryd.prog 6 #[] w fun e w' => e = .returned (.bool true) ∧ Below w.heap.size w w' := by
  obtain ⟨W1, hW1⟩ : ∃ W1, W1 = w.alloc (.cells #[.int .i64 (-1), .int .i64 0, .int .i64 5, .int .i64 0, .int .i64 1, .int .i64 3, .int .i64 (-1), .int .i64 1, .int .i64 7] 52) := ⟨_, rfl⟩
  have hb1 : Below w.heap.size w W1 := by rw [hW1]; exact (Below.refl _ _).alloc (Nat.le_refl _) _
  have hrow : RowS eC W1 (.slice (some ⟨w.heap.size, 0, none⟩) 3 3) aL := by rw [hW1]; exact aL_row w _
  have HWY : Hid (Calls Tryd.prog 8 #[.slice (some ⟨w.heap.size, 0, none⟩) 3 3, .int .i64 1] W1 (WayP aL 1 ea W1)) := way_ok (la := some ⟨w.heap.size, 0, none⟩) (lc := 3) aL_right (by decide) hrow 1 ⟨by decide, by decide⟩ ea (he14.stays hb1)
  have HB1 := Lib.hid hb1
  have HW1 := Lib.hid hW1
  clear hb1 hrow hW1 he14
  go_enter Tryd.func6, Tryd.ntmps6
  go_wp2_with fail
  rw [← HW1.out]
  refine HWY.out.mono ?_
  rintro e w2 ⟨B, v, xs, s, k, rfl, hle, hrv, hb2, hcase⟩
  have hB := hle.unique aL_least 1
  have hB1 : aC 1 = some ⟨1, 7, [2]⟩ := rfl
  rw [hB1] at hB
  rcases hcase with ⟨t, ht, rfl, rfl, rfl⟩ | ⟨ht, -⟩
  · rw [hB] at ht
    cases ht
    rw [EV_zero]
    simp only at hrv
    obtain ⟨av, cv, rfl, -, -⟩ := hrv.gen.shape
    have hb3 : Below w2.heap.size w2 (w2.alloc (.cells #[.int .i64 2] 3)) := (Below.refl _ _).alloc (Nat.le_refl _) _
    have HS := Lib.hid (sameZ_any _ _ _ _ (w2.alloc (.cells #[.int .i64 2] 3)) (Row.stays hrv hb3) (RowL.new (f := IV) w2 #[.int .i64 2] 3 [2] 1 rfl rfl (by decide)) (by decide) (by decide))
    rw [show eqB [2] [2] = true from rfl] at HS
    have HB2 : Hid (Below w.heap.size w (w2.alloc (.cells #[.int .i64 2] 3))) := HB1.out.trans ((hb2.trans (hb3.mono hb2.size)).mono HB1.out.size)
    clear hle hrv hb2 hB hB1 hb3 HWY
    go_wp2_with fail
    refine HS.out.mono ?_
    rintro e w3 ⟨rfl, hb4⟩
    have HB3 : Hid (Below w.heap.size w w3) := HB2.out.trans (hb4.mono HB2.out.size)
    clear hb4 HS
    go_wp2_with fail
    go_ret
    exact ⟨rfl, HB3.out⟩
  · rw [hB] at ht; cases ht
end Go.Proofs.YthabjnppmhlomaaDoor
