/- The law's alive of layer 27. -/
import Derived.Test.YtidfjemblidjkaaThM
import Derived.Test.YtidfjemblidjkaaSameZ
import Derived.Test.YtidfjemblidjkaaAlive19
namespace Go.Proofs.Ytidfjemblidjkaa
open Go Go.RowKit
set_option linter.unusedVariables false
theorem alive_rows : rowsC [1, 2, 3] [1, 3] [1, 2, 3, 4] = [⟨1, 0, 1, 0, 1, 0, 1⟩, ⟨2, 1, 2, 1, 1, 1, 2⟩, ⟨1, 2, 3, 1, 2, 2, 3⟩, ⟨3, 3, 3, 2, 2, 3, 4⟩] := alive_chunks
set_option maxRecDepth 100000 in
set_option maxHeartbeats 4000000 in
theorem alive27 (w : World) : Calls Try.prog 24 #[] w fun e w' => e = .returned (.bool true) ∧ Below w.heap.size w w' := by
  have hb0 : Below w.heap.size w (((w.alloc (.cells #[.int .i64 1, .int .i64 2, .int .i64 3] 3)).alloc (.cells #[.int .i64 1, .int .i64 3] 3)).alloc (.cells #[.int .i64 1, .int .i64 2, .int .i64 3, .int .i64 4] 3)) := (((Below.refl _ _).alloc (Nat.le_refl _) _).alloc (by simp) _).alloc (by simp; omega) _
  have ra : RowZ (((w.alloc (.cells #[.int .i64 1, .int .i64 2, .int .i64 3] 3)).alloc (.cells #[.int .i64 1, .int .i64 3] 3)).alloc (.cells #[.int .i64 1, .int .i64 2, .int .i64 3, .int .i64 4] 3)) (.slice (some ⟨w.heap.size, 0, none⟩) 3 3) [1, 2, 3] := ((RowL.new (f := IV) w _ _ [1, 2, 3] 3 rfl rfl (by decide)).alloc _).alloc _
  have rb : RowZ (((w.alloc (.cells #[.int .i64 1, .int .i64 2, .int .i64 3] 3)).alloc (.cells #[.int .i64 1, .int .i64 3] 3)).alloc (.cells #[.int .i64 1, .int .i64 2, .int .i64 3, .int .i64 4] 3)) (.slice (some ⟨w.heap.size + 1, 0, none⟩) 2 2) [1, 3] := by
    have := (RowL.new (f := IV) (w.alloc (.cells #[.int .i64 1, .int .i64 2, .int .i64 3] 3)) #[.int .i64 1, .int .i64 3] 3 [1, 3] 2 rfl rfl (by decide)).alloc (.cells #[.int .i64 1, .int .i64 2, .int .i64 3, .int .i64 4] 3)
    rwa [World.size_alloc] at this
  have rc : RowZ (((w.alloc (.cells #[.int .i64 1, .int .i64 2, .int .i64 3] 3)).alloc (.cells #[.int .i64 1, .int .i64 3] 3)).alloc (.cells #[.int .i64 1, .int .i64 2, .int .i64 3, .int .i64 4] 3)) (.slice (some ⟨w.heap.size + 1 + 1, 0, none⟩) 4 4) [1, 2, 3, 4] := by
    have := RowL.new (f := IV) ((w.alloc (.cells #[.int .i64 1, .int .i64 2, .int .i64 3] 3)).alloc (.cells #[.int .i64 1, .int .i64 3] 3)) #[.int .i64 1, .int .i64 2, .int .i64 3, .int .i64 4] 3 [1, 2, 3, 4] 4 rfl rfl (by decide)
    rwa [World.size_alloc, World.size_alloc] at this
  have hm := merge_any _ _ _ _ _ _ _ ra rb rc (by decide) (by decide) (by decide)
  rw [alive_rows] at hm
  have HM := Lib.hid hm
  have HB0 := Lib.hid hb0
  clear ra rb rc hm hb0
  go_enter Try.func24, Try.ntmps24
  go_wp2_with fail
  refine HM.out.mono ?_
  intro e w1 hmp
  obtain ⟨v', rfl, how, hb1⟩ := hmp.clear rfl
  rw [alive_merge] at how
  have hb1 := HB0.out.trans (hb1.mono HB0.out.size)
  obtain ⟨a1, c1, rfl, -, -⟩ := how.row.shape
  have HOW := Lib.hid how.row
  have hb2 : Below w1.heap.size w1 (w1.alloc (.cells #[.int .i64 1, .int .i64 3, .int .i64 4] 3)) := (Below.refl _ _).alloc (Nat.le_refl _) _
  have HS := Lib.hid (sameZ_any _ _ _ _ (w1.alloc (.cells #[.int .i64 1, .int .i64 3, .int .i64 4] 3)) (HOW.out.stays hb2) (RowL.new (f := IV) w1 #[.int .i64 1, .int .i64 3, .int .i64 4] 3 [1, 3, 4] 3 rfl rfl (by decide)) (by decide) (by decide))
  rw [show eqB [1, 3, 4] [1, 3, 4] = true from rfl] at HS
  have hb3 := hb1.trans (hb2.mono hb1.size)
  clear how hb1 hb2
  go_wp2_with fail
  refine HS.out.mono ?_
  rintro e w2 ⟨rfl, hb4⟩
  go_wp2_with fail
  go_ret
  exact ⟨rfl, hb3.trans (hb4.mono hb3.size)⟩
end Go.Proofs.Ytidfjemblidjkaa
