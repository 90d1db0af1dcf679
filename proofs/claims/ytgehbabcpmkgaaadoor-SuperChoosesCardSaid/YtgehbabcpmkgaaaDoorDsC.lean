/- Of no disk: Choose and Write. -/
import Derived.Test.YtgehbabcpmkgaaaDoorDkV
import Derived.Deep.CutBlock
import Derived.Deep.DeepCutAuto
namespace Go.Proofs.YtgehbabcpmkgaaaDoor
open Go Go.RowKit
set_option linter.unusedVariables false
set_option maxRecDepth 100000 in
set_option maxHeartbeats 4000000 in
theorem swrite_nil (ea : Nat → Addr) (w : World) (h14 : ErrAt w 5 (ea 14)) :
    Calls Tryd.prog 54 #[.pointer none, .int .i64 0, .agg #[.int .u32 0, .int .u32 0, .int .i64 0, .int .i64 0]] w fun e' w' => e' = .returned (EV ea 14) ∧ Below w.heap.size w w' := by
  have hb0 : Below w.heap.size w (w.alloc (.cells #[.int .u32 0, .int .u32 0, .int .i64 0, .int .i64 0] 51)) := (Below.refl _ _).alloc (Nat.le_refl _) _
  have hE := h14.stays hb0
  have hn := h14.lt
  unfold ErrAt at hE h14
  have hne : (w.heap.size == 5) = false := by simp; omega
  rw [EV_pos ea (by decide)]
  have HB0 := Lib.hid hb0
  clear hb0
  go_enter Tryd.func54, Tryd.ntmps54
  go_wp2_with fail
  go_ret
  exact ⟨rfl, HB0.out⟩
set_option maxRecDepth 100000 in
set_option maxHeartbeats 4000000 in
theorem schoose_nil (ea : Nat → Addr) (w : World) (h14 : ErrAt w 5 (ea 14)) :
    Calls Tryd.prog 57 #[.pointer none] w fun e' w' => e' = .returned (.tuple #[.agg #[.int .u32 0, .int .u32 0, .int .i64 0, .int .i64 0], .int .i64 0, EV ea 14]) ∧ Below w.heap.size w w' := by
  have hb0 : Below w.heap.size w (w.alloc (.cells #[.int .u32 0, .int .u32 0, .int .i64 0, .int .i64 0] 51)) := (Below.refl _ _).alloc (Nat.le_refl _) _
  have hc0 := CellsAt.new w #[.int .u32 0, .int .u32 0, .int .i64 0, .int .i64 0] 51
  have hE := h14.stays hb0
  have hn := h14.lt
  unfold ErrAt at hE h14
  have hne : (w.heap.size == 5) = false := by simp; omega
  have HB0 := Lib.hid hb0
  have c0 := hc0.cell 0 (v := .int .u32 0) rfl
  have c1 := hc0.cell 1 (v := .int .u32 0) rfl
  have c2 := hc0.cell 2 (v := .int .i64 0) rfl
  have c3 := hc0.cell 3 (v := .int .i64 0) rfl
  have f0 := hc0.free 0
  have f1 := hc0.free 1
  have f2 := hc0.free 2
  have f3 := hc0.free 3
  rw [EV_pos ea (by decide)]
  clear hb0 hc0
  go_enter Tryd.func57, Tryd.ntmps57
  go_wp2_with fail
  go_region
  all_goals go_wp2_with fail
  all_goals exact bodyPost_ret (v := .tuple #[.agg #[.int .u32 0, .int .u32 0, .int .i64 0, .int .i64 0], .int .i64 0, .iface 248 (.pointer (some (ea 14)))]) (by simp [results, Tryd.results57, go_sem, c0, c1, c2, c3]) rfl ⟨rfl, HB0.out.drew⟩
end Go.Proofs.YtgehbabcpmkgaaaDoor
