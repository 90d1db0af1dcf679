/- The walk of the walker's take. -/
import Derived.Test.YtidfjemblidjkaaThC
namespace Go.Proofs.Ytidfjemblidjkaa
open Go Go.RowKit
set_option linter.unusedVariables false
/-- a chunk's cells, and its value -/
def ckC (c : Ck) : List Value := [.int .i64 c.k, .int .i64 c.o0, .int .i64 c.o1, .int .i64 c.a0, .int .i64 c.a1, .int .i64 c.b0, .int .i64 c.b1]
def ckV (c : Ck) : Value := .agg #[.int .i64 c.k, .int .i64 c.o0, .int .i64 c.o1, .int .i64 c.a0, .int .i64 c.a1, .int .i64 c.b0, .int .i64 c.b1]
theorem ckC_len (c : Ck) : (ckC c).length = 7 := rfl
theorem ckC_one (c : Ck) : (ckC c).all Value.oneCell' = true := rfl
set_option maxRecDepth 100000 in
set_option maxHeartbeats 4000000 in
theorem take_any (gw : Nat) (vo va vb vf vg : Value) (x y z x' y' z' : Nat) (w : World) (hW : WkAt w gw vo va vb vf vg x y z) :
    Calls Try.prog 43 #[.pointer (some ⟨gw, 0, none⟩), .int .i64 x', .int .i64 y', .int .i64 z'] w fun e w' => e = .returned (.agg #[.int .i64 1, .int .i64 x, .int .i64 x', .int .i64 y, .int .i64 y', .int .i64 z, .int .i64 z']) ∧ WkAt w' gw vo va vb vf vg x' y' z' ∧ w.grownBy w' (some gw) := by
  have hgl := CellsAt.lt hW
  have c5 := CellsAt.cell hW 5 (v := .int .i64 x) rfl
  have c6 := CellsAt.cell hW 6 (v := .int .i64 y) rfl
  have c7 := CellsAt.cell hW 7 (v := .int .i64 z) rfl
  have f5 := CellsAt.free hW 5
  have f6 := CellsAt.free hW 6
  have f7 := CellsAt.free hW 7
  have hW3 : WkAt (((w.setCell ⟨gw, 5, none⟩ (.int .i64 x')).setCell ⟨gw, 6, none⟩ (.int .i64 y')).setCell ⟨gw, 7, none⟩ (.int .i64 z')) gw vo va vb vf vg x' y' z' := by
    have := ((CellsAt.set hW 5 (.int .i64 x')).set 6 (.int .i64 y')).set 7 (.int .i64 z')
    simpa [WkAt] using this
  have hg3 : w.grownBy (((w.setCell ⟨gw, 5, none⟩ (.int .i64 x')).setCell ⟨gw, 6, none⟩ (.int .i64 y')).setCell ⟨gw, 7, none⟩ (.int .i64 z')) (some gw) := grownBy_setCell (grownBy_setCell (grownBy_setCell (grownBy_refl _ _) ⟨gw, 5, none⟩ (.inl rfl) _) ⟨gw, 6, none⟩ (.inl rfl) _) ⟨gw, 7, none⟩ (.inl rfl) _
  have hb3 : ∀ (W : World) (o1 o2 : Obj), Below W.heap.size W (((W.alloc o1).alloc o2).drew) := fun W o1 o2 => ((((Below.refl _ _).alloc (Nat.le_refl _) o1).alloc (by simp) o2)).drew
  have HWA : Hid (∀ o1 o2, WkAt (((((w.setCell ⟨gw, 5, none⟩ (.int .i64 x')).setCell ⟨gw, 6, none⟩ (.int .i64 y')).setCell ⟨gw, 7, none⟩ (.int .i64 z')).alloc o1).alloc o2).drew gw vo va vb vf vg x' y' z') := fun o1 o2 => CellsAt.stays hW3 (hb3 _ o1 o2)
  have HGR : Hid (∀ o1 o2, w.grownBy (((((w.setCell ⟨gw, 5, none⟩ (.int .i64 x')).setCell ⟨gw, 6, none⟩ (.int .i64 y')).setCell ⟨gw, 7, none⟩ (.int .i64 z')).alloc o1).alloc o2).drew (some gw)) := fun o1 o2 => grownBy_trans hg3 (grownBy_none (grown_of_below (hb3 _ o1 o2)))
  have HW := Lib.hid hW
  clear hW hW3 hg3 hb3
  go_enter Try.func43, Try.ntmps43
  go_wp2_with fail
  go_region
  all_goals go_wp2_with fail
  all_goals exact bodyPost_ret (v := .agg #[.int .i64 1, .int .i64 x, .int .i64 x', .int .i64 y, .int .i64 y', .int .i64 z, .int .i64 z']) (by simp [results, Try.results43, go_sem]) rfl ⟨rfl, HWA.out _ _, HGR.out _ _⟩
end Go.Proofs.Ytidfjemblidjkaa
