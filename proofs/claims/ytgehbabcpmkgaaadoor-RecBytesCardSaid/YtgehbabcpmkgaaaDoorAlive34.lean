/- The law's alive of layer 34. -/
import Derived.Test.YtgehbabcpmkgaaaDoorRecQ
namespace Go.Proofs.YtgehbabcpmkgaaaDoor
open Go Go.RowKit
set_option linter.unusedVariables false
set_option maxRecDepth 100000 in
set_option maxHeartbeats 4000000 in
theorem alive34 (w : World) : Calls Tryd.prog 23 #[] w fun e w' => e = .returned (.bool true) ∧ Below w.heap.size w w' := by
  have hp := recBytes_ok 1 (-1) 1 (.slice none 0 0) [] w (by decide) (by decide) (by decide) (by decide) (by decide) (by decide) (RowB.nil w) (by decide) (by decide)
  rw [show recB 1 (-1) 1 [] = [b8 1, b8 1] from by unfold recB; rw [if_neg (by decide), show ((1 : Int).toNat) = 1 from rfl, vput_lo (by decide)]; rfl] at hp
  have HP := Lib.hid hp
  have HW : Hid (∀ w, Calls Tryd.prog 29 #[.int .i64 3] w fun e w' => e = .returned (.string ⟨#[115, 107, 105, 112]⟩) ∧ w = w') := fun w => recWord_any 3 w
  clear hp
  go_enter Tryd.func23, Tryd.ntmps23
  go_wp2_with fail
  refine HP.out.mono ?_
  rintro e w1 ⟨v1, rfl, how1, hb1⟩
  rcases how1.row.open with ⟨h, _⟩ | ⟨b, o, c, rfl, _, _, _, hc⟩
  · cases h
  · have hc0 : w1.cell? ⟨b, o, none⟩ = some (.int .u8 1) := by simpa [BV_b8] using hc 0 (b8 1) rfl
    have hc1 : w1.cell? ⟨b, o + 1, none⟩ = some (.int .u8 1) := by simpa [BV_b8] using hc 1 (b8 1) rfl
    clear hc how1 HP
    go_wp2_with fail
    refine (HW.out w1).mono ?_
    rintro e w2 ⟨rfl, rfl⟩
    go_wp2_with fail
    go_ret
    exact ⟨rfl, hb1⟩
end Go.Proofs.YtgehbabcpmkgaaaDoor
