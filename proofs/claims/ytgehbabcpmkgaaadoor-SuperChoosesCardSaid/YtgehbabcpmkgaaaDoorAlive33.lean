/- Layer 33's example: alive() is true. -/
import Derived.Test.YtgehbabcpmkgaaaDoorSuperB
namespace Go.Proofs.YtgehbabcpmkgaaaDoor
open Go Go.RowKit
set_option linter.unusedVariables false
theorem blkH_len (g b h e : Nat) : (blkH g b h e).length = 20 := by rw [← blkP4, blkP_len]
theorem blkH_take (g b h e : Nat) : (sealed (blkH g b h e)).take 4 = [82, 68, 76, 49] := rfl
theorem half81 : halfV 8 1 = (5, 8) := by decide
theorem blk1 : blkR 1 1 0 4 = true := by decide
set_option maxRecDepth 100000 in
theorem alive33 (w : World) :
    Calls Tryd.prog 32 #[] w fun e w' => e = .returned (.bool true) ∧ Below w.heap.size w w' := by
  have HH := sHalf_any 8 1 w (by decide) (by decide) (by decide) (by decide)
  rw [half81] at HH
  have HH := Lib.hid HH
  have HB := sBytes_ok 1 1 0 4 w blk1 (by decide)
  have hsl : (sealed (blkH 1 1 0 4)).length = 24 := by rw [sealed_len, blkH_len]
  have htk := blkH_take 1 1 0 4
  generalize sealed (blkH 1 1 0 4) = X at *
  have HB := Lib.hid HB
  have HSL := Lib.hid hsl
  have HTK := Lib.hid htk
  clear hsl htk
  go_enter Tryd.func32, Tryd.ntmps32
  go_wp2_with fail
  refine HH.out.mono ?_
  rintro e w1 ⟨rfl, rfl⟩
  clear HH
  go_wp2_with fail
  refine HB.out.mono ?_
  rintro e w2 ⟨v3, rfl, ho2, hb2⟩
  obtain ⟨a3, c3, rfl, -, -⟩ := ho2.row.gen.shape
  have hto := ho2.row.gen.to 4 (by rw [HSL.out]; decide)
  have hcap := ho2.row.gen.cap
  rw [HTK.out] at hto
  have s4 : (convert 23 9 (.slice a3 4 c3)).run Tryd.prog w2 = .ok (.string ⟨#[82, 68, 76, 49]⟩) w2 := convert_str hto
  rw [HSL.out] at hcap ⊢
  have hci : (24 : Int) ≤ c3 := by omega
  have hci4 : (4 : Int) ≤ c3 := by omega
  clear HB ho2 hto hcap
  go_wp2_with fail
  go_ret
  exact ⟨rfl, hb2⟩
end Go.Proofs.YtgehbabcpmkgaaaDoor
