/- Layer 2's example: alive() is true. -/
import Derived.Test.YtepogpihmpdeaaaDoorVparse
import Derived.Test.YtepogpihmpdeaaaDoorZig
namespace Go.Proofs.YtepogpihmpdeaaaDoor
open Go Go.RowKit
theorem vput300 : vput 300 = [b8 172, b8 2] := by
  rw [vput_hi (by decide), vput_lo (by decide)]
theorem vparse300 : vparse 0 0 [b8 172, b8 2] = (300, 2, 0) := by decide
theorem alive02 (ea : Nat → Addr) (w : World) (he2 : ErrAt w 1 (ea 2)) (he4 : ErrAt w 0 (ea 4)) :
    Calls Tryd.prog 10 #[] w fun e w' => e = .returned (.bool true) ∧ Below w.heap.size w w' := by
  have hp := fun w => vPut_any (.slice none 0 0) [] 300 w (by decide) (by simp) (RowB.nil w)
  have HP := Lib.hid hp
  clear hp
  go_enter Tryd.func10, Tryd.ntmps10
  go_wp2_with fail
  refine (HP.out w).mono ?_
  rintro e w1 ⟨v1, rfl, ho1, hb1⟩
  rw [List.nil_append, vput300] at ho1
  have he2 := he2.stays hb1
  have he4 := he4.stays hb1
  have hr1 := ho1.row
  go_wp2_with fail
  refine (vParse_any ea v1 _ w1 hr1 (by simp) he2 he4).mono ?_
  rw [vparse300]
  rintro e w2 ⟨rfl, hb2⟩
  rw [EV_zero]
  have hr2 := hr1.stays hb2
  have hb := hb1.trans (hb2.mono hb1.size)
  clear hb2 hb1 ho1 hr1 he2 he4 HP
  rcases hr2.open with ⟨h, _⟩ | ⟨b, o, c, rfl, _, _, _, hc⟩
  · cases h
  · have hc0 : w2.cell? ⟨b, o, none⟩ = some (.int .u8 172) := by simpa [BV_b8] using hc 0 (b8 172) rfl
    have hc1 : w2.cell? ⟨b, o + 1, none⟩ = some (.int .u8 2) := by simpa [BV_b8] using hc 1 (b8 2) rfl
    clear hr2 hc
    have hz : zag 3 = -2 := by decide
    go_wp2_with (go_at_call 11; refine (zag_any _ _ (by omega) (by omega)).mono ?_; rintro e w' ⟨rfl, rfl⟩)
    go_ret
    exact ⟨rfl, hb⟩
end Go.Proofs.YtepogpihmpdeaaaDoor
