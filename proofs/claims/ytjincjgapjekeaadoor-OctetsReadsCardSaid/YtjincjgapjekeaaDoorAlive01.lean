/- Layer 1's example: alive() is true. -/
import Derived.Test.YtjincjgapjekeaaDoorFput
import Derived.Test.YtjincjgapjekeaaDoorCmp
namespace Go.Proofs.YtjincjgapjekeaaDoor
open Go Go.RowKit
set_option linter.unusedVariables false
theorem fput41 : fput 4 1 = [b8 1, b8 0, b8 0, b8 0] := by decide
theorem fixed41 : fixedV (rgot [b8 1, b8 0, b8 0, b8 0] 0 4) = 1 := by decide
theorem ask41 : ask [b8 1, b8 0, b8 0, b8 0] 0 4 = 0 := by decide
theorem rat41 : rat [b8 1, b8 0, b8 0, b8 0] 0 4 = 4 := by decide
theorem alive01 (ea : Nat → Addr) (w : World) (he1 : ErrAt w 2 (ea 1)) (he2 : ErrAt w 0 (ea 2)) :
    Calls Tryd.prog 11 #[] w fun e w' => e = .returned (.bool true) ∧ Below w.heap.size w w' := by
  have HP := Lib.hid (put32_any (.slice none 0 0) [] 1 w (by decide) (by simp) (RowB.nil w))
  go_enter Tryd.func11, Tryd.ntmps11
  go_wp2_with fail
  refine HP.out.mono ?_
  rintro e w1 ⟨v1, rfl, ho1, hb1⟩
  rw [List.nil_append, fput41] at ho1
  have he1 := he1.stays hb1
  have he2 := he2.stays hb1
  have HN := Lib.hid (newReader_any v1 _ w1 ho1.row (by simp))
  clear HP
  go_wp2_with fail
  refine HN.out.mono ?_
  rintro e w2 ⟨rfl, hrd2, hb2⟩
  have ho2 := ho1.stays hb2
  have hbe2 := hb1.trans (hb2.mono hb1.size)
  have he1 := he1.stays hb2
  have he2 := he2.stays hb2
  have HF := Lib.hid (fixed32_any ea w1.heap.size v1 _ 0 w2 hrd2 he1 he2)
  have hgsz := hb1.size
  clear HN ho1 hb2 hb1
  rcases ho2.row.open with ⟨h, _⟩ | ⟨b, o, c, rfl, _, _, _, hc⟩
  · cases h
  · have hc0 : w2.cell? ⟨b, o, none⟩ = some (.int .u8 1) := by simpa [BV_b8] using hc 0 (b8 1) rfl
    clear hc ho2 hrd2 he1 he2
    go_wp2_with fail
    refine HF.out.mono ?_
    rw [fixed41, ask41, rat41, EV_zero]
    rintro e w3 ⟨rfl, hrd3, hg3⟩
    have HL := Lib.hid (left_any _ _ _ _ w3 hrd3)
    have hr3 := Lib.hid hrd3.row
    have hbe3 := hbe2.grown hg3 hbe2.size (fun k hk => by cases hk; exact hgsz)
    clear HF hrd3 hg3 hbe2 hc0
    go_wp2_with fail
    refine HL.out.mono ?_
    rintro e w4 ⟨rfl, hb4⟩
    have hr4 := hr3.out.stays hb4
    have HE := Lib.hid (oequal_any _ _ _ _ w4 hr4 hr4)
    have hbe4 := hbe3.trans (hb4.mono hbe3.size)
    clear hr4 hb4 hr3 HL hbe3
    go_wp2_with fail
    refine HE.out.mono ?_
    rintro e w5 ⟨rfl, rfl⟩
    go_wp2_with fail
    go_ret
    exact ⟨rfl, hbe4⟩
end Go.Proofs.YtjincjgapjekeaaDoor
