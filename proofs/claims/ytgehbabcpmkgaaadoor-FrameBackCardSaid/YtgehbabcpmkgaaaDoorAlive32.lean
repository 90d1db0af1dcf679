/- Layer 32's example: alive() is true. -/
import Derived.Test.YtgehbabcpmkgaaaDoorFrameB
import Derived.Test.YtgehbabcpmkgaaaDoorLits
namespace Go.Proofs.YtgehbabcpmkgaaaDoor
open Go Go.RowKit
set_option linter.unusedVariables false
theorem frame1 : (frameV 1 [97]).length = 13 ∧ (frameV 1 [97])[0]? = some 1 ∧ frameK [97] = 0 := by
  refine ⟨?_, ?_, rfl⟩
  · rw [(frameV_ok (gen := 1) (bs := [97]) (by decide)).1, sealed_len, frameH_len]; rfl
  · rw [(frameV_ok (gen := 1) (bs := [97]) (by decide)).1]; rfl
theorem sectors52 : sectorsV 52 = 1 ∧ sectorsV 53 = 2 := by decide
set_option maxRecDepth 100000 in
theorem alive32 (ea : Nat → Addr) (w : World) (he3 : ErrAt w 0 (ea 3)) :
    Calls Tryd.prog 15 #[] w fun e w' => e = .returned (.bool true) ∧ Below w.heap.size w w' := by
  have hb0 : Below w.heap.size w (w.alloc (.cells #[.int .u8 97] 5 (1, 2))) := (Below.refl w.heap.size w).alloc (Nat.le_refl _) _
  have HF := frameBytes_any ea 1 (.slice (some ⟨w.heap.size, 0, none⟩) 1 1) [97] (w.alloc (.cells #[.int .u8 97] 5 (1, 2))) (rowB_lits w [97] _ (1, 2) rfl 1 rfl (by decide)) (by decide) (by decide) (he3.stays hb0)
  obtain ⟨hl, h0, hk⟩ := frame1
  rw [hk, EV_zero, show ((1 : Nat) : Int) = 1 from rfl] at HF
  have HF := Lib.hid HF
  have HL := Lib.hid hl
  have H0 := Lib.hid h0
  have HS1 := Lib.hid (fun w => sectors_any 52 w (by decide) (by decide))
  have HS2 := Lib.hid (fun w => sectors_any 53 w (by decide) (by decide))
  rw [sectors52.1] at HS1
  rw [sectors52.2] at HS2
  have kc := fun (w : World) (C : Array Value) (n c : Nat) => Lib.run_convert_bytes_const (P := Tryd.prog) w 23 5 C n c Tryd.underlying23 Tryd.underlying5
  clear he3 hl h0 hk
  go_enter Tryd.func15, Tryd.ntmps15
  go_wp2_with fail
  refine HF.out.mono ?_
  rintro e w1 ⟨v1, rfl, ho1, hb1⟩
  have hbe1 := hb0.trans (hb1.mono hb0.size)
  obtain ⟨a1, c1, rfl, -, hin⟩ := ho1.row.gen.shape
  obtain ⟨b, o, rfl, hc⟩ := hin 0 1 H0.out
  rw [BV_def, Nat.add_zero] at hc
  have hc : w1.cell? ⟨b, o, none⟩ = some (.int .u8 1) := hc
  rw [HL.out]
  clear HF ho1 hb1 hin
  go_wp2_with fail
  refine (HS1.out w1).mono ?_
  rintro e w2 ⟨rfl, rfl⟩
  go_wp2_with fail
  refine (HS2.out w1).mono ?_
  rintro e w2 ⟨rfl, rfl⟩
  go_wp2_with fail
  go_ret
  exact ⟨rfl, hbe1⟩
end Go.Proofs.YtgehbabcpmkgaaaDoor
