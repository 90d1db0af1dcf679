/- The law's Of and alive of layer 4. -/
import Derived.Test.YtgehbabcpmkgaaaDoorRcF
import Derived.Test.YtgehbabcpmkgaaaDoorErrs
import Derived.Test.YtgehbabcpmkgaaaDoorBytes
namespace Go.Proofs.YtgehbabcpmkgaaaDoor
open Go Go.RowKit
set_option linter.unusedVariables false
theorem cell_below {w w' : World} (hb : Below w.heap.size w w') {a : Addr} {v : Value} (h : w.cell? a = some v) : w'.cell? a = some v := (hb.cell (World.block_lt_of_cell? w a h)).trans h
theorem rcOf_any (n k bits : Int) (t r : ByteArray) (w : World) :
    Calls Tryd.prog 44 #[.agg #[.int .i64 n, .int .i64 k, .int .u64 bits, .string t, .string r]] w fun e w' => e = .returned (.agg #[.int .i64 n, .int .i64 k, .int .u64 bits, .string t, .string r]) ∧ Below w.heap.size w w' := by
  have HB : Hid (∀ o1 o2, Below w.heap.size w ((w.alloc o1).alloc o2)) := fun o1 o2 => ((Below.refl _ _).alloc (Nat.le_refl _) o1).alloc (by simp) o2
  go_enter Tryd.func44, Tryd.ntmps44
  go_wp2_with fail
  exact bodyPost_ret (v := .agg #[.int .i64 n, .int .i64 k, .int .u64 bits, .string t, .string r]) (by simp [results, Tryd.results44, go_sem]) rfl ⟨rfl, HB.out _ _⟩
theorem rparse_ex : rparse [b8 8, b8 1] = (⟨1, 0, 1, [], [b8 8, b8 1]⟩, 2, 0) := by decide +kernel
set_option maxHeartbeats 1000000 in
theorem alive04 (ea : Nat → Addr) (w : World) (he : ErrsAll ea w) : Calls Tryd.prog 41 #[] w fun e w' => e = .returned (.bool true) ∧ Below w.heap.size w w' := by
  have hb0 : Below w.heap.size w (w.alloc (.cells #[.int .u8 8, .int .u8 1] 5)) := (Below.refl _ _).alloc (Nat.le_refl _) _
  have hrow : RowB (w.alloc (.cells #[.int .u8 8, .int .u8 1] 5)) (.slice (some ⟨w.heap.size, 0, none⟩) 2 2) [b8 8, b8 1] := by
    have h : BlockB (w.alloc (.cells #[.int .u8 8, .int .u8 1] 5)) w.heap.size ([b8 8, b8 1] ++ []) := heap_alloc_new w _
    exact (h.own (B := w.heap.size) (c := 2) (Nat.le_refl _) rfl (by decide)).row
  have hE := he.stays hb0
  have hp := rcParse_any ea _ _ _ hrow (by decide) hE.e1 hE.e2 hE.e4 hE.e5 hE.e6 hE.e12
  rw [rparse_ex] at hp
  have HP : Hid (Calls Tryd.prog 42 #[.slice (some ⟨w.heap.size, 0, none⟩) 2 2] (w.alloc (.cells #[.int .u8 8, .int .u8 1] 5)) fun e w' => e = .returned (.tuple #[.agg #[.int .i64 1, .int .i64 0, .int .u64 1, .string { data := #[] }, .string { data := #[8, 1] }], .int .i64 2, .nilIface]) ∧ Below (w.alloc (.cells #[.int .u8 8, .int .u8 1] 5)).heap.size (w.alloc (.cells #[.int .u8 8, .int .u8 1] 5)) w') := hp
  have HB := Lib.hid hb0
  clear hrow hE hp he hb0
  go_enter Tryd.func41, Tryd.ntmps41
  go_wp2_with fail
  refine HP.out.mono ?_
  rintro e w1 ⟨rfl, hb1⟩
  have hbe := HB.out.trans (hb1.mono HB.out.size)
  clear HP hb1
  go_wp2_with fail
  go_ret
  exact ⟨rfl, hbe.alloc hbe.size _⟩
end Go.Proofs.YtgehbabcpmkgaaaDoor
