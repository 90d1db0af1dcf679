/- super.Bytes: a block's bytes. -/
import Derived.Test.YtgehbabcpmkgaaaDoorSuperQ
namespace Go.Proofs.YtgehbabcpmkgaaaDoor
open Go Go.RowKit
set_option linter.unusedVariables false
/-- a right block's bytes ahead of their sum; the whole -/
def blkH (g b h e : Nat) : List UInt8 := [82, 68, 76, 49] ++ fput 4 g ++ fput 4 b ++ fput 4 h ++ fput 4 e
def blkN (g b h e : Nat) : Nat → Nat
  | 0 => g
  | 1 => b
  | 2 => h
  | _ => e
def blkP (g b h e : Nat) : Nat → List UInt8
  | 0 => [82, 68, 76, 49]
  | k + 1 => blkP g b h e k ++ fput 4 (blkN g b h e k)
theorem blkP_len (g b h e : Nat) : ∀ k, (blkP g b h e k).length = 4 + 4 * k
  | 0 => rfl
  | k + 1 => by rw [blkP, List.length_append, fput_len, blkP_len g b h e k]; omega
theorem blkP4 (g b h e : Nat) : blkP g b h e 4 = blkH g b h e := rfl
theorem blkN_le {g b h e : Nat} (hg : g ≤ 4294967295) (hb : b ≤ 4294967295) (hh : h ≤ 1) (he : e ≤ 32) (k : Nat) : blkN g b h e k ≤ 4294967295 := by
  match k with
  | 0 => exact hg
  | 1 => exact hb
  | 2 => show h ≤ _; omega
  | k + 3 => show e ≤ _; omega
set_option maxRecDepth 100000 in
set_option maxHeartbeats 1000000 in
theorem sBytes_ok (g b h e : Nat) (w : World) (hR : blkR g b h e = true) (hg : g ≤ 4294967295) :
    Calls Tryd.prog 33 #[.agg #[.int .u32 g, .int .u32 b, .int .i64 h, .int .i64 e]] w fun e' w' => ∃ v', e' = .returned (.tuple #[v', .nilIface]) ∧ OwnB w.heap.size w' v' (sealed (blkH g b h e)) ∧ Below w.heap.size w w' := by
  obtain ⟨r1, r2, r3, r4, r5, r6⟩ := blkR_true hR
  have hb0 : Below w.heap.size w (w.alloc (.cells #[.int .u32 g, .int .u32 b, .int .i64 h, .int .i64 e] 51)) := (Below.refl _ _).alloc (Nat.le_refl _) _
  have hc0 := CellsAt.new w #[.int .u32 g, .int .u32 b, .int .i64 h, .int .i64 e] 51
  have HRT := sRight_any g b h e (w.alloc (.cells #[.int .u32 g, .int .u32 b, .int .i64 h, .int .i64 e] 51)) (by omega) (by omega) (by omega) (by omega) (by omega)
  rw [hR] at HRT
  have HRT := Lib.hid HRT
  have HNL := Lib.hid (blkN_le (g := g) (b := b) (h := h) (e := e) hg (by omega) (by omega) (by omega))
  have hhi : (h : Int) ≤ 1 := by omega
  have hei : (e : Int) ≤ 32 := by omega
  have HC0 := Lib.hid hc0
  have HB0 := Lib.hid hb0
  have kc := fun (w : World) (C : Array Value) (n c : Nat) => Lib.run_convert_bytes_const (P := Tryd.prog) w 23 5 C n c Tryd.underlying23 Tryd.underlying5
  clear hR r1 r2 r3 r4 r5 r6 hb0 hc0
  go_enter Tryd.func33, Tryd.ntmps33
  go_wp2_with fail
  refine HRT.out.mono ?_
  rintro e' w1 ⟨rfl, hb1⟩
  have hc1 := HC0.out.stays hb1
  have hbe1 := HB0.out.trans (hb1.mono HB0.out.size)
  have c0 := hc1.cell 0 (v := .int .u32 g) rfl
  have c1 := hc1.cell 1 (v := .int .u32 b) rfl
  have c2 := hc1.cell 2 (v := .int .i64 h) rfl
  have c3 := hc1.cell 3 (v := .int .i64 e) rfl
  have hm := rowB_lits w1 [82, 68, 76, 49] _ (4, 5) rfl 4 rfl (by decide)
  have hb2 : Below w1.heap.size w1 (w1.alloc (.cells #[.int .u8 82, .int .u8 68, .int .u8 76, .int .u8 49] 5 (4, 5))) := (Below.refl _ _).alloc (Nat.le_refl _) _
  have hbe2 := hbe1.trans (hb2.mono hbe1.size)
  have hsz := hc1.lt
  clear HRT hb1 hc1 hb2
  go_wp2_with fail
  go_loopw [4, 24] (fun v i wr => ∃ k : Nat, k ≤ 4 ∧ i = .int .i64 k ∧ RowB wr v (blkP g b h e k) ∧ (k = 4 → RowB wr v (blkH g b h e)) ∧ Below w.heap.size w wr) (fun _ i _ => 4 - (intOf i).toNat)
  case atStart => exact ⟨0, by omega, rfl, hm, fun h => by omega, hbe2⟩
  case round =>
    obtain ⟨k, hk, rfl, hr, -, hbe⟩ := hrel
    by_cases hlt : k < 4
    · rcases (by omega : k = 0 ∨ k = 1 ∨ k = 2 ∨ k = 3) with rfl | rfl | rfl | rfl
      · have HP := Lib.hid (put32_any _ (blkP g b h e 0) g wr (by have := HNL.out 0; have e0 : blkN g b h e 0 = g := rfl; omega) (by rw [blkP_len]; decide) hr)
        rw [show (((0 : Nat)) : Int) = 0 from rfl]
        have ix : ∀ w, (Instr.index 165 (.agg #[.int .u32 g, .int .u32 b, .int .u32 h, .int .u32 e]) (.int .i64 0)).run Tryd.prog w = .ok (.int .u32 g) w := fun _ => by kernel_rfl
        have hbe' := Lib.hid hbe
        clear hr hbe
        go_wp2_with fail
        refine HP.out.mono ?_
        rintro e' w5 ⟨v5, rfl, ho5, hb5⟩
        have hbe5 := hbe'.out.trans (hb5.mono hbe'.out.size)
        have hro := ho5.row
        clear HP ho5 hb5
        go_wp2_with fail
        go_roundw
        case rel => exact ⟨1, by omega, rfl, hro, fun h => by omega, hbe5⟩
        case measure => simp [intOf]
      · have HP := Lib.hid (put32_any _ (blkP g b h e 1) b wr (by have := HNL.out 1; have e0 : blkN g b h e 1 = b := rfl; omega) (by rw [blkP_len]; decide) hr)
        rw [show (((1 : Nat)) : Int) = 1 from rfl]
        have ix : ∀ w, (Instr.index 165 (.agg #[.int .u32 g, .int .u32 b, .int .u32 h, .int .u32 e]) (.int .i64 1)).run Tryd.prog w = .ok (.int .u32 b) w := fun _ => by kernel_rfl
        have hbe' := Lib.hid hbe
        clear hr hbe
        go_wp2_with fail
        refine HP.out.mono ?_
        rintro e' w5 ⟨v5, rfl, ho5, hb5⟩
        have hbe5 := hbe'.out.trans (hb5.mono hbe'.out.size)
        have hro := ho5.row
        clear HP ho5 hb5
        go_wp2_with fail
        go_roundw
        case rel => exact ⟨2, by omega, rfl, hro, fun h => by omega, hbe5⟩
        case measure => simp [intOf]
      · have HP := Lib.hid (put32_any _ (blkP g b h e 2) h wr (by have := HNL.out 2; have e0 : blkN g b h e 2 = h := rfl; omega) (by rw [blkP_len]; decide) hr)
        rw [show (((2 : Nat)) : Int) = 2 from rfl]
        have ix : ∀ w, (Instr.index 165 (.agg #[.int .u32 g, .int .u32 b, .int .u32 h, .int .u32 e]) (.int .i64 2)).run Tryd.prog w = .ok (.int .u32 h) w := fun _ => by kernel_rfl
        have hbe' := Lib.hid hbe
        clear hr hbe
        go_wp2_with fail
        refine HP.out.mono ?_
        rintro e' w5 ⟨v5, rfl, ho5, hb5⟩
        have hbe5 := hbe'.out.trans (hb5.mono hbe'.out.size)
        have hro := ho5.row
        clear HP ho5 hb5
        go_wp2_with fail
        go_roundw
        case rel => exact ⟨3, by omega, rfl, hro, fun h => by omega, hbe5⟩
        case measure => simp [intOf]
      · have HP := Lib.hid (put32_any _ (blkP g b h e 3) e wr (by have := HNL.out 3; have e0 : blkN g b h e 3 = e := rfl; omega) (by rw [blkP_len]; decide) hr)
        rw [show (((3 : Nat)) : Int) = 3 from rfl]
        have ix : ∀ w, (Instr.index 165 (.agg #[.int .u32 g, .int .u32 b, .int .u32 h, .int .u32 e]) (.int .i64 3)).run Tryd.prog w = .ok (.int .u32 e) w := fun _ => by kernel_rfl
        have hbe' := Lib.hid hbe
        clear hr hbe
        go_wp2_with fail
        refine HP.out.mono ?_
        rintro e' w5 ⟨v5, rfl, ho5, hb5⟩
        have hbe5 := hbe'.out.trans (hb5.mono hbe'.out.size)
        have hro := ho5.row
        clear HP ho5 hb5
        go_wp2_with fail
        go_roundw
        case rel => exact ⟨4, by omega, rfl, hro, fun h => hro, hbe5⟩
        case measure => simp [intOf]
    · obtain rfl : k = 4 := by omega
      have HS := Lib.hid (seal_any _ (blkH g b h e) wr (show RowB wr _ (blkH g b h e) from hr) (by rw [← blkP4, blkP_len]; decide))
      have hbe' := Lib.hid hbe
      clear hr hbe
      go_wp2_with fail
      refine HS.out.mono ?_
      rintro e' w5 ⟨v5, rfl, ho5, hb5⟩
      go_wp2_with fail
      go_ret2
      exact ⟨v5, rfl, ho5.mono hbe'.out.size, hbe'.out.trans (hb5.mono hbe'.out.size)⟩
set_option maxRecDepth 100000 in
theorem sBytes_bad (ea : Nat → Addr) (g b : Nat) (h e : Int) (w : World) (hR : blkR g b h e = false) (hb : b ≤ 4294967295) (hh1 : -9223372036854775808 ≤ h) (hh2 : h ≤ 9223372036854775807) (he1 : -9223372036854775808 ≤ e) (he2 : e ≤ 9223372036854775807) (hr1 : ErrAt w 2 (ea 1)) :
    Calls Tryd.prog 33 #[.agg #[.int .u32 g, .int .u32 b, .int .i64 h, .int .i64 e]] w fun e' w' => e' = .returned (.tuple #[.slice none 0 0, EV ea 1]) ∧ Below w.heap.size w w' := by
  have hb0 : Below w.heap.size w (w.alloc (.cells #[.int .u32 g, .int .u32 b, .int .i64 h, .int .i64 e] 51)) := (Below.refl _ _).alloc (Nat.le_refl _) _
  have HRT := sRight_any g b h e (w.alloc (.cells #[.int .u32 g, .int .u32 b, .int .i64 h, .int .i64 e] 51)) hb hh1 hh2 he1 he2
  rw [hR] at HRT
  have HRT := Lib.hid HRT
  have HB0 := Lib.hid hb0
  have HR1 := Lib.hid hr1
  rw [EV_pos ea (show (1 : Nat) ≠ 0 by decide)]
  clear hR hb0 hr1
  go_enter Tryd.func33, Tryd.ntmps33
  go_wp2_with fail
  refine HRT.out.mono ?_
  rintro e' w1 ⟨rfl, hb1⟩
  have hbe1 := HB0.out.trans (hb1.mono HB0.out.size)
  have he := HR1.out.stays hbe1
  unfold ErrAt at he
  clear HRT hb1
  go_wp2_with fail
  go_region
  all_goals go_wp2
  all_goals go_ret2
  all_goals exact ⟨rfl, hbe1.drew⟩
end Go.Proofs.YtgehbabcpmkgaaaDoor
