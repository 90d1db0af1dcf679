/- Edits with no fields, steps and keys: the same, how great. -/
import Derived.Test.YtcnjlbbckdmifaaEb
import Derived.Test.YtcnjlbbckdmifaaQin
namespace Go.Proofs.Ytcnjlbbckdmifaa
open Go Go.RowKit
set_option linter.unusedVariables false
theorem eqfF (w : World) (f : Value) : Calls Try.prog 81 #[.slice none 0 0, .slice none 0 0, f] w fun e w' => e = .returned (.bool true) ∧ w' = w := by
  go_enter Try.func81, Try.ntmps81
  go_wp2_with fail
  go_loopw [17] (fun i wr => i = .int .i64 0 ∧ wr = w) (fun _ _ => 0)
  case atStart => exact ⟨rfl, rfl⟩
  case round =>
    obtain ⟨rfl, rfl⟩ := hrel
    go_wp2_with fail
    go_ret
    exact ⟨rfl, rfl⟩
theorem eqfS (w : World) (f : Value) : Calls Try.prog 83 #[.slice none 0 0, .slice none 0 0, f] w fun e w' => e = .returned (.bool true) ∧ w' = w := by
  go_enter Try.func83, Try.ntmps83
  go_wp2_with fail
  go_loopw [17] (fun i wr => i = .int .i64 0 ∧ wr = w) (fun _ _ => 0)
  case atStart => exact ⟨rfl, rfl⟩
  case round =>
    obtain ⟨rfl, rfl⟩ := hrel
    go_wp2_with fail
    go_ret
    exact ⟨rfl, rfl⟩
theorem eqfK (w : World) (f : Value) : Calls Try.prog 85 #[.slice none 0 0, .slice none 0 0, f] w fun e w' => e = .returned (.bool true) ∧ w' = w := by
  go_enter Try.func85, Try.ntmps85
  go_wp2_with fail
  go_loopw [17] (fun i wr => i = .int .i64 0 ∧ wr = w) (fun _ _ => 0)
  case atStart => exact ⟨rfl, rfl⟩
  case round =>
    obtain ⟨rfl, rfl⟩ := hrel
    go_wp2_with fail
    go_ret
    exact ⟨rfl, rfl⟩
set_option maxRecDepth 100000 in
set_option maxHeartbeats 4000000 in
theorem equal_z (w : World) : Calls Try.prog 38 #[.agg #[.int .i64 0, .int .i64 0, .int .u64 0, .string ⟨#[]⟩, .slice none 0 0, .string ⟨#[]⟩, .slice none 0 0, .slice none 0 0, .int .i64 0, .int .u64 0, .string ⟨#[]⟩, .slice none 0 0, .string ⟨#[]⟩, .slice none 0 0, .slice none 0 0, .slice none 0 0, .bool false, .string ⟨#[]⟩, .string ⟨#[]⟩, .slice none 0 0, .slice none 0 0], .agg #[.int .i64 0, .int .i64 0, .int .u64 0, .string ⟨#[]⟩, .slice none 0 0, .string ⟨#[]⟩, .slice none 0 0, .slice none 0 0, .int .i64 0, .int .u64 0, .string ⟨#[]⟩, .slice none 0 0, .string ⟨#[]⟩, .slice none 0 0, .slice none 0 0, .slice none 0 0, .bool false, .string ⟨#[]⟩, .string ⟨#[]⟩, .slice none 0 0, .slice none 0 0]] w fun e w' => e = .returned (.bool true) ∧ Below w.heap.size w w' := by
  obtain ⟨A, hA⟩ : ∃ A, A = (#[.int .i64 0, .int .i64 0, .int .u64 0, .string ⟨#[]⟩, .slice none 0 0, .string ⟨#[]⟩, .slice none 0 0, .slice none 0 0, .int .i64 0, .int .u64 0, .string ⟨#[]⟩, .slice none 0 0, .string ⟨#[]⟩, .slice none 0 0, .slice none 0 0, .slice none 0 0, .bool false, .string ⟨#[]⟩, .string ⟨#[]⟩, .slice none 0 0, .slice none 0 0] : Array Value) := ⟨_, rfl⟩
  rw [← hA]
  have HA := Lib.hid hA
  clear hA
  obtain ⟨W0, hW0⟩ : ∃ W0, W0 = (w.alloc (.cells A 60)).alloc (.cells A 60) := ⟨_, rfl⟩
  obtain ⟨g, hg⟩ : ∃ g, g = w.heap.size := ⟨_, rfl⟩
  have hBA : Below w.heap.size w W0 := by rw [hW0]; exact ((Below.refl _ _).alloc (Nat.le_refl _) _).alloc (by simp) _
  have hcx : CellsAt W0 g 60 A := by rw [hW0, hg]; exact CellsAt.allocE (CellsAt.new w _ _)
  have hcy : CellsAt W0 (g + 1) 60 A := by rw [hW0, hg]; exact CellsAt.newE (by simp)
  have HX : Hid (∀ W, Below W0.heap.size W0 W → CellsAt W g 60 A ∧ CellsAt W (g + 1) 60 A) := fun W hb => ⟨hcx.stays hb, hcy.stays hb⟩
  have HW := Lib.hid hW0
  have HG := Lib.hid hg
  have HBA := Lib.hid hBA
  clear hW0 hg hBA
  go_enter Try.func38, Try.ntmps38
  go_upto_region 1 with fail
  rw [← HW.out, ← HG.out]
  clear HW HG
  have a1 := hcx.cell 1 (v := .int .i64 0) (by rw [HA.out]; rfl); have a2 := hcx.cell 2 (v := .int .u64 0) (by rw [HA.out]; rfl); have a3 := hcx.cell 3 (v := .string ⟨#[]⟩) (by rw [HA.out]; rfl); have a4 := hcx.cell 4 (v := .slice none 0 0) (by rw [HA.out]; rfl); have a5 := hcx.cell 5 (v := .string ⟨#[]⟩) (by rw [HA.out]; rfl); have a6 := hcx.cell 6 (v := .slice none 0 0) (by rw [HA.out]; rfl); have a7 := hcx.cell 7 (v := .slice none 0 0) (by rw [HA.out]; rfl)
  have b1 := hcy.cell 1 (v := .int .i64 0) (by rw [HA.out]; rfl); have b2 := hcy.cell 2 (v := .int .u64 0) (by rw [HA.out]; rfl); have b3 := hcy.cell 3 (v := .string ⟨#[]⟩) (by rw [HA.out]; rfl); have b4 := hcy.cell 4 (v := .slice none 0 0) (by rw [HA.out]; rfl); have b5 := hcy.cell 5 (v := .string ⟨#[]⟩) (by rw [HA.out]; rfl); have b6 := hcy.cell 6 (v := .slice none 0 0) (by rw [HA.out]; rfl); have b7 := hcy.cell 7 (v := .slice none 0 0) (by rw [HA.out]; rfl)
  clear hcx hcy
  go_wp2_with fail
  refine (same_z _).mono ?_
  rintro e w1 ⟨rfl, hb1⟩
  clear a1 a2 a3 a4 a5 a6 a7 b1 b2 b3 b4 b5 b6 b7
  obtain ⟨hcx, hcy⟩ := HX.out w1 hb1
  have a8 := hcx.cell 8 (v := .int .i64 0) (by rw [HA.out]; rfl); have a9 := hcx.cell 9 (v := .int .u64 0) (by rw [HA.out]; rfl); have a10 := hcx.cell 10 (v := .string ⟨#[]⟩) (by rw [HA.out]; rfl); have a11 := hcx.cell 11 (v := .slice none 0 0) (by rw [HA.out]; rfl); have a12 := hcx.cell 12 (v := .string ⟨#[]⟩) (by rw [HA.out]; rfl); have a13 := hcx.cell 13 (v := .slice none 0 0) (by rw [HA.out]; rfl); have a14 := hcx.cell 14 (v := .slice none 0 0) (by rw [HA.out]; rfl)
  have b8 := hcy.cell 8 (v := .int .i64 0) (by rw [HA.out]; rfl); have b9 := hcy.cell 9 (v := .int .u64 0) (by rw [HA.out]; rfl); have b10 := hcy.cell 10 (v := .string ⟨#[]⟩) (by rw [HA.out]; rfl); have b11 := hcy.cell 11 (v := .slice none 0 0) (by rw [HA.out]; rfl); have b12 := hcy.cell 12 (v := .string ⟨#[]⟩) (by rw [HA.out]; rfl); have b13 := hcy.cell 13 (v := .slice none 0 0) (by rw [HA.out]; rfl); have b14 := hcy.cell 14 (v := .slice none 0 0) (by rw [HA.out]; rfl)
  have HB1 := Lib.hid hb1
  clear hcx hcy hb1
  go_wp2_with fail
  refine (same_z _).mono ?_
  rintro e w2 ⟨rfl, hb2⟩
  clear a8 a9 a10 a11 a12 a13 a14 b8 b9 b10 b11 b12 b13 b14
  have hb02 := HB1.out.trans (hb2.mono HB1.out.size)
  obtain ⟨hcx, hcy⟩ := HX.out w2 hb02
  have a0 := hcx.cell 0 (v := .int .i64 0) (by rw [HA.out]; rfl); have a15 := hcx.cell 15 (v := .slice none 0 0) (by rw [HA.out]; rfl); have a16 := hcx.cell 16 (v := .bool false) (by rw [HA.out]; rfl); have a17 := hcx.cell 17 (v := .string ⟨#[]⟩) (by rw [HA.out]; rfl); have a18 := hcx.cell 18 (v := .string ⟨#[]⟩) (by rw [HA.out]; rfl); have a19 := hcx.cell 19 (v := .slice none 0 0) (by rw [HA.out]; rfl); have a20 := hcx.cell 20 (v := .slice none 0 0) (by rw [HA.out]; rfl)
  have b0 := hcy.cell 0 (v := .int .i64 0) (by rw [HA.out]; rfl); have b15 := hcy.cell 15 (v := .slice none 0 0) (by rw [HA.out]; rfl); have b16 := hcy.cell 16 (v := .bool false) (by rw [HA.out]; rfl); have b17 := hcy.cell 17 (v := .string ⟨#[]⟩) (by rw [HA.out]; rfl); have b18 := hcy.cell 18 (v := .string ⟨#[]⟩) (by rw [HA.out]; rfl); have b19 := hcy.cell 19 (v := .slice none 0 0) (by rw [HA.out]; rfl); have b20 := hcy.cell 20 (v := .slice none 0 0) (by rw [HA.out]; rfl)
  have HB2 := Lib.hid (HBA.out.trans (hb02.mono HBA.out.size))
  clear hcx hcy hb2 hb02 HB1 HX HBA
  go_wp2_with fail
  refine (eqfF _ _).mono ?_
  rintro e w3 ⟨rfl, rfl⟩
  go_wp2_with fail
  refine (eqfS _ _).mono ?_
  rintro e w4 ⟨rfl, rfl⟩
  go_wp2_with fail
  refine (eqfK _ _).mono ?_
  rintro e w5 ⟨rfl, rfl⟩
  go_wp2_with fail
  go_ret
  exact ⟨rfl, HB2.out⟩
section
variable {S S' : Nat → Prop} {w : World} {o0 o1 o2 o3 o4 o5 o6 n0 n1 n2 n3 n4 n5 n6 : Value} {v u : V}
set_option maxRecDepth 100000 in
set_option maxHeartbeats 4000000 in
theorem inner_1 : Calls Try.prog 92 #[.agg #[.int .i64 1, o0, o1, o2, o3, o4, o5, o6, n0, n1, n2, n3, n4, n5, n6, .slice none 0 0, .bool false, .string ⟨#[]⟩, .string ⟨#[]⟩, .slice none 0 0, .slice none 0 0]] w fun e w' => e = .returned (.slice none 0 0) ∧ Below w.heap.size w w' := by
  obtain ⟨A, hA⟩ : ∃ A, A = (#[.int .i64 1, o0, o1, o2, o3, o4, o5, o6, n0, n1, n2, n3, n4, n5, n6, .slice none 0 0, .bool false, .string ⟨#[]⟩, .string ⟨#[]⟩, .slice none 0 0, .slice none 0 0] : Array Value) := ⟨_, rfl⟩
  rw [← hA]
  have HA := Lib.hid hA
  have sA : A.size = 21 := by rw [hA]; rfl
  clear hA
  obtain ⟨W0, hW0⟩ : ∃ W0, W0 = w.alloc (.cells A 60) := ⟨_, rfl⟩
  obtain ⟨g, hg⟩ : ∃ g, g = w.heap.size := ⟨_, rfl⟩
  have hBA : Below w.heap.size w W0 := by rw [hW0]; exact (Below.refl _ _).alloc (Nat.le_refl _) _
  have hcx : CellsAt W0 g 60 A := by rw [hW0, hg]; exact CellsAt.new w _ _
  have a15 := hcx.cell 15 (v := .slice none 0 0) (by rw [HA.out]; rfl); have a19 := hcx.cell 19 (v := .slice none 0 0) (by rw [HA.out]; rfl); have a20 := hcx.cell 20 (v := .slice none 0 0) (by rw [HA.out]; rfl)
  have HW := Lib.hid hW0
  have HG := Lib.hid hg
  have HBA := Lib.hid hBA
  clear hW0 hg hBA hcx
  go_enter Try.func92, Try.ntmps92
  go_upto_region 2 with fail
  rw [← HW.out, ← HG.out]
  clear HW HG
  go_wp2_with fail
  go_loopw [3, 13] (fun s i wr => s = .slice none 0 0 ∧ i = .int .i64 0 ∧ wr = W0) (fun _ _ _ => 0)
  case atStart => exact ⟨rfl, rfl, rfl⟩
  case round =>
    obtain ⟨rfl, rfl, rfl⟩ := hrel
    go_wp2_with fail
    go_loopw [3, 26] (fun s i wr' => s = .slice none 0 0 ∧ i = .int .i64 0 ∧ wr' = wr) (fun _ _ _ => 0)
    case atStart => exact ⟨rfl, rfl, rfl⟩
    case round =>
      obtain ⟨rfl, rfl, rfl⟩ := hrel
      go_wp2_with fail
      go_loopw [3, 39] (fun s i wr' => s = .slice none 0 0 ∧ i = .int .i64 0 ∧ wr' = wr) (fun _ _ _ => 0)
      case atStart => exact ⟨rfl, rfl, rfl⟩
      case round =>
        obtain ⟨rfl, rfl, rfl⟩ := hrel
        go_wp2_with fail
        go_ret
        exact ⟨rfl, HBA.out⟩
set_option maxRecDepth 100000 in
set_option maxHeartbeats 4000000 in
theorem size_1 (h : VV S w #[o0, o1, o2, o3, o4, o5, o6] v) (h' : VV S' w #[n0, n1, n2, n3, n4, n5, n6] u) (hv : wV v ≤ 1000000) (hu : wV u ≤ 1000000) : Calls Try.prog 42 #[.agg #[.int .i64 1, o0, o1, o2, o3, o4, o5, o6, n0, n1, n2, n3, n4, n5, n6, .slice none 0 0, .bool false, .string ⟨#[]⟩, .string ⟨#[]⟩, .slice none 0 0, .slice none 0 0]] w fun e w' => e = .returned (.int .i64 ((1 + sizeV v + sizeV u : Nat) : Int)) ∧ Below w.heap.size w w' := by
  obtain ⟨A, hA⟩ : ∃ A, A = (#[.int .i64 1, o0, o1, o2, o3, o4, o5, o6, n0, n1, n2, n3, n4, n5, n6, .slice none 0 0, .bool false, .string ⟨#[]⟩, .string ⟨#[]⟩, .slice none 0 0, .slice none 0 0] : Array Value) := ⟨_, rfl⟩
  rw [← hA]
  have HA := Lib.hid hA
  have sA : A.size = 21 := by rw [hA]; rfl
  have HIN : Hid (∀ W, Calls Try.prog 92 #[.agg A] W fun e w' => e = .returned (.slice none 0 0) ∧ Below W.heap.size W w') := fun W => by rw [hA]; exact inner_1
  clear hA
  obtain ⟨W0, hW0⟩ : ∃ W0, W0 = w.alloc (.cells A 60) := ⟨_, rfl⟩
  obtain ⟨g, hg⟩ : ∃ g, g = w.heap.size := ⟨_, rfl⟩
  have hBA : Below w.heap.size w W0 := by rw [hW0]; exact (Below.refl _ _).alloc (Nat.le_refl _) _
  have hcx : CellsAt W0 g 60 A := by rw [hW0, hg]; exact CellsAt.new w _ _
  have HS1 : Hid (∀ W, Below W0.heap.size W0 W → Calls Try.prog 17 #[.agg #[o0, o1, o2, o3, o4, o5, o6]] W fun e w' => e = .returned (.int .i64 (sizeV v : Nat)) ∧ Below W.heap.size W w') := fun W hb => size_op (h.stays (hBA.trans (hb.mono hBA.size))) hv
  have HS2 : Hid (∀ W, Below W0.heap.size W0 W → Calls Try.prog 17 #[.agg #[n0, n1, n2, n3, n4, n5, n6]] W fun e w' => e = .returned (.int .i64 (sizeV u : Nat)) ∧ Below W.heap.size W w') := fun W hb => size_op (h'.stays (hBA.trans (hb.mono hBA.size))) hu
  have s1 : sizeV v ≤ 1000000 := Nat.le_trans (sizeV_le v) hv
  have s2 : sizeV u ≤ 1000000 := Nat.le_trans (sizeV_le u) hu
  generalize sizeV v = X1 at HS1 s1 ⊢
  generalize sizeV u = X2 at HS2 s2 ⊢
  have HX : Hid (∀ W, Below W0.heap.size W0 W → CellsAt W g 60 A) := fun W hb => hcx.stays hb
  have HW := Lib.hid hW0
  have HG := Lib.hid hg
  have HBA := Lib.hid hBA
  have hd0 : Below W0.heap.size W0 W0.drew := (Below.refl _ _).drew
  have a0 := hcx.cell 0 (v := .int .i64 1) (by rw [HA.out]; rfl)
  clear hW0 hg hBA hcx h h' hv hu
  go_enter Try.func42, Try.ntmps42
  go_upto_region 1 with fail
  rw [← HW.out, ← HG.out]
  clear HW HG
  go_upto_region 3 with fail
  clear a0
  refine wp_region_quiet_in (C := fun W => Below W0.heap.size W0 W) (by kernel_rfl) (by kernel_rfl) hd0 ?_
  repeat
    (first
       | go_big_quiet_skip
       | (go_big_quiet_want
          refine quiet_intro ?_ (fun wq hwq => ?_) ?_
          rotate_left
          focus
            (have hcq := HX.out _ hwq
             have a1 := hcq.cell 1 (v := o0) (by rw [HA.out]; rfl); have a2 := hcq.cell 2 (v := o1) (by rw [HA.out]; rfl); have a3 := hcq.cell 3 (v := o2) (by rw [HA.out]; rfl); have a4 := hcq.cell 4 (v := o3) (by rw [HA.out]; rfl); have a5 := hcq.cell 5 (v := o4) (by rw [HA.out]; rfl); have a6 := hcq.cell 6 (v := o5) (by rw [HA.out]; rfl); have a7 := hcq.cell 7 (v := o6) (by rw [HA.out]; rfl); have a8 := hcq.cell 8 (v := n0) (by rw [HA.out]; rfl); have a9 := hcq.cell 9 (v := n1) (by rw [HA.out]; rfl); have a10 := hcq.cell 10 (v := n2) (by rw [HA.out]; rfl); have a11 := hcq.cell 11 (v := n3) (by rw [HA.out]; rfl); have a12 := hcq.cell 12 (v := n4) (by rw [HA.out]; rfl); have a13 := hcq.cell 13 (v := n5) (by rw [HA.out]; rfl); have a14 := hcq.cell 14 (v := n6) (by rw [HA.out]; rfl); have a19 := hcq.cell 19 (v := .slice none 0 0) (by rw [HA.out]; rfl)
             clear hcq
             go_simp
             try first
               | with_reducible rfl
               | (exact hwq)
               | ((with_reducible refine (HS1.out _ hwq).mono ?_); rintro e wA ⟨rfl, hbA⟩; refine ⟨?_, hwq.trans (hbA.mono hwq.size)⟩; with_reducible rfl)
               | ((with_reducible refine (HS2.out _ hwq).mono ?_); rintro e wA ⟨rfl, hbA⟩; refine ⟨?_, hwq.trans (hbA.mono hwq.size)⟩; with_reducible rfl))
          go_simp
          go_big_quiet_on))
  refine wpQuiet_nil ?_
  intro W1 hb1
  have hcx := HX.out _ hb1
  have a15 := hcx.cell 15 (v := .slice none 0 0) (by rw [HA.out]; rfl); have a19 := hcx.cell 19 (v := .slice none 0 0) (by rw [HA.out]; rfl); have a20 := hcx.cell 20 (v := .slice none 0 0) (by rw [HA.out]; rfl)
  have HB1 := Lib.hid hb1
  clear hb1 hd0 HS1 HS2
  go_wp2_with fail
  go_loopw [3, 28] (fun s i wr => s = .int .i64 ((1 + X1 + X2 : Nat) : Int) ∧ i = .int .i64 0 ∧ wr = W1) (fun _ _ _ => 0)
  case atStart => exact ⟨by congr 1; simp only [IntKind.wrap_i64]; omega, rfl, rfl⟩
  case round =>
    obtain ⟨rfl, rfl, rfl⟩ := hrel
    go_wp2_with fail
    go_loopw [3, 41] (fun s i wr' => s = .int .i64 ((1 + X1 + X2 : Nat) : Int) ∧ i = .int .i64 0 ∧ wr' = wr) (fun _ _ _ => 0)
    case atStart => exact ⟨rfl, rfl, rfl⟩
    case round =>
      obtain ⟨rfl, rfl, rfl⟩ := hrel
      go_wp2_with (first | (refine wpList_loadW rfl 60 _ rfl g (by rfl) 60 _ hcx _ Try.underlying60 rfl (by rw [sA]; exact sizeE) ?_))
      refine (HIN.out _).mono ?_
      rintro e w2 ⟨rfl, hb2⟩
      have HB2 := Lib.hid (HBA.out.trans ((HB1.out.trans (hb2.mono HB1.out.size)).mono HBA.out.size))
      clear hb2 a15 a19 a20
      go_wp2_with fail
      go_loopw [3, 54] (fun s i wr' => s = .int .i64 ((1 + X1 + X2 : Nat) : Int) ∧ i = .int .i64 0 ∧ wr' = w2) (fun _ _ _ => 0)
      case atStart => exact ⟨rfl, rfl, rfl⟩
      case round =>
        obtain ⟨rfl, rfl, rfl⟩ := hrel
        go_wp2_with fail
        go_ret
        exact ⟨rfl, HB2.out⟩
end
end Go.Proofs.Ytcnjlbbckdmifaa
