/- crc.More and crc.Sum. -/
import Derived.Test.YtgehbabcpmkgaaaDoorCrc
namespace Go.Proofs.YtgehbabcpmkgaaaDoor
open Go Go.RowKit
set_option linter.unusedVariables false
theorem tabv_get {i : Nat} (h : i < 16) : (tabv 16)[i]? = some (citer 4 i) := by
  unfold tabv
  rw [List.getElem?_map, List.getElem?_range h]; rfl
theorem cnot_max (a : Nat) (h : a < 4294967296) : bits .xor .u32 IntKind.u32.max (a : Int) = ((cnot a : Nat) : Int) := by
  have := crc_xor 4294967295 a (by decide) h
  rw [Nat.xor_comm] at this
  exact this
theorem cnot_xor (a : Nat) (h : a < 4294967296) : bits .xor .u32 (a : Int) 4294967295 = ((cnot a : Nat) : Int) := crc_xor a 4294967295 h (by decide)
/-- four bits at one time, as the code does -/
theorem crow (X : Nat) (h : X < 4294967296) : ∃ T Y : Nat, T = citer 4 (X % 16) ∧ Y = citer 4 X ∧ T < 4294967296 ∧ Y < 4294967296 ∧ bits .xor .u32 ((X / 16 : Nat) : Int) (T : Int) = (Y : Int) := by
  have hT : citer 4 (X % 16) < 4294967296 := citer_lt 4 (by omega)
  refine ⟨_, _, rfl, rfl, hT, citer_lt 4 h, ?_⟩
  rw [crc_xor _ _ (by omega) hT, ← citer_row]
def z16 : Array Value := #[.int .u32 0, .int .u32 0, .int .u32 0, .int .u32 0, .int .u32 0, .int .u32 0, .int .u32 0, .int .u32 0, .int .u32 0, .int .u32 0, .int .u32 0, .int .u32 0, .int .u32 0, .int .u32 0, .int .u32 0, .int .u32 0]
theorem store16 (w : World) (C : List Value) (hl : C.length = 16) (ho : ∀ v ∈ C, v.oneCell' = true) : ∃ w2, (storeCells ⟨w.heap.size, 0, none⟩ C).run Tryd.prog (w.alloc (.cells z16 246)) = .ok () w2 ∧ w2.rangeAt w.heap.size 0 C ∧ Below w.heap.size w w2 := by
  have hct := CellsAt.new w z16 246
  have hT : (w.alloc (.cells z16 246)).there w.heap.size 0 C.length := fun j hj => by
    rw [Nat.zero_add]
    rw [hl] at hj
    have hz : ∃ v, z16[j]? = some v := ⟨_, Array.getElem?_eq_getElem (show j < z16.size from hj)⟩
    obtain ⟨v, hv⟩ := hz
    exact ⟨by rw [hct.cell j hv]; rfl, hct.free j⟩
  refine ⟨(w.alloc (.cells z16 246)).setCells w.heap.size 0 C, ?_, World.rangeAt_setCells_same _ _ _ _ hT, ?_⟩
  · have := run_storeCells_cells (P := Tryd.prog) w.heap.size 0 C 0 (w.alloc (.cells z16 246)) (fun j hj => by simpa using (hT j hj).1) (fun j hj => by simp) ho
    simpa using this
  · exact ((Below.refl _ _).alloc (Nat.le_refl _) _).trans (Lib.below_setCells_w (B := w.heap.size) (Nat.le_refl w.heap.size) C 0 _)
set_option maxRecDepth 100000 in
set_option maxHeartbeats 1000000 in
theorem more_any (s : Nat) (v : Value) (bs : List UInt8) (w : World) (hs : s < 4294967296) (hr : RowB w v bs) (hlen : bs.length ≤ 1000000) :
    Calls Tryd.prog 132 #[.int .u32 s, v] w fun e w' => e = .returned (.int .u32 (cmore s bs)) ∧ Below w.heap.size w w' := by
  obtain ⟨a, c, rfl, -, -⟩ := hr.gen.shape
  have HT := Lib.hid (table_any w)
  have hsi : (s : Int) ≤ 4294967295 := by omega
  have HSL := Lib.hid hs
  clear hs
  go_enter Tryd.func132, Tryd.ntmps132
  go_wp2_with fail
  refine HT.out.mono ?_
  rintro e w1 ⟨rfl, hb1⟩
  have hr1 := hr.stays hb1
  obtain ⟨C, hC⟩ : ∃ C, C = (tabv 16).map U32 := ⟨_, rfl⟩
  have hlen16 : C.length = 16 := by rw [hC]; rfl
  have hone : ∀ v ∈ C, v.oneCell' = true := fun v hv => by
    rw [hC] at hv; obtain ⟨x, _, rfl⟩ := List.mem_map.1 hv; rfl
  rw [← hC]
  obtain ⟨w2, hST, hR, hb2⟩ := store16 w1 C hlen16 hone
  unfold z16 at hST
  have hr2 := hr1.stays hb2
  have hbe2 := hb1.trans (hb2.mono hb1.size)
  have hCT : ∀ i, i < 16 → w2.cell? ⟨w1.heap.size, i, none⟩ = some (.int .u32 (citer 4 i : Nat)) := fun i hi => by
    have := hR i (U32 (citer 4 i)) (by rw [hC, List.getElem?_map, tabv_get hi]; rfl)
    rw [Nat.zero_add] at this
    exact this
  have HCT := Lib.hid hCT
  obtain ⟨hin⟩ : Nonempty (∀ (j : Nat) (x : UInt8), bs[j]? = some x → ∃ b o, a = some ⟨b, o, none⟩ ∧ w2.cell? ⟨b, o + j, none⟩ = some (BV x)) := by
    obtain ⟨a', c', h, _, hin⟩ := hr2.gen.shape
    cases h
    exact ⟨hin⟩
  have HI := Lib.hid hin
  have HL := Lib.hid hlen16
  clear HT hr hC hlen16 hone hr1 hr2 hR hCT hb1 hb2 hin
  obtain ⟨N, hN⟩ : ∃ N, N = cnot s := ⟨_, rfl⟩
  have hxs : bits .xor .u32 IntKind.u32.max (s : Int) = (N : Int) := by rw [hN]; exact cnot_max s HSL.out
  have hNl : Hid (N < 4294967296) := by show _ < _; rw [hN]; exact cnot_lt HSL.out
  have HN := Lib.hid hN
  have hsg : IntKind.u32.signed = false := rfl
  clear hN
  go_wp2_with fail
  clear hST hxs
  go_loopw [6, 14] (fun x i wr => ∃ k : Nat, k ≤ bs.length ∧ i = .int .i64 k ∧ x = .int .u32 (cfold N (bs.take k)) ∧ w2 = wr) (fun _ i _ => bs.length - (intOf i).toNat)
  case atStart => exact ⟨0, Nat.zero_le _, rfl, rfl, rfl⟩
  case round =>
    obtain ⟨k, hk, rfl, rfl, rfl⟩ := hrel
    have hcl := cfold_lt hNl.out (bs.take k)
    by_cases hlt : k < bs.length
    · obtain ⟨y, hx⟩ : ∃ y, bs[k]? = some y := ⟨_, List.getElem?_eq_getElem hlt⟩
      obtain ⟨b, o, rfl, hcx⟩ := HI.out k y hx
      rw [BV_def] at hcx
      have hst := Lib.hid (cfold_take (x := N) hx)
      obtain ⟨X, hX⟩ : ∃ X, X = cfold N (bs.take k) := ⟨_, rfl⟩
      rw [← hX] at hcl ⊢
      have HX := Lib.hid hX
      have hy := y.toNat_lt
      have hyi : (y.toNat : Int) ≤ 255 := by omega
      have hxi : (X : Int) ≤ 4294967295 := by omega
      obtain ⟨Z, hZ⟩ : ∃ Z, Z = X ^^^ y.toNat := ⟨_, rfl⟩
      have hZl : Z < 4294967296 := by rw [hZ]; exact Nat.xor_lt_two_pow (n := 32) hcl (by omega)
      have hxo : bits .xor .u32 (X : Int) (y.toNat : Int) = (Z : Int) := by rw [hZ]; exact crc_xor X y.toNat hcl (by omega)
      obtain ⟨T1, Y1, hT1, hY1, hT1l, hY1l, hb1⟩ := crow Z hZl
      obtain ⟨T2, Y2, hT2, hY2, hT2l, hY2l, hb2⟩ := crow Y1 hY1l
      have hfin : Hid (cfold N (bs.take (k + 1)) = Y2) := by
        show _ = _
        rw [hst.out, ← HX.out]
        unfold cbyte
        rw [← hZ, show 8 = 4 + 4 from rfl, citer_add, ← hY1, ← hY2]
      have c1 := HCT.out (Z % 16) (by omega)
      have c2 := HCT.out (Y1 % 16) (by omega)
      rw [← hT1] at c1
      rw [← hT2] at c2
      obtain ⟨q1, hq1⟩ : ∃ q, q = Z % 16 := ⟨_, rfl⟩
      obtain ⟨q2, hq2⟩ : ∃ q, q = Y1 % 16 := ⟨_, rfl⟩
      obtain ⟨d1, hd1⟩ : ∃ d, d = Z / 16 := ⟨_, rfl⟩
      obtain ⟨d2, hd2⟩ : ∃ d, d = Y1 / 16 := ⟨_, rfl⟩
      rw [← hq1] at c1
      rw [← hq2] at c2
      rw [← hd1] at hb1
      rw [← hd2] at hb2
      have r1 : (Z : Int) % 16 = (q1 : Int) := by omega
      have r2 : (Y1 : Int) % 16 = (q2 : Int) := by omega
      have r3 : (Z : Int) / 16 = (d1 : Int) := by omega
      have r4 : (Y1 : Int) / 16 = (d2 : Int) := by omega
      have hq1l : (q1 : Int) < 16 := by omega
      have hq2l : (q2 : Int) < 16 := by omega
      have hZi : (Z : Int) ≤ 4294967295 := by omega
      have hYi : (Y1 : Int) ≤ 4294967295 := by omega
      have hd1i : (d1 : Int) ≤ 268435455 := by omega
      have hd2i : (d2 : Int) ≤ 268435455 := by omega
      clear hx hX hZ hZl hcl hy hT1 hY1 hT1l hY1l hT2 hY2 hT2l hY2l hq1 hq2 hd1 hd2 HX hst
      go_wp2_with fail
      go_roundw
      case rel => exact ⟨k + 1, by omega, by go_num, vint (by rw [hfin.out]), trivial⟩
      case measure => simp [intOf]; omega
    · obtain rfl : k = bs.length := by omega
      rw [List.take_length] at hcl ⊢
      obtain ⟨X, hX⟩ : ∃ X, X = cfold N bs := ⟨_, rfl⟩
      rw [← hX] at hcl ⊢
      obtain ⟨D, hD⟩ : ∃ D, D = cnot X := ⟨_, rfl⟩
      have hxo : bits .xor .u32 IntKind.u32.max (X : Int) = (D : Int) := by rw [hD]; exact cnot_max X hcl
      have hxi : (X : Int) ≤ 4294967295 := by omega
      have hcs : Hid (cmore s bs = D) := by show _ = _; rw [hD, hX, HN.out]; rfl
      clear hX hD hcl
      go_wp2_with fail
      go_ret
      exact ⟨ret1 (vint (by rw [hcs.out])), hbe2⟩
set_option maxRecDepth 100000 in
/-- crc.Sum: of all parts -/
theorem csum_any (v : Value) (ps : List (Value × List UInt8)) (w : World) (hr : RowL Prod.fst w v ps) (hp : ∀ p ∈ ps, RowB w p.1 p.2) (hlen : ∀ p ∈ ps, p.2.length ≤ 1000000) (hpl : ps.length ≤ 1000000) :
    Calls Tryd.prog 114 #[v] w fun e w' => e = .returned (.int .u32 (csum (joined ps))) ∧ Below w.heap.size w w' := by
  obtain ⟨a, c, rfl, _, hin⟩ := hr.shape
  clear hr
  have HI := Lib.hid hin
  have HP := Lib.hid hp
  have HL := Lib.hid hlen
  clear hin hp hlen
  go_enter Tryd.func114, Tryd.ntmps114
  go_wp2_with fail
  go_loopw [3, 8] (fun x i wr => ∃ k : Nat, k ≤ ps.length ∧ i = .int .i64 k ∧ x = .int .u32 (csum (joined (ps.take k))) ∧ Below w.heap.size w wr) (fun _ i _ => ps.length - (intOf i).toNat)
  case atStart => exact ⟨0, Nat.zero_le _, rfl, vint (by rw [show csum (joined (ps.take 0)) = 0 from by rw [List.take_zero]; exact cnot_cnot 0]; rfl), Below.refl _ _⟩
  case round =>
    obtain ⟨k, hk, rfl, rfl, hbe⟩ := hrel
    by_cases hlt : k < ps.length
    · obtain ⟨p, hx⟩ : ∃ p, ps[k]? = some p := ⟨_, List.getElem?_eq_getElem hlt⟩
      obtain ⟨b, o, rfl, hcx⟩ := HI.out k p hx
      have hcx' : wr.cell? ⟨b, o + k, none⟩ = some p.1 := (hbe.cell (p := ⟨b, o + k, none⟩) (World.block_lt_of_cell? w ⟨b, o + k, none⟩ hcx)).trans hcx
      have hrp := (HP.out p (List.mem_of_getElem? hx)).stays hbe
      have hM := Lib.hid (more_any (csum (joined (ps.take k))) p.1 p.2 wr (csum_lt _) hrp (HL.out p (List.mem_of_getElem? hx)))
      have hj : Hid (cmore (csum (joined (ps.take k))) p.2 = csum (joined (ps.take (k + 1)))) := by
        show _ = _
        rw [joined_take ps k hx]
        exact cmore_append 0 _ _
      have hsl := csum_lt (joined (ps.take k))
      obtain ⟨S, hS⟩ : ∃ S, S = csum (joined (ps.take k)) := ⟨_, rfl⟩
      rw [← hS] at hM hj hsl ⊢
      have hSi : (S : Int) ≤ 4294967295 := by omega
      clear hS hsl hx hcx hrp
      go_wp2_with fail
      refine hM.out.mono ?_
      rintro e w1 ⟨rfl, hb1⟩
      have hbe1 := hbe.trans (hb1.mono hbe.size)
      clear hM hb1 hbe hcx'
      go_wp2_with fail
      go_roundw
      case rel => exact ⟨k + 1, by omega, by go_num, vint (by rw [hj.out]), hbe1⟩
      case measure => simp [intOf]; omega
    · obtain rfl : k = ps.length := by omega
      go_wp2_with fail
      go_ret
      exact ⟨ret1 (vint (by rw [List.take_length])), hbe⟩
end Go.Proofs.YtgehbabcpmkgaaaDoor
