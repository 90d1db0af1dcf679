/- crc.table, crc.More, crc.Sum. -/
import Derived.Test.YtgehbabcpmkgaaaDoorCrcR
import Derived.Test.YtgehbabcpmkgaaaDoorJoin
import Derived.Deep.MidRow
import Derived.Lib.EndianMore
import Derived.Lib.EndianMore
import Derived.Lib.EndianMore
import Derived.Lib.EndianMore
import Derived.Lib.EndianMore
namespace Go.Proofs.YtgehbabcpmkgaaaDoor
open Go Go.RowKit
set_option linter.unusedVariables false
/-- the row of sixteen -/
def U32 (n : Nat) : Value := .int .u32 (n : Int)
def tabv (k : Nat) : List Nat := (List.range k).map (citer 4)
theorem tabv_snoc (k : Nat) : tabv (k + 1) = tabv k ++ [citer 4 k] := by simp [tabv, List.range_succ]
theorem tabv_len (k : Nat) : (tabv k).length = k := by simp [tabv]
def tabz (k : Nat) : List Nat := tabv k ++ List.replicate (16 - k) 0
theorem tabz_len {k : Nat} (h : k ≤ 16) : (tabz k).length = 16 := by simp [tabz, tabv_len]; omega
theorem tabz_set {k : Nat} (h : k < 16) : (tabz k).set k (citer 4 k) = tabz (k + 1) := by
  unfold tabz
  rw [tabv_snoc, List.set_append_right _ _ (by rw [tabv_len]; exact Nat.le_refl _), tabv_len, Nat.sub_self, show 16 - k = (16 - (k + 1)) + 1 from by omega, List.replicate_succ, List.set_cons_zero]
  simp
theorem cstep_and (J : Nat) (h : J < 4294967296) : bits .and .u32 (J : Int) 1 = ((J % 2 : Nat) : Int) := by
  have := u32_and_nat J 1 h (by decide)
  rw [Nat.and_one_is_mod] at this
  exact this
set_option maxRecDepth 100000 in
set_option maxHeartbeats 1000000 in
theorem table_any (w : World) :
    Calls Tryd.prog 143 #[] w fun e w' => e = .returned (.agg ((tabv 16).map U32).toArray) ∧ Below w.heap.size w w' := by
  go_enter Tryd.func143, Tryd.ntmps143
  go_wp2_with fail
  obtain ⟨w2, hw2⟩ : ∃ w2, w2 = (w.alloc (.cells ((tabz 0).map U32).toArray 246)).alloc (.cells ((tabz 0).map U32).toArray 246) := ⟨_, rfl⟩
  have hz : ((tabz 0).map U32).toArray = #[.int .u32 0, .int .u32 0, .int .u32 0, .int .u32 0, .int .u32 0, .int .u32 0, .int .u32 0, .int .u32 0, .int .u32 0, .int .u32 0, .int .u32 0, .int .u32 0, .int .u32 0, .int .u32 0, .int .u32 0, .int .u32 0] := by rfl
  have hct0 : CellsAt w2 w.heap.size 246 ((tabz 0).map U32).toArray := by
    rw [hw2]; exact (CellsAt.new w _ _).stays ((Below.refl _ _).alloc (Nat.le_refl _) _)
  have hct1 : CellsAt w2 (w.heap.size + 1) 246 ((tabz 0).map U32).toArray := by
    rw [hw2]
    have := CellsAt.new (w.alloc (.cells ((tabz 0).map U32).toArray 246)) ((tabz 0).map U32).toArray 246
    simpa using this
  have hbe : Below w.heap.size w w2 := by
    rw [hw2]; exact ((Below.refl _ _).alloc (Nat.le_refl _) _).alloc (((Below.refl w.heap.size w).alloc (Nat.le_refl _) _).size) _
  rw [hz] at hw2
  rw [← hw2]
  clear hw2 hz
  have HC0 := Lib.hid hct0
  clear hct0
  go_loopw [4] (fun i wr => ∃ k : Nat, k ≤ 16 ∧ i = .int .i64 k ∧ CellsAt wr w.heap.size 246 ((tabz 0).map U32).toArray ∧ CellsAt wr (w.heap.size + 1) 246 ((tabz k).map U32).toArray ∧ Below w.heap.size w wr) (fun i _ => 16 - (intOf i).toNat)
  case atStart => exact ⟨0, Nat.zero_le _, rfl, HC0.out, hct1, hbe⟩
  case round =>
    obtain ⟨k, hk, rfl, h0, h1, hb⟩ := hrel
    have H0 := Lib.hid h0
    have H1 := Lib.hid h1
    have HB := Lib.hid hb
    clear h0 h1 hb
    by_cases hlt : k < 16
    · go_wp2_with fail
      go_loopw [3, 9] (fun x i wr' => ∃ j : Nat, j ≤ 4 ∧ i = .int .i64 j ∧ x = .int .u32 (citer j k) ∧ wr = wr') (fun _ i _ => 4 - (intOf i).toNat)
      case atStart => exact ⟨0, Nat.zero_le _, rfl, rfl, rfl⟩
      case round =>
        obtain ⟨j, hj, rfl, rfl, rfl⟩ := hrel
        by_cases hlt4 : j < 4
        · have hcs := Lib.hid (citer_step j k)
          have hJl := citer_lt j (x := k) (by omega)
          obtain ⟨J, hJ⟩ : ∃ J, J = citer j k := ⟨_, rfl⟩
          rw [← hJ] at hJl ⊢
          have HJ := Lib.hid hJ
          have hJi : (J : Int) ≤ 4294967295 := by omega
          have hand := cstep_and J hJl
          clear hJ
          obtain ⟨E, hE⟩ : ∃ E, E = J / 2 := ⟨_, rfl⟩
          have t2 : (J : Int) / 2 = (E : Int) := by omega
          have hEi : (E : Int) ≤ 2147483647 := by omega
          by_cases hodd : J % 2 = 1
          · obtain ⟨D, hD⟩ : ∃ D, D = (J / 2) ^^^ 3988292384 := ⟨_, rfl⟩
            have hxj : bits .xor .u32 (E : Int) 3988292384 = (D : Int) := by rw [hD, hE]; exact crc_xor (J / 2) 3988292384 (by omega) (by decide)
            have hfin : Hid (citer (j + 1) k = D) := by show _ = _; rw [hcs.out, ← HJ.out, hD]; exact cstep_odd hodd
            rw [hodd] at hand
            have t1 : bits .and .u32 (J : Int) 1 = 1 := hand
            clear hD hodd hcs HJ hE hJl hand
            go_wp2_with fail
            go_roundw
            case rel => exact ⟨j + 1, by omega, by go_num, vint (by rw [hfin.out]), trivial⟩
            case measure => simp [intOf]; omega
          · have hfin : Hid (citer (j + 1) k = E) := by show _ = _; rw [hcs.out, ← HJ.out, hE]; exact cstep_even hodd
            have hev : J % 2 = 0 := by omega
            rw [hev] at hand
            have t1 : bits .and .u32 (J : Int) 1 = 0 := hand
            clear hodd hcs HJ hE hJl hand hev
            go_wp2_with fail
            go_roundw
            case rel => exact ⟨j + 1, by omega, by go_num, vint (by rw [hfin.out]), trivial⟩
            case measure => simp [intOf]; omega
        · obtain rfl : j = 4 := by omega
          have hx : ∃ x, ((tabz k).map U32).toArray[k]? = some x := ⟨_, by rw [List.getElem?_toArray]; exact List.getElem?_eq_getElem (by rw [List.length_map, tabz_len hk]; exact hlt)⟩
          obtain ⟨x, hx⟩ := hx
          have hcell := H1.out.cell k hx
          have hfz := H1.out.free k
          have hset := H1.out.set k (U32 (citer 4 k))
          have e : ((tabz k).map U32).toArray.setIfInBounds k (U32 (citer 4 k)) = ((tabz (k + 1)).map U32).toArray := by
            rw [← tabz_set hlt, List.map_set]; simp
          rw [e] at hset
          have HS := Lib.hid hset
          have HO := Lib.hid (H0.out.other ⟨w.heap.size + 1, k, none⟩ (by show w.heap.size ≠ w.heap.size + 1; omega) (U32 (citer 4 k)))
          have HBN := Lib.hid (HB.out.setCell (p := ⟨w.heap.size + 1, k, none⟩) (Nat.le_succ _) (U32 (citer 4 k)))
          clear hset e hx H0 H1 HB
          go_wp2_with fail
          go_roundw
          case rel => exact ⟨k + 1, by omega, by go_num, HO.out, HS.out, HBN.out⟩
          case measure => simp [intOf]; omega
    · obtain rfl : k = 16 := by omega
      obtain ⟨C, hC⟩ : ∃ C, C = (tabv 16).map U32 := ⟨_, rfl⟩
      have hlen : C.length = 16 := by rw [hC]; rfl
      have e : (tabz 16).map U32 = C := by rw [hC]; rfl
      have h1 := H1.out
      have h0 := H0.out
      rw [e] at h1
      have hR : wr.rangeAt (w.heap.size + 1) 0 C := fun j v hv => by
        rw [Nat.zero_add]; exact h1.cell j (by simpa using hv)
      have hT : wr.there w.heap.size 0 16 := fun j hj => by
        rw [Nat.zero_add]
        exact ⟨by rw [h0.cell j (v := .int .u32 0) (by
          have : ((tabz 0).map U32) = List.replicate 16 (.int .u32 0) := rfl
          rw [this, List.getElem?_toArray, List.getElem?_replicate, if_pos hj])]; rfl, h0.free j⟩
      have hone : ∀ v ∈ C, v.oneCell' = true := fun v hv => by
        rw [hC] at hv; obtain ⟨x, _, rfl⟩ := List.mem_map.1 hv; rfl
      have hsz : (Tryd.prog.info? 246).map (·.size) = some 16 := by kernel_rfl
      have hB := Lib.below_setCells_w (B := w.heap.size) (Nat.le_refl w.heap.size) C 0 wr
      have hRR := World.rangeAt_setCells_same wr w.heap.size 0 C (by rw [hlen]; exact hT)
      have hL := Lib.hid (run_loadVar_mid (P := Tryd.prog) _ w.heap.size 0 246 C _ hRR Tryd.underlying246 rfl (by rw [hlen]; exact hsz))
      have hBe := Lib.hid (HB.out.trans hB)
      have HR := Lib.hid hR
      have HT := Lib.hid hT
      have HO := Lib.hid hone
      have HSZ := Lib.hid hsz
      have HL := Lib.hid hlen
      have HC := Lib.hid hC
      clear h0 h1 hR hT hone hsz hB hRR hlen hC e H0 H1 HB
      have hST : (storeCells ⟨w.heap.size, 0, none⟩ C).run Tryd.prog wr = .ok () (wr.setCells w.heap.size 0 C) := by
        have := run_storeCells_cells (P := Tryd.prog) w.heap.size 0 C 0 wr (fun j hj => by simpa using (HT.out j (by rw [HL.out] at hj; exact hj)).1) (fun j hj => by simpa using (HT.out j (by rw [HL.out] at hj; exact hj)).2) HO.out
        simpa using this
      go_wp2_with (refine wpList_load_mid (op := ⟨some 24, _, _, _, _, _⟩) rfl _ _ rfl (w.heap.size + 1) 0 rfl C _ HR.out Tryd.underlying246 rfl (by rw [HL.out]; exact HSZ.out) ?_)
      have hL' := hL.out
      exact bodyPost_ret (v := .agg C.toArray) (by simp [results, Tryd.results143, asAddr, hL']) rfl ⟨by rw [HC.out], hBe.out⟩
end Go.Proofs.YtgehbabcpmkgaaaDoor
