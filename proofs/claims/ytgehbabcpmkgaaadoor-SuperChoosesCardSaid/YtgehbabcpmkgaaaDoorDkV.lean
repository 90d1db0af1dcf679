/- super.Choose, walked. -/
import Derived.Test.YtgehbabcpmkgaaaDoorDkU
import Derived.Deep.CutBlock
import Derived.Deep.DeepCutAuto
namespace Go.Proofs.YtgehbabcpmkgaaaDoor
open Go Go.RowKit
set_option linter.unusedVariables false
theorem supB_le (bs : List UInt8) (k : Nat) : supB bs k ≤ 4294967295 := by
  unfold supB; split
  · exact num4_le _ _
  · exact Nat.zero_le _
theorem bO_le (d : Dm) (o : Option Nat) (k : Nat) : bO d o k ≤ 4294967295 := by
  cases o with
  | none => exact Nat.zero_le _
  | some j => exact supB_le _ _
theorem bestN_yes {d : Dm} {k : Nat} (h : supK (getV d (k : Int)) = 0) (h2 : bO d (bestN d k) 4 < supB (getV d (k : Int)) 4) : bestN d (k + 1) = some k := if_pos ⟨h, h2⟩
theorem bestN_no {d : Dm} {k : Nat} (h : ¬ (supK (getV d (k : Int)) = 0 ∧ bO d (bestN d k) 4 < supB (getV d (k : Int)) 4)) : bestN d (k + 1) = bestN d k := if_neg h
theorem Chose.good {ea : Nat → Addr} {d : Dm} {w w' : World} (hk : chK d = 0) (j : Nat) (hj : bestN d 2 = some j) (hb : Below w.heap.size w w') (n0 n1 n2 n3 : Nat) (h0 : n0 = bO d (bestN d 2) 4) (h1 : n1 = bO d (bestN d 2) 8) (h2 : n2 = bO d (bestN d 2) 12) (h3 : n3 = bO d (bestN d 2) 16) :
    Chose ea d w (.returned (.tuple #[.agg #[.int .u32 n0, .int .u32 n1, .int .i64 n2, .int .i64 n3], .int .i64 j, .nilIface])) w' := by
  refine ⟨?_, hb⟩
  unfold blkV chB chS
  rw [if_pos hk, if_pos hk, if_pos hk, if_pos hk, if_pos hk, hk, ← h0, ← h1, ← h2, ← h3, hj]; rfl
set_option maxRecDepth 100000 in
set_option maxHeartbeats 8000000 in
theorem schoose_any (ea : Nat → Addr) {w : World} {g gd gm : Nat} {d : Dm} (hk : Dk w g gd gm d) (hE : ∀ W, Below w.heap.size w W → ErrsSup ea W) :
    Calls Tryd.prog 57 #[.pointer (some ⟨g, 0, none⟩)] w (Chose ea d w) := by
  have hb0 : Below w.heap.size w (w.alloc (.cells #[.int .u32 0, .int .u32 0, .int .i64 0, .int .i64 0] 51)) := (Below.refl _ _).alloc (Nat.le_refl _) _
  have hc0 := CellsAt.new w #[.int .u32 0, .int .u32 0, .int .i64 0, .int .i64 0] 51
  have HSC := Lib.hid (sectors_get (hk.stays hb0))
  have HKD : Hid (∀ W, Below w.heap.size w W → Dk W g gd gm d) := fun W hW => hk.stays hW
  have HE := Lib.hid hE
  have hsz := hk.ok.size
  have HOK := Lib.hid hk.ok
  by_cases hlen : d.dur.length < 8
  · have HK1 : Hid (chK d = 1) := if_pos hlen
    have hE1 := (hE _ hb0).e1
    have hn1 := hE1.lt
    have hE1' := hE1
    unfold ErrAt at hE1'
    have hne : (w.heap.size == 2) = false := by have := (hE w (Below.refl _ _)).e1.lt; simp; omega
    have hn := (hE w (Below.refl _ _)).e1.lt
    have HB0 := Lib.hid hb0
    have c0 := hc0.cell 0 (v := .int .u32 0) rfl
    have c1 := hc0.cell 1 (v := .int .u32 0) rfl
    have c2 := hc0.cell 2 (v := .int .i64 0) rfl
    have c3 := hc0.cell 3 (v := .int .i64 0) rfl
    have f0 := hc0.free 0
    have f1 := hc0.free 1
    have f2 := hc0.free 2
    have f3 := hc0.free 3
    have hli : (d.dur.length : Int) < 8 := by omega
    clear hk hE hb0 hc0 hE1 hn1
    go_enter Tryd.func57, Tryd.ntmps57
    go_wp2_with fail
    refine HSC.out.mono ?_
    rintro e w1 ⟨rfl, rfl⟩
    go_wp2_with fail
    go_region
    all_goals go_wp2_with fail
    all_goals exact bodyPost_ret (v := .tuple #[.agg #[.int .u32 0, .int .u32 0, .int .i64 0, .int .i64 0], .int .i64 0, .iface 248 (.pointer (some (ea 1)))]) (by simp [results, Tryd.results57, go_sem, c0, c1, c2, c3]) rfl (Chose.bad 1 HK1.out (by decide) HB0.out.drew)
  · have hli : ¬ ((d.dur.length : Int) < 8) := by omega
    have hb1 : Below (w.alloc (.cells #[.int .u32 0, .int .u32 0, .int .i64 0, .int .i64 0] 51)).heap.size (w.alloc (.cells #[.int .u32 0, .int .u32 0, .int .i64 0, .int .i64 0] 51)) ((w.alloc (.cells #[.int .u32 0, .int .u32 0, .int .i64 0, .int .i64 0] 51)).alloc (.cells #[.int .u32 0, .int .u32 0, .int .i64 0, .int .i64 0] 51)) := (Below.refl _ _).alloc (Nat.le_refl _) _
    have hs1 : (w.alloc (.cells #[.int .u32 0, .int .u32 0, .int .i64 0, .int .i64 0] 51)).heap.size = w.heap.size + 1 := by simp
    have hcB := CellsAt.new (w.alloc (.cells #[.int .u32 0, .int .u32 0, .int .i64 0, .int .i64 0] 51)) #[.int .u32 0, .int .u32 0, .int .i64 0, .int .i64 0] 51
    rw [hs1] at hcB
    have hc1 := hc0.stays hb1
    have hbe1 := hb0.trans (hb1.mono hb0.size)
    have HC1 := Lib.hid hc1
    have HCB := Lib.hid hcB
    have HBE1 := Lib.hid hbe1
    have HLEN := Lib.hid hlen
    clear hk hE hb0 hb1 hs1 hc0 hcB hc1 hbe1 hlen
    go_enter Tryd.func57, Tryd.ntmps57
    go_wp2_with fail
    refine HSC.out.mono ?_
    rintro e w1 ⟨rfl, rfl⟩
    clear HSC
    go_wp2_with fail
    go_loopw [23, 6] (fun i at' wr => ∃ k : Nat, k ≤ 2 ∧ (d.fuse = 0 → k = 0) ∧ i = .int .i64 k ∧ at' = .int .i64 (atO (bestN d k)) ∧ CellsAt wr w.heap.size 51 #[.int .u32 0, .int .u32 0, .int .i64 0, .int .i64 0] ∧ CellsAt wr (w.heap.size + 1) 51 #[.int .u32 (bO d (bestN d k) 4), .int .u32 (bO d (bestN d k) 8), .int .i64 (bO d (bestN d k) 12), .int .i64 (bO d (bestN d k) 16)] ∧ Below w.heap.size w wr) (fun i _ _ => 2 - (intOf i).toNat)
    case atStart => exact ⟨0, Nat.zero_le _, fun _ => rfl, rfl, rfl, HC1.out, HCB.out, HBE1.out⟩
    case round =>
      clear HC1 HCB HBE1
      obtain ⟨k, hk2, hfk, rfl, rfl, hcA, hcB, hbe⟩ := hrel
      by_cases hlt : k < 2
      · have hE := HE.out wr hbe
        have hR := read_any ea (HKD.out wr hbe) (x := (k : Int)) (by omega) (by omega) hE.e1 hE.e17
        by_cases hf : d.fuse = 0
        · have hrk : readK d (k : Int) = 17 := readK_power ⟨by omega, by have := HLEN.out; omega⟩ hf
          rw [hrk, EV_pos ea (by decide)] at hR
          have HR := Lib.hid hR
          have HK17 : Hid (chK d = 17) := by show _ = _; unfold chK; rw [if_neg HLEN.out, if_pos hf]
          have HCA := Lib.hid hcA
          clear hE hR hrk hf hcA hcB
          go_wp2_with fail
          refine HR.out.mono ?_
          rintro e w3 ⟨v3, rfl, -, hb3⟩
          have hbe3 := hbe.trans (hb3.mono hbe.size)
          have hcA3 := HCA.out.stays hb3
          have c0 := hcA3.cell 0 (v := .int .u32 0) rfl
          have c1 := hcA3.cell 1 (v := .int .u32 0) rfl
          have c2 := hcA3.cell 2 (v := .int .i64 0) rfl
          have c3 := hcA3.cell 3 (v := .int .i64 0) rfl
          have f0 := hcA3.free 0
          have f1 := hcA3.free 1
          have f2 := hcA3.free 2
          have f3 := hcA3.free 3
          have hlt3 := hcA3.lt
          clear HR hb3 hcA3
          go_wp2_with fail
          exact bodyPost_ret (v := .tuple #[.agg #[.int .u32 0, .int .u32 0, .int .i64 0, .int .i64 0], .int .i64 0, .iface 248 (.pointer (some (ea 17)))]) (by simp [results, Tryd.results57, go_sem, c0, c1, c2, c3]) rfl (Chose.bad 17 HK17.out (by decide) ((((hbe3.setCell (Nat.le_refl _) _).setCell (Nat.le_refl _) _).setCell (Nat.le_refl _) _).setCell (Nat.le_refl _) _))
        · have hrk : readK d (k : Int) = 0 := readK_of ⟨by omega, by have := HLEN.out; omega⟩ hf
          have hrv : readV d (k : Int) = getV d (k : Int) := by unfold readV; rw [if_pos hrk]
          rw [hrk, hrv, EV_zero] at hR
          have hXl := HOK.out.get (k : Int)
          have hby := fun h1 h2 => bestN_yes (d := d) (k := k) h1 h2
          have hbn := fun h => bestN_no (d := d) (k := k) h
          have hbk : ∀ c, bO d (some k) c = supB (getV d (k : Int)) c := fun c => rfl
          obtain ⟨X, hX⟩ : ∃ X, X = getV d (k : Int) := ⟨_, rfl⟩
          rw [← hX] at hR hXl
          simp only [← hX] at hby hbn hbk
          have l0 := supB_le X 4
          have l1 := supB_le X 8
          have l2 := supB_le X 12
          have l3 := supB_le X 16
          have m0 := bO_le d (bestN d k) 4
          have m1 := bO_le d (bestN d k) 8
          have m2 := bO_le d (bestN d k) 12
          have m3 := bO_le d (bestN d k) 16
          have HR := Lib.hid hR
          have HP : Hid (∀ (v : Value) (W : World), Below w.heap.size w W → RowB W v X → Calls Tryd.prog 38 #[v] W fun e w' => e = .returned (.tuple #[.agg #[.int .u32 (supB X 4), .int .u32 (supB X 8), .int .i64 (supB X 12), .int .i64 (supB X 16)], EV ea (supK X)]) ∧ Below W.heap.size W w') := fun v W hW hr => sParse_long ea v X W hr (by omega) (by omega) (HE.out W hW).e1 (HE.out W hW).e2 (HE.out W hW).e9 (HE.out W hW).e18
          have HBY := Lib.hid hby
          have HBN := Lib.hid hbn
          have HBK := Lib.hid hbk
          obtain ⟨o, ho⟩ : ∃ o, o = bestN d k := ⟨_, rfl⟩
          rw [← ho] at hcB m0 m1 m2 m3
          have HO := Lib.hid ho
          rw [← ho]
          have HCA := Lib.hid hcA
          have HCB := Lib.hid hcB
          have HF : Hid (¬ d.fuse = 0) := hf
          clear hE hR hrk hrv hXl hX hby hbn hbk hcA hcB hf ho hfk
          generalize hn0 : supB X 4 = n0 at *
          generalize hn1 : supB X 8 = n1 at *
          generalize hn2 : supB X 12 = n2 at *
          generalize hn3 : supB X 16 = n3 at *
          have HN : Hid (supB X 4 = n0 ∧ supB X 8 = n1 ∧ supB X 12 = n2 ∧ supB X 16 = n3) := ⟨hn0, hn1, hn2, hn3⟩
          obtain ⟨p0, hp0⟩ : ∃ p, p = bO d o 4 := ⟨_, rfl⟩
          obtain ⟨p1, hp1⟩ : ∃ p, p = bO d o 8 := ⟨_, rfl⟩
          obtain ⟨p2, hp2⟩ : ∃ p, p = bO d o 12 := ⟨_, rfl⟩
          obtain ⟨p3, hp3⟩ : ∃ p, p = bO d o 16 := ⟨_, rfl⟩
          rw [← hp0, ← hp1, ← hp2, ← hp3] at HCB
          rw [← hp0] at m0
          have HPP : Hid (p0 = bO d o 4 ∧ p1 = bO d o 8 ∧ p2 = bO d o 12 ∧ p3 = bO d o 16) := ⟨hp0, hp1, hp2, hp3⟩
          clear hn0 hn1 hn2 hn3 hp0 hp1 hp2 hp3
          go_wp2_with fail
          refine HR.out.mono ?_
          rintro e w3 ⟨v3, rfl, ho3, hb3⟩
          have hbe3 := hbe.trans (hb3.mono hbe.size)
          have HPv := Lib.hid (HP.out v3 w3 hbe3 ho3.row)
          have hcA3 := HCA.out.stays hb3
          have hcB3 := HCB.out.stays hb3
          clear HR HP ho3 hb3 HCA HCB hbe
          by_cases hsk : supK X = 0
          · rw [hsk, EV_zero] at HPv
            have HSK := Lib.hid hsk
            by_cases hgt : p0 < n0
            · have hgi : (n0 : Int) > p0 := by omega
              have hB1 := HBY.out hsk (by rw [← HO.out, ← HPP.out.1]; exact hgt)
              have HB1 := Lib.hid hB1
              clear hsk hgt hB1 HBY HBN
              go_wp2_with fail
              refine HPv.out.mono ?_
              rintro e w4 ⟨rfl, hb4⟩
              have hbe4 := hbe3.trans (hb4.mono hbe3.size)
              have hcA4 := hcA3.stays hb4
              have hcB4 := hcB3.stays hb4
              have b0 := hcB4.cell 0 (v := .int .u32 p0) rfl
              have b1 := hcB4.cell 1 (v := .int .u32 p1) rfl
              have b2 := hcB4.cell 2 (v := .int .i64 p2) rfl
              have b3 := hcB4.cell 3 (v := .int .i64 p3) rfl
              have fb0 := hcB4.free 0
              have fb1 := hcB4.free 1
              have fb2 := hcB4.free 2
              have fb3 := hcB4.free 3
              have hlB := hcB4.lt
              obtain ⟨W5, hW5⟩ : ∃ W, W = (((w4.setCell ⟨w.heap.size + 1, 0, none⟩ (.int .u32 n0)).setCell ⟨w.heap.size + 1, 1, none⟩ (.int .u32 n1)).setCell ⟨w.heap.size + 1, 2, none⟩ (.int .i64 n2)).setCell ⟨w.heap.size + 1, 3, none⟩ (.int .i64 n3) := ⟨_, rfl⟩
              have hG5 : Grew [w.heap.size + 1] w4 W5 := by
                rw [hW5]
                exact ((((Grew.refl [w.heap.size + 1] w4).setCell (p := ⟨w.heap.size + 1, 0, none⟩) (.inl (by simp)) _).setCell (p := ⟨w.heap.size + 1, 1, none⟩) (.inl (by simp)) _).setCell (p := ⟨w.heap.size + 1, 2, none⟩) (.inl (by simp)) _).setCell (p := ⟨w.heap.size + 1, 3, none⟩) (.inl (by simp)) _
              have hbe5 : Below w.heap.size w W5 := hG5.below hbe4 (by simp) hbe4.size
              have hcA5 := hcA4.grew hG5 (by simp)
              have hcB5 : CellsAt W5 (w.heap.size + 1) 51 #[.int .u32 n0, .int .u32 n1, .int .i64 n2, .int .i64 n3] := by
                rw [hW5]
                have h5 := (((hcB4.set 0 (.int .u32 n0)).set 1 (.int .u32 n1)).set 2 (.int .i64 n2)).set 3 (.int .i64 n3)
                simpa using h5
              have hbA : Below W5.heap.size W5 (W5.alloc (.cells #[.int .u32 n0, .int .u32 n1, .int .i64 n2, .int .i64 n3] 51)) := (Below.refl _ _).alloc (Nat.le_refl _) _
              have HbeA := Lib.hid (hbe5.trans (hbA.mono hbe5.size))
              have HcAA := Lib.hid (hcA5.stays hbA)
              have HcBA := Lib.hid (hcB5.stays hbA)
              rw [hW5] at HbeA HcAA HcBA
              clear hb4 hcA4 hcB4 hbA hbe4 hcA3 hcB3 hbe3 HPv hW5 hG5 hbe5 hcA5 hcB5
              go_wp2_with fail
              go_roundw
              case rel =>
                exact ⟨k + 1, by omega, fun h => absurd h HF.out, by go_num, by rw [HB1.out]; rfl, HcAA.out, by rw [HB1.out, HBK.out, HBK.out, HBK.out, HBK.out, HN.out.1, HN.out.2.1, HN.out.2.2.1, HN.out.2.2.2]; exact HcBA.out, HbeA.out⟩
              case measure => simp [intOf]; omega
            · have hgi : ¬ ((n0 : Int) > p0) := by omega
              have hB1 := HBN.out (fun h => hgt (by have := h.2; rw [← HO.out, ← HPP.out.1] at this; exact this))
              have HB1 := Lib.hid hB1
              clear hsk hgt hB1 HBY HBN
              go_wp2_with fail
              refine HPv.out.mono ?_
              rintro e w4 ⟨rfl, hb4⟩
              have hbe4 := hbe3.trans (hb4.mono hbe3.size)
              have hcA4 := hcA3.stays hb4
              have hcB4 := hcB3.stays hb4
              have b0 := hcB4.cell 0 (v := .int .u32 p0) rfl
              have hlB := hcB4.lt
              have hbA : Below w4.heap.size w4 (w4.alloc (.cells #[.int .u32 n0, .int .u32 n1, .int .i64 n2, .int .i64 n3] 51)) := (Below.refl _ _).alloc (Nat.le_refl _) _
              have HbeA := Lib.hid (hbe4.trans (hbA.mono hbe4.size))
              have HcAA := Lib.hid (hcA4.stays hbA)
              have HcBA := Lib.hid (hcB4.stays hbA)
              clear hb4 hcA4 hcB4 hbA hbe4 hcA3 hcB3 hbe3 HPv
              go_wp2_with fail
              go_roundw
              case rel => exact ⟨k + 1, by omega, fun h => absurd h HF.out, by go_num, by rw [HB1.out, HO.out], HcAA.out, by rw [HB1.out, ← HO.out, ← HPP.out.1, ← HPP.out.2.1, ← HPP.out.2.2.1, ← HPP.out.2.2.2]; exact HcBA.out, HbeA.out⟩
              case measure => simp [intOf]; omega
          · rw [EV_pos ea hsk] at HPv
            have hB1 := HBN.out (fun h => hsk h.1)
            have HB1 := Lib.hid hB1
            clear hsk hB1 HBY HBN
            go_wp2_with fail
            refine HPv.out.mono ?_
            rintro e w4 ⟨rfl, hb4⟩
            have hbe4 := hbe3.trans (hb4.mono hbe3.size)
            have hcA4 := hcA3.stays hb4
            have hcB4 := hcB3.stays hb4
            have hbA : Below w4.heap.size w4 (w4.alloc (.cells #[.int .u32 n0, .int .u32 n1, .int .i64 n2, .int .i64 n3] 51)) := (Below.refl _ _).alloc (Nat.le_refl _) _
            have HbeA := Lib.hid (hbe4.trans (hbA.mono hbe4.size))
            have HcAA := Lib.hid (hcA4.stays hbA)
            have HcBA := Lib.hid (hcB4.stays hbA)
            clear hb4 hcA4 hcB4 hbA hbe4 hcA3 hcB3 hbe3 HPv
            go_wp2_with fail
            go_roundw
            case rel => exact ⟨k + 1, by omega, fun h => absurd h HF.out, by go_num, by rw [HB1.out, HO.out], HcAA.out, by rw [HB1.out, ← HO.out, ← HPP.out.1, ← HPP.out.2.1, ← HPP.out.2.2.1, ← HPP.out.2.2.2]; exact HcBA.out, HbeA.out⟩
            case measure => simp [intOf]; omega
      · obtain rfl : k = 2 := by omega
        have c0 := hcA.cell 0 (v := .int .u32 0) rfl
        have c1 := hcA.cell 1 (v := .int .u32 0) rfl
        have c2 := hcA.cell 2 (v := .int .i64 0) rfl
        have c3 := hcA.cell 3 (v := .int .i64 0) rfl
        have f0 := hcA.free 0
        have f1 := hcA.free 1
        have f2 := hcA.free 2
        have f3 := hcA.free 3
        have hltA := hcA.lt
        by_cases hf : d.fuse = 0
        · exact absurd (hfk hf) (by decide)
        · cases hbn : bestN d 2 with
          | none =>
            have HK14 : Hid (chK d = 14) := by show _ = _; unfold chK; rw [if_neg HLEN.out, if_neg hf, if_pos hbn]
            have hE14 := (HE.out wr hbe).e14
            have hn14 := (HE.out w (Below.refl _ _)).e14.lt
            have hne : (w.heap.size == 5) = false := by simp; omega
            unfold ErrAt at hE14
            have hat : atO none = -1 := rfl
            rw [hat]
            clear hcA hcB hf hbn
            go_wp2_with fail
            go_region
            all_goals go_wp2_with fail
            all_goals exact bodyPost_ret (v := .tuple #[.agg #[.int .u32 0, .int .u32 0, .int .i64 0, .int .i64 0], .int .i64 0, .iface 248 (.pointer (some (ea 14)))]) (by simp [results, Tryd.results57, go_sem, c0, c1, c2, c3]) rfl (Chose.bad 14 HK14.out (by decide) (((((hbe.setCell (Nat.le_refl _) _).setCell (Nat.le_refl _) _).setCell (Nat.le_refl _) _).setCell (Nat.le_refl _) _).drew))
          | some j =>
            have HK0 : Hid (chK d = 0) := by show _ = _; unfold chK; rw [if_neg HLEN.out, if_neg hf, if_neg (by rw [hbn]; simp)]
            rw [← hbn] 
            have hBN := hbn
            have m0 := bO_le d (bestN d 2) 4
            have m1 := bO_le d (bestN d 2) 8
            obtain ⟨p0, hp0⟩ : ∃ p, p = bO d (bestN d 2) 4 := ⟨_, rfl⟩
            obtain ⟨p1, hp1⟩ : ∃ p, p = bO d (bestN d 2) 8 := ⟨_, rfl⟩
            obtain ⟨p2, hp2⟩ : ∃ p, p = bO d (bestN d 2) 12 := ⟨_, rfl⟩
            obtain ⟨p3, hp3⟩ : ∃ p, p = bO d (bestN d 2) 16 := ⟨_, rfl⟩
            rw [← hp0, ← hp1, ← hp2, ← hp3] at hcB
            have b0 := hcB.cell 0 (v := .int .u32 p0) rfl
            have b1 := hcB.cell 1 (v := .int .u32 p1) rfl
            have b2 := hcB.cell 2 (v := .int .i64 p2) rfl
            have b3 := hcB.cell 3 (v := .int .i64 p3) rfl
            have hat : atO (bestN d 2) = (j : Int) := by rw [hbn]; rfl
            rw [hat]
            have hpost := fun W (hW : Below w.heap.size w W) => Chose.good (ea := ea) (w' := W) HK0.out j hbn hW p0 p1 p2 p3 hp0 hp1 hp2 hp3
            have HPO := Lib.hid hpost
            clear hcA hcB hf hbn hBN hat hp0 hp1 hp2 hp3 hpost m0 m1
            go_wp2_with fail
            exact bodyPost_ret (v := .tuple #[.agg #[.int .u32 p0, .int .u32 p1, .int .i64 p2, .int .i64 p3], .int .i64 j, .nilIface]) (by simp [results, Tryd.results57, go_sem, c0, c1, c2, c3]) rfl (HPO.out _ ((((hbe.setCell (Nat.le_refl _) _).setCell (Nat.le_refl _) _).setCell (Nat.le_refl _) _).setCell (Nat.le_refl _) _))
end Go.Proofs.YtgehbabcpmkgaaaDoor
