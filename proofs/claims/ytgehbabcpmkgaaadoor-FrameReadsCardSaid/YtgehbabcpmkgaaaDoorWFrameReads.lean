/- The walk of FrameReads: which frames stand on every disk. -/
import Derived.Test.YtgehbabcpmkgaaaDoorDkJ
import Derived.Test.YtgehbabcpmkgaaaDoorDkY
import Derived.Test.YtgehbabcpmkgaaaDoorOpenI
import Derived.Test.YtgehbabcpmkgaaaDoorAlive32
import Derived.Deep.RegionHeld3
import Derived.Deep.CutBlock
import Derived.Deep.DeepCutAuto
import Derived.Deep.DrawnRows
namespace Go.Proofs.YtgehbabcpmkgaaaDoor
open Go Go.RowKit
set_option linter.unusedVariables false
set_option maxRecDepth 100000 in
set_option maxHeartbeats 8000000 in
theorem walkFrameReads (w : World) (vi : Value) (ps : List (Value × List UInt8)) (hri : RowL Prod.fst w vi ps) (hpi : ∀ p ∈ ps, RowB w p.1 p.2) (x y : Int) (hx : -9223372036854775808 ≤ x ∧ x ≤ 9223372036854775807) (hy : -9223372036854775808 ≤ y ∧ y ≤ 9223372036854775807) (l0 m0 : Int) (hl : 0 ≤ l0 ∧ l0 ≤ 4294967295) (hm : 0 ≤ m0 ∧ m0 ≤ 4294967295) (ea : Nat → Addr) (he : ErrsAll ea w) :
    Calls Tryd.prog 11 #[.agg #[vi], .agg #[.int .i64 x, .int .i64 y], .agg #[.int .u32 l0, .int .u32 m0]] w fun e w' => e = .returned (.bool true) ∧ Below w.heap.size w w' := by
  obtain ⟨l, rfl⟩ := Int.eq_ofNat_of_zero_le hl.1
  obtain ⟨m, rfl⟩ := Int.eq_ofNat_of_zero_le hm.1
  have hl2 : l ≤ 4294967295 := by omega
  have hm2 : m ≤ 4294967295 := by omega
  obtain ⟨hx1, hx2⟩ := hx
  obtain ⟨hy1, hy2⟩ := hy
  obtain ⟨a, c, rfl, -, -⟩ := hri.shape
  obtain ⟨W0, hW0⟩ : ∃ W, W = ((w.alloc (.cells #[.slice a ps.length c] 85)).alloc (.cells #[.int .i64 x, .int .i64 y] 119)).alloc (.cells #[.int .u32 l, .int .u32 m] 120) := ⟨_, rfl⟩
  have hb1 : Below w.heap.size w (w.alloc (.cells #[.slice a ps.length c] 85)) := (Below.refl _ _).alloc (Nat.le_refl _) _
  have hb2 : Below (w.alloc (.cells #[.slice a ps.length c] 85)).heap.size (w.alloc (.cells #[.slice a ps.length c] 85)) ((w.alloc (.cells #[.slice a ps.length c] 85)).alloc (.cells #[.int .i64 x, .int .i64 y] 119)) := (Below.refl _ _).alloc (Nat.le_refl _) _
  have hb3 : Below ((w.alloc (.cells #[.slice a ps.length c] 85)).alloc (.cells #[.int .i64 x, .int .i64 y] 119)).heap.size ((w.alloc (.cells #[.slice a ps.length c] 85)).alloc (.cells #[.int .i64 x, .int .i64 y] 119)) W0 := by rw [hW0]; exact (Below.refl _ _).alloc (Nat.le_refl _) _
  have hs1 : (w.alloc (.cells #[.slice a ps.length c] 85)).heap.size = w.heap.size + 1 := by simp
  have hs2 : ((w.alloc (.cells #[.slice a ps.length c] 85)).alloc (.cells #[.int .i64 x, .int .i64 y] 119)).heap.size = w.heap.size + 2 := by simp
  have hcI := ((CellsAt.new w #[.slice a ps.length c] 85).stays hb2).stays hb3
  have hcP := (CellsAt.new (w.alloc (.cells #[.slice a ps.length c] 85)) #[.int .i64 x, .int .i64 y] 119).stays hb3
  have hcG := CellsAt.new ((w.alloc (.cells #[.slice a ps.length c] 85)).alloc (.cells #[.int .i64 x, .int .i64 y] 119)) #[.int .u32 l, .int .u32 m] 120
  have hbA := hb1.trans ((hb2.trans (hb3.mono hb2.size)).mono hb1.size)
  rw [← hW0] at hcG
  rw [hs1] at hcP
  rw [hs2] at hcG
  have hA := alive32 ea W0 (he.stays hbA).e3
  rw [hW0] at hA
  have HA := Lib.hid hA
  have HW0 := Lib.hid hW0
  have HE : Hid (∀ w', Below w.heap.size w w' → ErrsAll ea w') := fun w' hb => he.stays hb
  have HRI : Hid (∀ w', Below w.heap.size w w' → RowL Prod.fst w' (.slice a ps.length c) ps) := fun w' hb => hri.stays hb
  have HPI : Hid (∀ w', Below w.heap.size w w' → ∀ p ∈ ps, RowB w' p.1 p.2) := fun w' hb p hq => (hpi p hq).stays hb
  clear he hri hpi hA hb1 hb2 hb3 hs1 hs2 hW0 hl hm
  go_enter Tryd.func11, Tryd.ntmps11
  go_wp2_with fail
  refine HA.out.mono ?_
  rintro e w1 ⟨rfl, hb1⟩
  rw [← HW0.out] at hb1
  have hbe1 : Below w.heap.size w w1 := hbA.trans (hb1.mono hbA.size)
  have hcI1 := hcI.stays hb1
  have hcP1 := hcP.stays hb1
  have hcG1 := hcG.stays hb1
  have q0 := hcI1.cell 0 (v := .slice a ps.length c) rfl
  have HM := Lib.hid (make_any ea _ ps w1 (HRI.out _ hbe1) (HPI.out _ hbe1) (HE.out _ hbe1).e1 (HE.out _ hbe1).e3 (HE.out _ hbe1).e17)
  have HBW : Hid (∀ W, Below w1.heap.size w1 W → Below w.heap.size w W) := fun W hW => hbe1.trans (hW.mono hbe1.size)
  have HPC : Hid (∀ W, Below w1.heap.size w1 W → W.cell? ⟨w.heap.size + 1, 0, none⟩ = some (.int .i64 x) ∧ W.cell? ⟨w.heap.size + 1, 1, none⟩ = some (.int .i64 y) ∧ W.cell? ⟨w.heap.size + 1 + 1, 0, none⟩ = some (.int .u32 l) ∧ W.cell? ⟨w.heap.size + 1 + 1, 1, none⟩ = some (.int .u32 m)) := fun W hW =>
    ⟨(hcP1.stays hW).cell 0 (v := .int .i64 x) rfl, (hcP1.stays hW).cell 1 (v := .int .i64 y) rfl, (hcG1.stays hW).cell 0 (v := .int .u32 l) rfl, (hcG1.stays hW).cell 1 (v := .int .u32 m) rfl⟩
  clear HA hcI hcI1 hcP hcP1 hcG hcG1 hb1 hbA hbe1 HW0
  go_wp2_with fail
  refine HM.out.mono ?_
  clear HM q0
  rintro e w2 (⟨rfl, hb2⟩ | ⟨g, gd, gm, h, D, rfl, hk2, hr2, hf2, hl2', hw2, hn1, hn2, g1, g2, g3, g4, hb2⟩)
  · have hbe2 := HBW.out w2 hb2
    clear hb2
    go_wp2_with fail
    go_ret
    exact ⟨rfl, hbe2⟩
  · have hfz : D.fuse ≠ 0 := by rw [hf2]; decide
    have HKD : Hid (∀ W, Below w2.heap.size w2 W → Dk W g gd gm D) := fun W hW => hk2.stays hW
    have HRD : Hid (∀ W, Below w2.heap.size w2 W → Rd2 W w1.heap.size h 100 D) := fun W hW => hr2.stays hW
    have HB2 : Hid (∀ W, Below w2.heap.size w2 W → Below w1.heap.size w1 W) := fun W hW => hb2.trans (hW.mono hb2.size)
    have HEE : Hid (∀ W, Below w2.heap.size w2 W → ErrsAll ea W) := fun W hW => HE.out W (HBW.out W (HB2.out W hW))
    have HOK := Lib.hid hk2.ok
    have HF := Lib.hid hfz
    obtain ⟨p0, p1, -, -⟩ := HPC.out w2 hb2
    -- the first read
    obtain ⟨A, M, G, P, hFr⟩ : ∃ (A M : Int) (G : Nat) (P : List UInt8), frameRV D x y = ⟨A, M, G, P⟩ := ⟨_, _, _, _, rfl⟩
    have hG := frameRV_gen D x y
    have hKle := frameRK_le D x y
    rw [hFr] at hG
    replace hG : G ≤ 4294967295 := hG
    obtain ⟨K, hK⟩ : ∃ K, K = frameRK D x y := ⟨_, rfl⟩
    have HR1 : Hid (Calls Tryd.prog 62 #[.pointer (some ⟨g, 0, none⟩), .int .i64 x, .int .i64 y] w2 fun e' w' => ∃ va vc, e' = .returned (.tuple #[.agg #[.int .i64 A, .int .i64 M, .int .u32 G, .slice va P.length vc], EV ea K]) ∧ RowB w' (.slice va P.length vc) P ∧ Below w2.heap.size w2 w') :=
      (fread_any ea hk2 hfz (a := x) (e := y) hx1 hx2 hy1 hy2 HEE.out).mono fun e' w' ⟨v', q1, q2, q3, q4⟩ => by
        rw [hFr] at q1 q2
        obtain ⟨va, vc, rfl, -, -⟩ := q2.gen.shape
        rw [← hK] at q1
        exact ⟨va, vc, q1, q2, q4⟩
    have HR2 : Hid (∀ W, Below w2.heap.size w2 W → Calls Tryd.prog 63 #[.pointer (some ⟨h, 0, none⟩), .int .i64 x, .int .i64 y] W fun e' w' => e' = .returned (.tuple #[.agg #[.int .i64 A, .int .i64 M, .int .u32 G, .string (strB P)], .int .i64 K]) ∧ Below W.heap.size W w') := fun W hW =>
      (rfread_any (HRD.out W hW) HOK.out HF.out (a := x) (e := y) hx1 hx2 hy1 hy2).mono fun e' w' ⟨q1, q4⟩ => by
        rw [hFr, ← hK] at q1
        exact ⟨q1, q4⟩
    have HKL : Hid (K ≤ 19) := by rw [← hK] at hKle; exact hKle
    have hGi : (G : Int) ≤ 4294967295 := by omega
    clear hk2 hr2 hfz hf2 hFr hG hKle hK
    go_wp2_with fail
    refine HR1.out.mono ?_
    rintro e w3 ⟨va, vc, rfl, hr3, hb3⟩
    obtain ⟨W3, hW3⟩ : ∃ W, W = w3.alloc (.cells #[.int .i64 A, .int .i64 M, .int .u32 G, .slice va P.length vc] 122) := ⟨_, rfl⟩
    have hbA3 : Below w3.heap.size w3 W3 := by rw [hW3]; exact (Below.refl _ _).alloc (Nat.le_refl _) _
    have hcF : CellsAt W3 w3.heap.size 122 #[.int .i64 A, .int .i64 M, .int .u32 G, .slice va P.length vc] := by rw [hW3]; exact CellsAt.new w3 _ _
    have hbB3 := hb3.trans (hbA3.mono hb3.size)
    have hr3' := hr3.stays hbA3
    obtain ⟨p0, p1, -, -⟩ := HPC.out W3 (HB2.out W3 hbB3)
    have hR2 := HR2.out W3 hbB3
    obtain ⟨BF, hBF⟩ : ∃ b, b = w3.heap.size := ⟨_, rfl⟩
    rw [← hBF] at hcF
    have HBF := Lib.hid hBF
    have HW3 := Lib.hid hW3
    have HR2' := Lib.hid hR2
    clear hb3 hbA3 hr3 HR1 HR2 hBF hW3 hR2
    go_upto_region 7 with (fail)
    rw [← HW3.out, ← HBF.out]
    go_wp2_with fail
    refine HR2'.out.mono ?_
    rintro e w4 ⟨rfl, hb4⟩
    have hbe4 := hbB3.trans (hb4.mono hbB3.size)
    have hcF4 := hcF.stays hb4
    have hr4 := hr3'.stays hb4
    obtain ⟨W5, hW5⟩ : ∃ W, W = w4.alloc (.cells #[.int .i64 A, .int .i64 M, .int .u32 G, .string (strB P)] 126) := ⟨_, rfl⟩
    have hbA5 : Below w4.heap.size w4 W5 := by rw [hW5]; exact (Below.refl _ _).alloc (Nat.le_refl _) _
    have hcR : CellsAt W5 w4.heap.size 126 #[.int .i64 A, .int .i64 M, .int .u32 G, .string (strB P)] := by rw [hW5]; exact CellsAt.new w4 _ _
    have hbe5 := hbe4.trans (hbA5.mono hbe4.size)
    have hN := num_any ea K HKL.out W5 (HEE.out W5 hbe5)
    have hcF5 := hcF4.stays hbA5
    have hr5 := hr4.stays hbA5
    have HW5 := Lib.hid hW5
    rw [hW5] at hN
    have HN := Lib.hid hN
    have bK : ((K : Int) == K) = true := by simp
    have bK' : ((K : Int) != K) = false := by simp
    clear hb4 hbB3 hbA5 hbe4 hcF hcF4 hr3' hr4 hW5 hN HR2' p0 p1
    go_wp2_with fail
    refine HN.out.mono ?_
    rintro e w6 ⟨rfl, hb6⟩
    rw [← HW5.out] at hb6
    have hbe6 := hbe5.trans (hb6.mono hbe5.size)
    have hcF6 := hcF5.stays hb6
    have hcR6 := hcR.stays hb6
    have HSM := Lib.hid (same_yes w6 A M G va vc P (hr5.stays hb6))
    have cF0 := hcF6.cell 0 (v := .int .i64 A) rfl
    have cF1 := hcF6.cell 1 (v := .int .i64 M) rfl
    have cF2 := hcF6.cell 2 (v := .int .u32 G) rfl
    have cF3 := hcF6.cell 3 (v := .slice va P.length vc) rfl
    have cR0 := hcR6.cell 0 (v := .int .i64 A) rfl
    have cR1 := hcR6.cell 1 (v := .int .i64 M) rfl
    have cR2 := hcR6.cell 2 (v := .int .u32 G) rfl
    have cR3 := hcR6.cell 3 (v := .string (strB P)) rfl
    clear HN hb6 hbe5 hcF5 hcR hcF6 hcR6 hr5 HW5
    go_wp2_with fail
    refine HSM.out.mono ?_
    rintro e w7 ⟨rfl, hb7⟩
    have hbe7 := hbe6.trans (hb7.mono hbe6.size)
    obtain ⟨p0, p1, p2, p3⟩ := HPC.out w7 (HB2.out w7 hbe7)
    have hS := fscan_any ea (HKD.out w7 hbe7) HF.out (a := x) (e := y) hx1 hx2 hy1 hy2 l m hl2 hm2 (fun W hW => HEE.out W (hbe7.trans (hW.mono hbe7.size)))
    have hSI := scanAll_in HOK.out (a := x) (e := y) (least := l) (most := m)
    have hSK := scanK_le D x y
    have hRS : ∀ W, Below w2.heap.size w2 W → _ := fun W hW => rfscan_any (HRD.out W hW) HOK.out HF.out (a := x) (e := y) hx1 hx2 hy1 hy2 l m hl2 hm2
    unfold FScan at hS
    unfold RFScan at hRS
    obtain ⟨R, hR⟩ : ∃ R, R = scanAll D x y l m := ⟨_, rfl⟩
    obtain ⟨J, hJ⟩ : ∃ J, J = scanK D x y := ⟨_, rfl⟩
    rw [← hR, ← hJ] at hS
    rw [← hR] at hSI
    rw [← hJ] at hSK
    simp only [← hR, ← hJ] at hRS
    have HS := Lib.hid hS
    have HSI := Lib.hid hSI
    have HSK := Lib.hid hSK
    have HRS := Lib.hid hRS
    clear cF0 cF1 cF2 cF3 cR0 cR1 cR2 cR3 HSM hb7 hbe6 hS hSI hSK hRS hR hJ
    go_wp2_with fail
    refine HS.out.mono ?_
    rintro e w8 ⟨v14, fs, rfl, hrow8, hfs, hld8, hb8⟩
    have hbe8 := hbe7.trans (hb8.mono hbe7.size)
    clear p0 p1 p2 p3
    obtain ⟨p0, p1, p2, p3⟩ := HPC.out w8 (HB2.out w8 hbe8)
    have hRS8 := HRS.out w8 hbe8
    subst hfs
    have HRS8 := Lib.hid hRS8
    obtain ⟨a14, c14, rfl, hl14, -⟩ := hrow8.shape frC_len
    unfold maxLen at hl14
    clear HS hb8 hbe7 HRS hRS8
    go_wp2_with fail
    refine HRS8.out.mono ?_
    rintro e w9 ⟨v15, rfl, hrow9, hb9⟩
    have hbe9 := hbe8.trans (hb9.mono hbe8.size)
    obtain ⟨a15, c15, rfl, hl15, -⟩ := hrow9.shape rfrC_len
    have hlen : (fs.map Fp.f).length = fs.length := List.length_map _
    have hrow9f := hrow8.stays hb9
    have hld9 : ∀ p ∈ fs, RowB w9 p.v p.f.load := fun p hp => (hld8 p hp).stays hb9
    rw [hlen] at hrow9
    rw [hlen]
    have HN := Lib.hid (num_any ea J HSK.out w9 (HEE.out w9 hbe9))
    have bJ : ((J : Int) == J) = true := by simp
    have bJ' : ((J : Int) != J) = false := by simp
    have HRF : Hid (∀ W, Below w9.heap.size w9 W → RowS frC W (.slice a14 fs.length c14) fs) := fun W hW => hrow9f.stays hW
    have HRR : Hid (∀ W, Below w9.heap.size w9 W → RowS rfrC W (.slice a15 fs.length c15) (fs.map Fp.f)) := fun W hW => hrow9.stays hW
    have HLD : Hid (∀ W, Below w9.heap.size w9 W → ∀ p ∈ fs, RowB W p.v p.f.load) := fun W hW p hp => (hld9 p hp).stays hW
    have HB9 : Hid (∀ W, Below w9.heap.size w9 W → Below w2.heap.size w2 W) := fun W hW => hbe9.trans (hW.mono hbe9.size)
    have bl : ((fs.length : Int) == fs.length) = true := by simp
    have bl' : ((fs.length : Int) != fs.length) = false := by simp
    clear p0 p1 p2 p3 HRS8 hrow8 hld8 hb9 hbe8 hrow9 hrow9f hld9 hl15 hlen hbe9
    go_wp2_with fail
    refine HN.out.mono ?_
    rintro e w10 ⟨rfl, hb10⟩
    obtain ⟨p0, p1, p2, p3⟩ := HPC.out w10 (HB2.out w10 (HB9.out w10 hb10))
    clear HN
    go_wp2_with fail
    clear p0 p1 p2 p3
    go_loopw [102, 16] (fun i nx wr => ∃ k : Nat, k ≤ fs.length ∧ i = .int .i64 k ∧ nx = .int .i64 (nextV ((fs.map Fp.f).take k) x) ∧ Below w9.heap.size w9 wr) (fun i _ _ => fs.length - (intOf i).toNat)
    case atStart => exact ⟨0, Nat.zero_le _, rfl, rfl, hb10⟩
    case round =>
      clear hb10
      obtain ⟨k, hk, rfl, rfl, hbe⟩ := hrel
      by_cases hlt : k < fs.length
      · obtain ⟨⟨pa, pl, pc, ⟨FA, FM, FG, FP⟩⟩, hp⟩ : ∃ p, fs[k]? = some p := ⟨_, List.getElem?_eq_getElem hlt⟩
        have hp2 : (fs.map Fp.f)[k]? = some ⟨FA, FM, FG, FP⟩ := by rw [List.getElem?_map, hp]; rfl
        have hrp := HLD.out wr hbe _ (List.mem_of_getElem? hp)
        replace hrp : RowB wr (.slice pa pl pc) FP := hrp
        obtain ⟨_, _, hv, -, -⟩ := hrp.gen.shape
        cases hv
        obtain ⟨i1, i2, i3, i4⟩ := HSI.out _ (List.mem_of_getElem? hp2)
        replace i1 : 0 ≤ FA := i1
        replace i2 : 1 ≤ FM := i2
        replace i3 : FA + FM ≤ 1024 := i3
        obtain ⟨_, _, hv, -, hin⟩ := (HRF.out wr hbe).shape frC_len
        cases hv
        obtain ⟨bb, oo, rfl, hc⟩ := hin k _ hp
        have d0 : wr.cell? ⟨bb, oo + (k * 4 + 0), none⟩ = some (.int .i64 FA) := hc 0 _ rfl
        have d1 : wr.cell? ⟨bb, oo + (k * 4 + 1), none⟩ = some (.int .i64 FM) := hc 1 _ rfl
        have d2 : wr.cell? ⟨bb, oo + (k * 4 + 2), none⟩ = some (.int .u32 FG) := hc 2 _ rfl
        have d3 : wr.cell? ⟨bb, oo + (k * 4 + 3), none⟩ = some (.slice pa FP.length pc) := hc 3 _ rfl
        rw [Nat.add_zero] at d0
        rw [← Nat.add_assoc] at d1 d2 d3
        have HNX : Hid (nextV ((fs.map Fp.f).take (k + 1)) x = FA + FM) := nextV_take hp2 x
        obtain ⟨W1, hW1⟩ : ∃ W, W = wr.alloc (.cells #[.int .i64 FA, .int .i64 FM, .int .u32 FG, .slice pa FP.length pc] 122) := ⟨_, rfl⟩
        have hbA : Below wr.heap.size wr W1 := by rw [hW1]; exact (Below.refl _ _).alloc (Nat.le_refl _) _
        have hbe1 := hbe.trans (hbA.mono hbe.size)
        have hcQ : CellsAt W1 wr.heap.size 122 #[.int .i64 FA, .int .i64 FM, .int .u32 FG, .slice pa FP.length pc] := by rw [hW1]; exact CellsAt.new wr _ _
        have hrp1 := hrp.stays hbA
        have HR15 : Hid (∀ W, Below w9.heap.size w9 W → ∃ b2 o2, a15 = some ⟨b2, o2, none⟩ ∧ W.cell? ⟨b2, o2 + k * 4, none⟩ = some (.int .i64 FA) ∧ W.cell? ⟨b2, o2 + k * 4 + 1, none⟩ = some (.int .i64 FM) ∧ W.cell? ⟨b2, o2 + k * 4 + 2, none⟩ = some (.int .u32 FG) ∧ W.cell? ⟨b2, o2 + k * 4 + 3, none⟩ = some (.string (strB FP))) := fun W hW => by
          obtain ⟨a', c', hv, -, hin⟩ := (HRR.out W hW).shape rfrC_len
          simp only [Value.slice.injEq] at hv
          obtain ⟨rfl, -, -⟩ := hv
          obtain ⟨b2, o2, rfl, hc⟩ := hin k _ hp2
          have e1 : W.cell? ⟨b2, o2 + (k * 4 + 0), none⟩ = some (.int .i64 FA) := hc 0 _ rfl
          have e2 : W.cell? ⟨b2, o2 + (k * 4 + 1), none⟩ = some (.int .i64 FM) := hc 1 _ rfl
          have e3 : W.cell? ⟨b2, o2 + (k * 4 + 2), none⟩ = some (.int .u32 FG) := hc 2 _ rfl
          have e4 : W.cell? ⟨b2, o2 + (k * 4 + 3), none⟩ = some (.string (strB FP)) := hc 3 _ rfl
          rw [Nat.add_zero] at e1
          rw [← Nat.add_assoc] at e2 e3 e4
          exact ⟨b2, o2, rfl, e1, e2, e3, e4⟩
        have HSY : Hid (Calls Tryd.prog 64 #[.agg #[.int .i64 FA, .int .i64 FM, .int .u32 FG, .slice pa FP.length pc], .agg #[.int .i64 FA, .int .i64 FM, .int .u32 FG, .string (strB FP)]] W1.drew fun e' w' => e' = .returned (.bool true) ∧ Below W1.drew.heap.size W1.drew w') := same_yes W1.drew FA FM FG pa pc FP (hrp1.stays (Below.refl _ _).drew)
        have HW1 := Lib.hid hW1
        have HQ := Lib.hid hcQ
        have HBE := Lib.hid hbe1
        clear hc hin hrp hrp1 hp hp2 hW1 hbA hcQ hbe hbe1
        go_upto_region 18 with (fail)
        clear d0 d1 d2 d3
        rw [← HW1.out]
        obtain ⟨b2, o2, hab, q0, q1, q2, q3⟩ := HR15.out W1 HBE.out
        subst hab
        have c0 := HQ.out.cell 0 (v := .int .i64 FA) rfl
        have c1 := HQ.out.cell 1 (v := .int .i64 FM) rfl
        have c2 := HQ.out.cell 2 (v := .int .u32 FG) rfl
        have c3 := HQ.out.cell 3 (v := .slice pa FP.length pc) rfl
        go_region_with ((go_at_call 64; (with_reducible refine HSY.out.mono ?_); rintro e wA ⟨rfl, hbQ⟩))
        all_goals
          have hbeA := HBE.out.trans (((Below.refl W1.heap.size W1).drew.trans hbQ).mono HBE.out.size)
          obtain ⟨b3, o3, hab, q0, q1, q2, q3⟩ := HR15.out wA hbeA
          cases hab
          have hw := IntWalk.i64_in (FA + FM) (by omega)
          clear hbQ c0 c1 c2 c3 HSY HQ HBE HW1
          go_wp2_with fail
          go_quiet (fail)
          have hbeB := below_drewQ (n := 1) hbeA
          clear q0 q1 q2 q3 hw
          go_wp2_with fail
          go_roundw
          case rel => exact ⟨k + 1, by omega, by go_num, by rw [HNX.out], below_drewQ hbeA⟩
          case measure => simp [intOf]; omega
      · obtain rfl : k = fs.length := by omega
        have hE := HEE.out wr (HB9.out wr hbe)
        have hN1 := fread_nil ea wr 0 1 (fun W hW => HEE.out W (HB9.out W (hbe.trans (hW.mono hbe.size))))
        have HN1 := Lib.hid hN1
        have HBE := Lib.hid hbe
        have HTK : Hid ((fs.map Fp.f).take fs.length = fs.map Fp.f) := List.take_of_length_le (by simp)
        obtain ⟨X, hX⟩ : ∃ X, X = nextV ((fs.map Fp.f).take fs.length) x := ⟨_, rfl⟩
        have HX : Hid (X = nextV (fs.map Fp.f) x) := by show _ = _; rw [hX, HTK.out]
        rw [← hX]
        clear hE hN1 hbe hX
        go_wp2_with fail
        refine HN1.out.mono ?_
        rintro e wa ⟨rfl, hba⟩
        have hbea := HBE.out.trans (hba.mono HBE.out.size)
        have hbA : Below wa.heap.size wa (wa.alloc (.cells #[.int .i64 0, .int .i64 0, .int .u32 0, .slice none 0 0] 122)) := (Below.refl _ _).alloc (Nat.le_refl _) _
        have hbeb := hbea.trans (hbA.mono hbea.size)
        have HN2 := Lib.hid (fscan_nil ea (wa.alloc (.cells #[.int .i64 0, .int .i64 0, .int .u32 0, .slice none 0 0] 122)) 0 1 0 1 (HEE.out _ (HB9.out _ hbeb)).e14)
        have HBB := Lib.hid hbeb
        obtain ⟨Wb, hWb⟩ : ∃ W, W = wa.alloc (.cells #[.int .i64 0, .int .i64 0, .int .u32 0, .slice none 0 0] 122) := ⟨_, rfl⟩
        clear HN1 hba hbea hbA hbeb HBE
        rw [← hWb] at HN2 HBB
        have HWB := Lib.hid hWb
        clear hWb
        go_upto_region 23 with (fail)
        rw [← HWB.out]
        go_wp2_with fail
        refine HN2.out.mono ?_
        rintro e wc ⟨rfl, rfl⟩
        obtain ⟨p0, p1, p2, p3⟩ := HPC.out Wb (HB2.out Wb (HB9.out Wb HBB.out))
        have HNE := Lib.hid (fnext_any Wb _ fs (HRF.out Wb HBB.out) x (fun p hp => by
          have := HSI.out p.f (List.mem_map.2 ⟨p, hp, rfl⟩)
          omega))
        rw [← HX.out] at HNE
        have bX : (X == X) = true := by simp
        clear HN2 HWB
        go_wp2_with fail
        refine HNE.out.mono ?_
        rintro e wd ⟨rfl, hbd⟩
        have hbed := HBB.out.trans (hbd.mono HBB.out.size)
        have HM1 := Lib.hid (num_any ea 14 (by decide) wd (HEE.out wd (HB9.out wd hbed)))
        rw [EV_pos ea (by decide)] at HM1
        clear HNE hbd p0 p1 p2 p3
        go_wp2_with fail
        refine HM1.out.mono ?_
        rintro e we ⟨rfl, hbe⟩
        have hbee := hbed.trans (hbe.mono hbed.size)
        have HM2 := Lib.hid (num_any ea 14 (by decide) we (HEE.out we (HB9.out we hbee)))
        rw [EV_pos ea (by decide)] at HM2
        clear HM1 hbe hbed
        go_wp2_with fail
        refine HM2.out.mono ?_
        rintro e wf ⟨rfl, hbf⟩
        have hbef := hbee.trans (hbf.mono hbee.size)
        clear HM2 hbf hbee
        go_wp2_with fail
        go_ret
        exact ⟨rfl, HBW.out wf (HB2.out wf (HB9.out wf hbef))⟩
end Go.Proofs.YtgehbabcpmkgaaaDoor
