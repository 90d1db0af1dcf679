/- Image.Make, walked: a disk of an image, and its model. -/
import Derived.Test.YtgehbabcpmkgaaaDoorDkT
namespace Go.Proofs.YtgehbabcpmkgaaaDoor
open Go Go.RowKit
set_option linter.unusedVariables false
/-- what Make hands back of an image of n sectors -/
def MadeIm (n : Nat) (w : World) (e : Ending) (w' : World) : Prop :=
  (e = .returned (.tuple #[.pointer none, .pointer none, .bool false]) ∧ Below w.heap.size w w') ∨
  ∃ g gd gm h D, e = .returned (.tuple #[.pointer (some ⟨g, 0, none⟩), .pointer (some ⟨h, 0, none⟩), .bool true]) ∧ Dk w' g gd gm D ∧ Rd2 w' w.heap.size h 100 D ∧ D.fuse = -1 ∧ D.dur.length = n ∧ D.writes ≤ 40 ∧ 1 ≤ n ∧ n ≤ 40 ∧
    w.heap.size ≤ g ∧ w.heap.size ≤ gd ∧ w.heap.size ≤ gm ∧ w.heap.size ≤ h ∧ Below w.heap.size w w'
set_option maxRecDepth 100000 in
set_option maxHeartbeats 4000000 in
theorem make_any (ea : Nat → Addr) (v : Value) (ps : List (Value × List UInt8)) (w : World) (hr : RowL Prod.fst w v ps) (hp : ∀ p ∈ ps, RowB w p.1 p.2) (he1 : ErrAt w 2 (ea 1)) (he3 : ErrAt w 0 (ea 3)) (he17 : ErrAt w 7 (ea 17)) :
    Calls Tryd.prog 47 #[.agg #[v]] w (MadeIm ps.length w) := by
  obtain ⟨a, c, rfl, -, -⟩ := hr.shape
  have HROW : Hid (∀ w', Below w.heap.size w w' → RowL Prod.fst w' (.slice a ps.length c) ps) := fun w' hb => hr.stays hb
  have HPS : Hid (∀ w', Below w.heap.size w w' → ∀ p ∈ ps, RowB w' p.1 p.2) := fun w' hb p hq => (hp p hq).stays hb
  have HE1 : Hid (∀ w', Below w.heap.size w w' → ErrAt w' 2 (ea 1)) := fun w' hb => he1.stays hb
  have HE3 : Hid (∀ w', Below w.heap.size w w' → ErrAt w' 0 (ea 3)) := fun w' hb => he3.stays hb
  have HE17 : Hid (∀ w', Below w.heap.size w w' → ErrAt w' 7 (ea 17)) := fun w' hb => he17.stays hb
  have hbA : Below w.heap.size w (w.alloc (.cells #[.slice a ps.length c] 85)) := (Below.refl _ _).alloc (Nat.le_refl _) _
  have HBA := Lib.hid hbA
  have hcl : ps.length ≤ 9223372036854775807 := by rcases hr with ⟨h1, _⟩ | ⟨_, _, _, hv, h1, h2, _⟩ <;> unfold maxLen at * <;> omega
  clear hr hp he1 he3 he17 hbA
  by_cases h1 : ps.length < 1
  · go_enter Tryd.func47, Tryd.ntmps47
    go_wp2_with fail
    go_ret3
    exact .inl ⟨rfl, HBA.out⟩
  · by_cases h2 : 40 < ps.length
    · go_enter Tryd.func47, Tryd.ntmps47
      go_wp2_with fail
      go_ret3
      exact .inl ⟨rfl, HBA.out⟩
    · have HN := Lib.hid (new_ok ps.length (w.alloc (.cells #[.slice a ps.length c] 85)) (by omega) (by omega))
      go_enter Tryd.func47, Tryd.ntmps47
      go_wp2_with fail
      refine HN.out.mono ?_
      rintro e w1 ⟨g, gd, gm, rfl, hk1, hg1, hg2, hg3, hb1⟩
      have hbw1 : Below w.heap.size w w1 := HBA.out.trans (hb1.mono HBA.out.size)
      have hcI := (CellsAt.new w #[.slice a ps.length c] 85).stays hb1
      have hb2 : Below w1.heap.size w1 (w1.alloc (.cells #[.int .i64 ps.length, .slice none 0 0, .slice none 0 0, .int .i64 (-1), .int .i64 0] 96)) := (Below.refl _ _).alloc (Nat.le_refl _) _
      have hcR := CellsAt.new w1 #[.int .i64 ps.length, .slice none 0 0, .slice none 0 0, .int .i64 (-1), .int .i64 0] 96
      have hr2 : Rd2 (w1.alloc (.cells #[.int .i64 ps.length, .slice none 0 0, .slice none 0 0, .int .i64 (-1), .int .i64 0] 96)) w.heap.size w1.heap.size 0 (Dm.new ps.length) :=
        ⟨⟨ps.length, [], [], -1, 0⟩, _, _, ⟨hcR, OwnS.nil _ _, OwnS.nil _ _, Nat.le_refl _, by decide⟩, Sim.new _, fun p hp => by cases hp⟩
      have hk2 := hk1.stays hb2
      have hcI2 := hcI.stays hb2
      have hbw2 := hbw1.trans (hb2.mono hbw1.size)
      have q0 := hcI.cell 0 (v := .slice a ps.length c) rfl
      have q2 := hcI2.cell 0 (v := .slice a ps.length c) rfl
      obtain ⟨W2, hW2⟩ : ∃ W, W = w1.alloc (.cells #[.int .i64 ps.length, .slice none 0 0, .slice none 0 0, .int .i64 (-1), .int .i64 0] 96) := ⟨_, rfl⟩
      obtain ⟨h, hh⟩ : ∃ h, h = w1.heap.size := ⟨_, rfl⟩
      have hhB : w.heap.size ≤ h := by rw [hh]; exact hbw1.size
      rw [← hW2, ← hh] at hr2
      rw [← hW2] at hk2 hcI2 hbw2 q2
      have g1 : w.heap.size ≤ g := by simp at hg1; omega
      have g2 : w.heap.size ≤ gd := by simp at hg2; omega
      have g3 : w.heap.size ≤ gm := by simp at hg3; omega
      have HW2 := Lib.hid hW2
      have HH := Lib.hid hh
      clear hW2 hh hb1 hb2 hcR hcI hbw1 hk1 HN hg1 hg2 hg3 hcI2
      rw [HW2.out] at q2
      go_wp2_with fail
      rw [← HW2.out, ← HH.out]
      rw [← HW2.out] at q2
      clear q0
      go_loopw [37] (fun i wr => ∃ (k : Nat) (D : Dm), k ≤ ps.length ∧ i = .int .i64 k ∧ Dk wr g gd gm D ∧ Rd2 wr w.heap.size h k D ∧ D.fuse = -1 ∧ D.dur.length = ps.length ∧ D.writes ≤ k ∧ Below w.heap.size w wr) (fun i _ => ps.length - (intOf i).toNat)
      case atStart => exact ⟨0, Dm.new ps.length, Nat.zero_le _, rfl, hk2, hr2, rfl, by simp [Dm.new], Nat.le_refl _, hbw2⟩
      case round =>
        clear hk2 hr2 hbw2 q2 HW2 HH
        obtain ⟨k, D, hk, rfl, hkd, hrd, hDf, hDl, hDw, hbe⟩ := hrel
        by_cases hlt : k < ps.length
        · obtain ⟨⟨pv, bs⟩, hpk⟩ : ∃ p, ps[k]? = some p := ⟨_, List.getElem?_eq_getElem hlt⟩
          obtain ⟨_, _, hv, -, hin⟩ := (HROW.out wr hbe).shape
          cases hv
          obtain ⟨b, o, rfl, hc⟩ := hin k _ hpk
          have hrb : RowB wr pv bs := HPS.out wr hbe _ (List.mem_of_getElem? hpk)
          obtain ⟨pa, pc, rfl, -, -⟩ := hrb.gen.shape
          replace hc : wr.cell? ⟨b, o + k, none⟩ = some (.slice pa bs.length pc) := hc
          have HPK := Lib.hid (List.mem_of_getElem? hpk)
          clear hin hpk
          by_cases h64 : 64 < bs.length
          · clear hkd hrd
            go_wp2_with fail
            go_ret3
            exact .inl ⟨rfl, hbe⟩
          · have hwk : writeK D (k : Int) bs = 0 := writeK_of ⟨by omega, by omega⟩ (by omega) (by rw [hDf]; decide)
            have HWD := write_any ea hkd (x := (k : Int)) (by omega) (by omega) _ bs hrb (by omega) (by omega) (HE1.out wr hbe) (HE3.out wr hbe) (HE17.out wr hbe)
            rw [hwk, EV_zero] at HWD
            have HWD := Lib.hid HWD
            have HKD := Lib.hid hkd
            have HRD := Lib.hid hrd
            have HWK := Lib.hid hwk
            have HBE := Lib.hid hbe
            have HDF := Lib.hid hDf
            have HDL := Lib.hid hDl
            clear hkd hrd hwk hrb hbe hDf hDl
            go_wp2_with fail
            refine HWD.out.mono ?_
            rintro e w3 ⟨rfl, hk3, hg3'⟩
            have hr3 := HRD.out.past HKD.out hg3'
            have hbe3 := hg3'.below HBE.out (fun i hi => by simp at hi; omega) HBE.out.size
            have s3 := convert_str (HPS.out w3 hbe3 _ HPK.out)
            have HWR := rwrite_any hr3 hbe3.size (by omega) (x := (k : Int)) (by omega) (by omega) bs (by omega) (by omega) (by rw [HDF.out]; decide) (by rw [HDF.out]; decide)
            rw [HWK.out] at HWR
            have HWR := Lib.hid HWR
            have HR3 := Lib.hid hr3
            have HK3 := Lib.hid hk3
            have HBE3 := Lib.hid hbe3
            clear hr3 hk3 hg3' hbe3 HWD HKD HRD HBE
            go_wp2_with fail
            refine HWR.out.mono ?_
            rintro e w4 ⟨rfl, hr4, hg4⟩
            have hk4 := HK3.out.past HR3.out hg4
            have hbe4 := hg4.below HBE3.out (fun i hi => by simp at hi; omega) HBE3.out.size
            clear s3 HWR HR3 HK3 HBE3 hg4
            go_wp2_with fail
            go_roundw
            case rel =>
              refine ⟨k + 1, _, by omega, by go_num, hk4, hr4, ?_, by rw [writeM_dur]; exact HDL.out, by have := writeM_writes D (k : Int) bs; omega, hbe4⟩
              rw [writeM_ok HWK.out]
              show (if 0 < D.fuse then D.fuse - 1 else D.fuse) = -1
              rw [HDF.out]; rfl
            case measure => simp [intOf]; omega
        · obtain rfl : k = ps.length := by omega
          go_wp2_with fail
          go_ret3
          exact .inr ⟨g, gd, gm, h, D, rfl, hkd, hrd.mono (by omega) (by decide), hDf, hDl, by omega, by omega, by omega, g1, g2, g3, hhB, hbe⟩
end Go.Proofs.YtgehbabcpmkgaaaDoor
