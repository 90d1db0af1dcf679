/- The walk of FrameWrites: what is written on every disk, and what is answered. -/
import Derived.Test.YtgehbabcpmkgaaaDoorDkX
import Derived.Test.YtgehbabcpmkgaaaDoorDkY
import Derived.Test.YtgehbabcpmkgaaaDoorOpenI
import Derived.Test.YtgehbabcpmkgaaaDoorAlive32
import Derived.Deep.CutBlock
import Derived.Deep.DeepCutAuto
namespace Go.Proofs.YtgehbabcpmkgaaaDoor
open Go Go.RowKit
set_option linter.unusedVariables false
set_option maxRecDepth 100000 in
set_option maxHeartbeats 8000000 in
theorem walkFrameWrites (w : World) (vi : Value) (ps : List (Value × List UInt8)) (hri : RowL Prod.fst w vi ps) (hpi : ∀ p ∈ ps, RowB w p.1 p.2) (vl : Value) (ls : List Pu) (hrl : RowS puC w vl ls) (hgood : ∀ x ∈ ls, puG w x) (ea : Nat → Addr) (he : ErrsAll ea w) :
    Calls Tryd.prog 8 #[.agg #[vi], vl] w fun e w' => e = .returned (.bool true) ∧ Below w.heap.size w w' := by
  obtain ⟨a, c, rfl, -, -⟩ := hri.shape
  obtain ⟨al, cl, rfl, -, hil⟩ := RowS.shape hrl puC_len
  have hbA : Below w.heap.size w (w.alloc (.cells #[.slice a ps.length c] 85)) := (Below.refl _ _).alloc (Nat.le_refl _) _
  have hcI := CellsAt.new w #[.slice a ps.length c] 85
  obtain ⟨W0, hW0⟩ : ∃ W, W = w.alloc (.cells #[.slice a ps.length c] 85) := ⟨_, rfl⟩
  have HW0 := Lib.hid hW0
  rw [← hW0] at hbA hcI
  have hA := alive32 ea W0 (he.stays hbA).e3
  rw [hW0] at hA
  have HA := Lib.hid hA
  have HE : Hid (∀ w', Below w.heap.size w w' → ErrsAll ea w') := fun w' hb => he.stays hb
  have HRI : Hid (∀ w', Below w.heap.size w w' → RowL Prod.fst w' (.slice a ps.length c) ps) := fun w' hb => hri.stays hb
  have HPI : Hid (∀ w', Below w.heap.size w w' → ∀ p ∈ ps, RowB w' p.1 p.2) := fun w' hb p hq => (hpi p hq).stays hb
  have HRL : Hid (∀ w', Below w.heap.size w w' → RowS puC w' (.slice al ls.length cl) ls) := fun w' hb => hrl.stays hb
  have HG : Hid (∀ x ∈ ls, puG w x) := hgood
  have hpl : ps.length ≤ 9223372036854775807 := by rcases hri with ⟨h1, _⟩ | ⟨_, _, _, hv, h1, h2, _⟩ <;> unfold maxLen at * <;> omega
  have hll : ls.length ≤ 9223372036854775807 := by rcases hrl with ⟨h1, _⟩ | ⟨_, _, _, hv, h1, h2, _⟩ <;> unfold maxLen at * <;> omega
  clear he hri hpi hrl hil hgood hW0 hA
  go_enter Tryd.func8, Tryd.ntmps8
  go_wp2_with fail
  refine HA.out.mono ?_
  rintro e w1 ⟨rfl, hb1⟩
  rw [← HW0.out] at hb1
  have hbe1 : Below w.heap.size w w1 := hbA.trans (hb1.mono hbA.size)
  have hcI1 := hcI.stays hb1
  have q0 := hcI1.cell 0 (v := .slice a ps.length c) rfl
  have hlt1 : w.heap.size < w1.heap.size := hcI1.lt
  have hM := make_any ea _ ps w1 (HRI.out _ hbe1) (HPI.out _ hbe1) (HE.out _ hbe1).e1 (HE.out _ hbe1).e3 (HE.out _ hbe1).e17
  have HM := Lib.hid hM
  have HIM : Hid (∀ W, Below w1.heap.size w1 W → W.cell? ⟨w.heap.size, 0, none⟩ = some (.slice a ps.length c) ∧ Below w.heap.size w W) := fun W hW =>
    ⟨(hcI1.stays hW).cell 0 (v := .slice a ps.length c) rfl, hbe1.trans (hW.mono hbe1.size)⟩
  have HBE1 := Lib.hid hbe1
  clear HA hM hcI hcI1 hb1 hbA hbe1 HW0
  go_wp2_with fail
  refine HM.out.mono ?_
  clear HM q0
  rintro e w2 (⟨rfl, hb2⟩ | ⟨g, gd, gm, h, D0, rfl, hk2, hr2, hf2, hl2, hw2, hn1, hn2, g1, g2, g3, g4, hb2⟩)
  · have hbe2 := (HIM.out w2 hb2).2
    clear hb2
    go_wp2_with fail
    go_ret
    exact ⟨rfl, hbe2⟩
  · by_cases hl10 : 10 < ls.length
    · have hbe2 := (HIM.out w2 hb2).2
      clear hb2 hk2 hr2
      go_wp2_with fail
      go_ret
      exact ⟨rfl, hbe2⟩
    · go_wp2_with fail
      go_loopw [39] (fun i wr => ∃ (k : Nat) (D : Dm), k ≤ ls.length ∧ i = .int .i64 k ∧ Dk wr g gd gm D ∧ Rd2 wr w1.heap.size h (100 + 130 * k) D ∧ D.dur.length = ps.length ∧ D.writes ≤ 40 + 130 * k ∧ Below w1.heap.size w1 wr) (fun i _ => ls.length - (intOf i).toNat)
      case atStart => exact ⟨0, D0, Nat.zero_le _, rfl, hk2, hr2, hl2, hw2, hb2⟩
      case round =>
        clear hk2 hr2 hb2 hf2 hl2
        obtain ⟨k, D, hk, rfl, hkd, hrd, hDl, hDw, hbe⟩ := hrel
        obtain ⟨qI, hbw⟩ := HIM.out wr hbe
        by_cases hlt : k < ls.length
        · obtain ⟨⟨pa, pe, pf, pg, pv, bs⟩, hp⟩ : ∃ p, ls[k]? = some p := ⟨_, List.getElem?_eq_getElem hlt⟩
          obtain ⟨ga, ge, gf, gg, grow⟩ := HG.out _ (List.mem_of_getElem? hp)
          replace ga : -9223372036854775808 ≤ pa ∧ pa ≤ 9223372036854775807 := ga
          replace ge : -9223372036854775808 ≤ pe ∧ pe ≤ 9223372036854775807 := ge
          replace gf : -9223372036854775808 ≤ pf ∧ pf ≤ 9223372036854775807 := gf
          replace gg : pg < 4294967296 := gg
          replace grow : RowB w pv bs := grow
          obtain ⟨va, vc, rfl, hvl, -⟩ := grow.gen.shape
          have HROW : Hid (∀ w', Below w.heap.size w w' → RowB w' (.slice va bs.length vc) bs) := fun w' hb => grow.stays hb
          obtain ⟨_, _, hv, -, hin⟩ := (HRL.out wr hbw).shape puC_len
          cases hv
          obtain ⟨bb, oo, rfl, hc⟩ := hin k _ hp
          have d0 : wr.cell? ⟨bb, oo + (k * 5 + 0), none⟩ = some (.int .i64 pa) := hc 0 _ rfl
          have d1 : wr.cell? ⟨bb, oo + (k * 5 + 1), none⟩ = some (.int .i64 pe) := hc 1 _ rfl
          have d2 : wr.cell? ⟨bb, oo + (k * 5 + 2), none⟩ = some (.int .i64 pf) := hc 2 _ rfl
          have d3 : wr.cell? ⟨bb, oo + (k * 5 + 3), none⟩ = some (.int .u32 pg) := hc 3 _ rfl
          have d4 : wr.cell? ⟨bb, oo + (k * 5 + 4), none⟩ = some (.slice va bs.length vc) := hc 4 _ rfl
          rw [Nat.add_zero] at d0
          rw [← Nat.add_assoc] at d1 d2 d3 d4
          have hgi : (pg : Int) ≤ 4294967295 := by omega
          have HGG := Lib.hid gg
          unfold maxLen at hvl
          obtain ⟨ga1, ga2⟩ := ga
          obtain ⟨ge1, ge2⟩ := ge
          obtain ⟨gf1, gf2⟩ := gf
          clear hc hin hp gg grow
          by_cases h9 : 9000 < bs.length
          · clear hkd hrd
            go_wp2_with fail
            go_ret
            exact ⟨rfl, hbw.alloc (by have := hbw.size; omega) _⟩
          · obtain ⟨W1, hW1⟩ : ∃ W, W = wr.alloc (.cells #[.int .i64 pa, .int .i64 pe, .int .i64 pf, .int .u32 pg, .slice va bs.length vc] 92) := ⟨_, rfl⟩
            have hbP : Below wr.heap.size wr W1 := by rw [hW1]; exact (Below.refl _ _).alloc (Nat.le_refl _) _
            have hcP : CellsAt W1 wr.heap.size 92 #[.int .i64 pa, .int .i64 pe, .int .i64 pf, .int .u32 pg, .slice va bs.length vc] := by rw [hW1]; exact CellsAt.new wr _ _
            obtain ⟨P, hP⟩ : ∃ P, P = wr.heap.size := ⟨_, rfl⟩
            have hk1 := hkd.stays hbP
            have hr1 := hrd.stays hbP
            have hbe1 : Below w1.heap.size w1 W1 := hbe.trans (hbP.mono hbe.size)
            have hgP : g < P := by rw [hP]; exact hkd.lt.1
            have hgdP : gd < P := by rw [hP]; exact hkd.lt.2.1
            have hgmP : gm < P := by rw [hP]; exact hkd.lt.2.2
            have hhP : h < P := by rw [hP]; exact hrd.lt
            rw [← hP] at hcP
            have hF := fuse_any hk1 (n := pf) gf1 gf2
            rw [hW1] at hF
            have HF := Lib.hid hF
            have HW1 := Lib.hid hW1
            have HP := Lib.hid hP
            have HK1 := Lib.hid hk1
            have HR1 := Lib.hid hr1
            have HBE1 := Lib.hid hbe1
            have HCP := Lib.hid hcP
            have hne : ¬ P = h := by omega
            have hne' : ¬ h = P := by omega
            clear hkd hrd hbe hW1 hP hbP hk1 hr1 hbe1 hF qI hbw hcP
            obtain ⟨fv, hfv⟩ : ∃ fv, fv = max pf (-1) := ⟨_, rfl⟩
            have HFV := Lib.hid hfv
            by_cases hpf : -1 < pf
            · have hmax : max pf (-1) = pf := by omega
              have HMX := Lib.hid hmax
              clear hfv HFV hmax
              go_wp2_with fail
              have hmax := HMX.out
              refine HF.out.mono ?_
              rintro e w3 ⟨rfl, hk3, hg3⟩
              rw [← HW1.out] at hg3
              rw [← HP.out]
              have hG3 := Grew.ofGrown hg3
              have hr3 := HR1.out.past HK1.out (hG3.mono (by simp))
              have hbe3 : Below w1.heap.size w1 w3 := hG3.below HBE1.out (by simp; exact g1) HBE1.out.size
              have hcP3 := HCP.out.grew hG3 (by simp; omega)
              obtain ⟨c33, f33⟩ := hr3.c3
              have hG4 : Grew [h] w3 (w3.setCell ⟨h, 3, none⟩ (.int .i64 pf)) := (Grew.refl [h] w3).setCell (p := ⟨h, 3, none⟩) (.inl (by simp)) _
              have hr4 := hr3.setFuse pf
              rw [hmax] at hr4
              clear hmax
              have hk4 := hk3.past hr3 hG4
              have hbe4 := hG4.below hbe3 (by simp; exact g4) hbe3.size
              have hcP4 := hcP3.grew hG4 (by simp; omega)
              obtain ⟨W4, hW4⟩ : ∃ W, W = w3.setCell ⟨h, 3, none⟩ (.int .i64 pf) := ⟨_, rfl⟩
              have HW4 := Lib.hid hW4
              rw [← hW4] at hr4 hk4 hbe4 hcP4
              clear hW4 hG4 hr3 hk3 hbe3 hcP3 hg3 hG3 HF HR1 HK1 HBE1 HCP
              go_upto_region 14 with (fail)
              rw [← HW4.out]
              clear HW4 c33 f33
              have p40 := hcP4.cell 0 (v := .int .i64 pa) rfl
              have p41 := hcP4.cell 1 (v := .int .i64 pe) rfl
              have p43 := hcP4.cell 3 (v := .int .u32 pg) rfl
              have p44 := hcP4.cell 4 (v := .slice va bs.length vc) rfl
              have hok4 := hk4.ok
              have hs4 : (fuseM D pf).writes + 130 ≤ 1000000 := by rw [fuseM_writes]; omega
              have hFW := fwrite_any ea hk4 (a := pa) (e := pe) ga1 ga2 ge1 ge2 pg HGG.out _ bs (HROW.out W4 (HIM.out W4 hbe4).2) (by omega) hs4 (fun W hW => HE.out W (HIM.out W (hW.below hbe4 (by intro i hi; simp at hi; omega) hbe4.size)).2)
              have hRW : ∀ w5, Rd2 w5 w1.heap.size h (100 + 130 * k) (fuseM D pf) → w1.heap.size ≤ w5.heap.size → _ := fun w5 h5 hsz => rfwrite_any h5 hok4 hsz (by omega) (a := pa) (e := pe) ga1 ga2 ge1 ge2 pg HGG.out bs (by omega) hs4
              have hfok := frameW_ok hok4 pa pe pg bs
              have hfle := frameW_le (fuseM D pf) pa pe pg bs
              rw [fuseM_dur, fuseM_writes] at hfok
              obtain ⟨D2, F, K, hT⟩ : ∃ D2 F K, frameW (fuseM D pf) pa pe pg bs = (D2, F, K) := ⟨_, _, _, rfl⟩
              rw [hT] at hFW hfok hfle
              simp only [hT] at hRW
              have HFW := Lib.hid hFW
              have HRW := Lib.hid hRW
              have HFO := Lib.hid hfok
              have HFL : Hid (K ≤ 19) := hfle
              have HR4 := Lib.hid hr4
              have HK4 := Lib.hid hk4
              have HBE4 := Lib.hid hbe4
              have HCP4 := Lib.hid hcP4
              clear hT hFW hRW hfok hfle hr4 hk4 hbe4 hcP4 hok4
              go_wp2_with fail
              refine HFW.out.mono ?_
              rintro e w5 ⟨rfl, hk5, hg5⟩
              have hr5 := HR4.out.past HK4.out hg5
              have hbe5 := hg5.below HBE4.out (by intro i hi; simp at hi; omega) HBE4.out.size
              have hcP5 := HCP4.out.grew hg5 (by simp; omega)
              have p50 := hcP5.cell 0 (v := .int .i64 pa) rfl
              have p51 := hcP5.cell 1 (v := .int .i64 pe) rfl
              have p53 := hcP5.cell 3 (v := .int .u32 pg) rfl
              have p54 := hcP5.cell 4 (v := .slice va bs.length vc) rfl
              have s5 := convert_str (HROW.out w5 (HIM.out w5 hbe5).2)
              have HR5 := Lib.hid (HRW.out w5 hr5 hbe5.size)
              have HRR := Lib.hid hr5
              have HK5 := Lib.hid hk5
              have HBE5 := Lib.hid hbe5
              clear p40 p41 p43 p44 HFW HRW HR4 HK4 HBE4 HCP4 hr5 hk5 hg5 hbe5 hcP5
              go_wp2_with fail
              refine HR5.out.mono ?_
              rintro e w6 ⟨rfl, hr6, hg6⟩
              have hk6 := HK5.out.past HRR.out hg6
              have hbe6 := hg6.below HBE5.out (by simp; exact g4) HBE5.out.size
              have HN := Lib.hid (num_any ea K HFL.out w6 (HE.out w6 (HIM.out w6 hbe6).2))
              have bK : ((K : Int) == K) = true := by simp
              have bK' : ((K : Int) != K) = false := by simp
              have bF : (F == F) = true := by simp
              have bF' : (F != F) = false := by simp
              clear p50 p51 p53 p54 s5 HR5 HRR HK5 HBE5 hg6
              go_wp2_with fail
              refine HN.out.mono ?_
              rintro e w7 ⟨rfl, hb7⟩
              have hk7 := hk6.stays hb7
              have hr7 := hr6.stays hb7
              have hbe7 := hbe6.trans (hb7.mono hbe6.size)
              clear HN hk6 hr6 hbe6 hb7
              go_wp2_with fail
              go_roundw
              case rel =>
                have h1 : D2.dur = D.dur := HFO.out.2.1
                have h2 : D2.writes ≤ D.writes + 130 := HFO.out.2.2
                exact ⟨k + 1, D2, by omega, by go_num, hk7, by rw [show 100 + 130 * (k + 1) = 100 + 130 * k + 130 from by omega]; exact hr7, by rw [h1]; exact hDl, by omega, hbe7⟩
              case measure => simp [intOf]; omega
            · by_cases hpf2 : pf < -1
              · have hmax : max pf (-1) = -1 := by omega
                have HMX := Lib.hid hmax
                clear hfv HFV hmax
                go_wp2_with fail
                have hmax := HMX.out
                refine HF.out.mono ?_
                rintro e w3 ⟨rfl, hk3, hg3⟩
                rw [← HW1.out] at hg3
                rw [← HP.out]
                have hG3 := Grew.ofGrown hg3
                have hr3 := HR1.out.past HK1.out (hG3.mono (by simp))
                have hbe3 : Below w1.heap.size w1 w3 := hG3.below HBE1.out (by simp; exact g1) HBE1.out.size
                have hcP3 := HCP.out.grew hG3 (by simp; omega)
                obtain ⟨c33, f33⟩ := hr3.c3
                have hG4 : Grew [h] w3 (w3.setCell ⟨h, 3, none⟩ (.int .i64 (-1))) := (Grew.refl [h] w3).setCell (p := ⟨h, 3, none⟩) (.inl (by simp)) _
                have hr4 := hr3.setFuse pf
                rw [hmax] at hr4
                clear hmax
                have hk4 := hk3.past hr3 hG4
                have hbe4 := hG4.below hbe3 (by simp; exact g4) hbe3.size
                have hcP4 := hcP3.grew hG4 (by simp; omega)
                obtain ⟨W4, hW4⟩ : ∃ W, W = w3.setCell ⟨h, 3, none⟩ (.int .i64 (-1)) := ⟨_, rfl⟩
                have HW4 := Lib.hid hW4
                rw [← hW4] at hr4 hk4 hbe4 hcP4
                clear hW4 hG4 hr3 hk3 hbe3 hcP3 hg3 hG3 HF HR1 HK1 HBE1 HCP
                go_upto_region 14 with (fail)
                rw [← HW4.out]
                clear HW4 c33 f33
                have p40 := hcP4.cell 0 (v := .int .i64 pa) rfl
                have p41 := hcP4.cell 1 (v := .int .i64 pe) rfl
                have p43 := hcP4.cell 3 (v := .int .u32 pg) rfl
                have p44 := hcP4.cell 4 (v := .slice va bs.length vc) rfl
                have hok4 := hk4.ok
                have hs4 : (fuseM D pf).writes + 130 ≤ 1000000 := by rw [fuseM_writes]; omega
                have hFW := fwrite_any ea hk4 (a := pa) (e := pe) ga1 ga2 ge1 ge2 pg HGG.out _ bs (HROW.out W4 (HIM.out W4 hbe4).2) (by omega) hs4 (fun W hW => HE.out W (HIM.out W (hW.below hbe4 (by intro i hi; simp at hi; omega) hbe4.size)).2)
                have hRW : ∀ w5, Rd2 w5 w1.heap.size h (100 + 130 * k) (fuseM D pf) → w1.heap.size ≤ w5.heap.size → _ := fun w5 h5 hsz => rfwrite_any h5 hok4 hsz (by omega) (a := pa) (e := pe) ga1 ga2 ge1 ge2 pg HGG.out bs (by omega) hs4
                have hfok := frameW_ok hok4 pa pe pg bs
                have hfle := frameW_le (fuseM D pf) pa pe pg bs
                rw [fuseM_dur, fuseM_writes] at hfok
                obtain ⟨D2, F, K, hT⟩ : ∃ D2 F K, frameW (fuseM D pf) pa pe pg bs = (D2, F, K) := ⟨_, _, _, rfl⟩
                rw [hT] at hFW hfok hfle
                simp only [hT] at hRW
                have HFW := Lib.hid hFW
                have HRW := Lib.hid hRW
                have HFO := Lib.hid hfok
                have HFL : Hid (K ≤ 19) := hfle
                have HR4 := Lib.hid hr4
                have HK4 := Lib.hid hk4
                have HBE4 := Lib.hid hbe4
                have HCP4 := Lib.hid hcP4
                clear hT hFW hRW hfok hfle hr4 hk4 hbe4 hcP4 hok4
                go_wp2_with fail
                refine HFW.out.mono ?_
                rintro e w5 ⟨rfl, hk5, hg5⟩
                have hr5 := HR4.out.past HK4.out hg5
                have hbe5 := hg5.below HBE4.out (by intro i hi; simp at hi; omega) HBE4.out.size
                have hcP5 := HCP4.out.grew hg5 (by simp; omega)
                have p50 := hcP5.cell 0 (v := .int .i64 pa) rfl
                have p51 := hcP5.cell 1 (v := .int .i64 pe) rfl
                have p53 := hcP5.cell 3 (v := .int .u32 pg) rfl
                have p54 := hcP5.cell 4 (v := .slice va bs.length vc) rfl
                have s5 := convert_str (HROW.out w5 (HIM.out w5 hbe5).2)
                have HR5 := Lib.hid (HRW.out w5 hr5 hbe5.size)
                have HRR := Lib.hid hr5
                have HK5 := Lib.hid hk5
                have HBE5 := Lib.hid hbe5
                clear p40 p41 p43 p44 HFW HRW HR4 HK4 HBE4 HCP4 hr5 hk5 hg5 hbe5 hcP5
                go_wp2_with fail
                refine HR5.out.mono ?_
                rintro e w6 ⟨rfl, hr6, hg6⟩
                have hk6 := HK5.out.past HRR.out hg6
                have hbe6 := hg6.below HBE5.out (by simp; exact g4) HBE5.out.size
                have HN := Lib.hid (num_any ea K HFL.out w6 (HE.out w6 (HIM.out w6 hbe6).2))
                have bK : ((K : Int) == K) = true := by simp
                have bK' : ((K : Int) != K) = false := by simp
                have bF : (F == F) = true := by simp
                have bF' : (F != F) = false := by simp
                clear p50 p51 p53 p54 s5 HR5 HRR HK5 HBE5 hg6
                go_wp2_with fail
                refine HN.out.mono ?_
                rintro e w7 ⟨rfl, hb7⟩
                have hk7 := hk6.stays hb7
                have hr7 := hr6.stays hb7
                have hbe7 := hbe6.trans (hb7.mono hbe6.size)
                clear HN hk6 hr6 hbe6 hb7
                go_wp2_with fail
                go_roundw
                case rel =>
                  have h1 : D2.dur = D.dur := HFO.out.2.1
                  have h2 : D2.writes ≤ D.writes + 130 := HFO.out.2.2
                  exact ⟨k + 1, D2, by omega, by go_num, hk7, by rw [show 100 + 130 * (k + 1) = 100 + 130 * k + 130 from by omega]; exact hr7, by rw [h1]; exact hDl, by omega, hbe7⟩
                case measure => simp [intOf]; omega
              · obtain rfl : pf = -1 := by omega
                have hmax : max (-1 : Int) (-1) = -1 := by omega
                have HMX := Lib.hid hmax
                clear hfv HFV hmax
                go_wp2_with fail
                have hmax := HMX.out
                refine HF.out.mono ?_
                rintro e w3 ⟨rfl, hk3, hg3⟩
                rw [← HW1.out] at hg3
                rw [← HP.out]
                have hG3 := Grew.ofGrown hg3
                have hr3 := HR1.out.past HK1.out (hG3.mono (by simp))
                have hbe3 : Below w1.heap.size w1 w3 := hG3.below HBE1.out (by simp; exact g1) HBE1.out.size
                have hcP3 := HCP.out.grew hG3 (by simp; omega)
                obtain ⟨c33, f33⟩ := hr3.c3
                have hG4 : Grew [h] w3 (w3.setCell ⟨h, 3, none⟩ (.int .i64 (-1))) := (Grew.refl [h] w3).setCell (p := ⟨h, 3, none⟩) (.inl (by simp)) _
                have hr4 := hr3.setFuse (-1)
                rw [hmax] at hr4
                clear hmax
                have hk4 := hk3.past hr3 hG4
                have hbe4 := hG4.below hbe3 (by simp; exact g4) hbe3.size
                have hcP4 := hcP3.grew hG4 (by simp; omega)
                obtain ⟨W4, hW4⟩ : ∃ W, W = w3.setCell ⟨h, 3, none⟩ (.int .i64 (-1)) := ⟨_, rfl⟩
                have HW4 := Lib.hid hW4
                rw [← hW4] at hr4 hk4 hbe4 hcP4
                clear hW4 hG4 hr3 hk3 hbe3 hcP3 hg3 hG3 HF HR1 HK1 HBE1 HCP
                go_upto_region 14 with (fail)
                rw [← HW4.out]
                clear HW4 c33 f33
                have p40 := hcP4.cell 0 (v := .int .i64 pa) rfl
                have p41 := hcP4.cell 1 (v := .int .i64 pe) rfl
                have p43 := hcP4.cell 3 (v := .int .u32 pg) rfl
                have p44 := hcP4.cell 4 (v := .slice va bs.length vc) rfl
                have hok4 := hk4.ok
                have hs4 : (fuseM D (-1)).writes + 130 ≤ 1000000 := by rw [fuseM_writes]; omega
                have hFW := fwrite_any ea hk4 (a := pa) (e := pe) ga1 ga2 ge1 ge2 pg HGG.out _ bs (HROW.out W4 (HIM.out W4 hbe4).2) (by omega) hs4 (fun W hW => HE.out W (HIM.out W (hW.below hbe4 (by intro i hi; simp at hi; omega) hbe4.size)).2)
                have hRW : ∀ w5, Rd2 w5 w1.heap.size h (100 + 130 * k) (fuseM D (-1)) → w1.heap.size ≤ w5.heap.size → _ := fun w5 h5 hsz => rfwrite_any h5 hok4 hsz (by omega) (a := pa) (e := pe) ga1 ga2 ge1 ge2 pg HGG.out bs (by omega) hs4
                have hfok := frameW_ok hok4 pa pe pg bs
                have hfle := frameW_le (fuseM D (-1)) pa pe pg bs
                rw [fuseM_dur, fuseM_writes] at hfok
                obtain ⟨D2, F, K, hT⟩ : ∃ D2 F K, frameW (fuseM D (-1)) pa pe pg bs = (D2, F, K) := ⟨_, _, _, rfl⟩
                rw [hT] at hFW hfok hfle
                simp only [hT] at hRW
                have HFW := Lib.hid hFW
                have HRW := Lib.hid hRW
                have HFO := Lib.hid hfok
                have HFL : Hid (K ≤ 19) := hfle
                have HR4 := Lib.hid hr4
                have HK4 := Lib.hid hk4
                have HBE4 := Lib.hid hbe4
                have HCP4 := Lib.hid hcP4
                clear hT hFW hRW hfok hfle hr4 hk4 hbe4 hcP4 hok4
                go_wp2_with fail
                refine HFW.out.mono ?_
                rintro e w5 ⟨rfl, hk5, hg5⟩
                have hr5 := HR4.out.past HK4.out hg5
                have hbe5 := hg5.below HBE4.out (by intro i hi; simp at hi; omega) HBE4.out.size
                have hcP5 := HCP4.out.grew hg5 (by simp; omega)
                have p50 := hcP5.cell 0 (v := .int .i64 pa) rfl
                have p51 := hcP5.cell 1 (v := .int .i64 pe) rfl
                have p53 := hcP5.cell 3 (v := .int .u32 pg) rfl
                have p54 := hcP5.cell 4 (v := .slice va bs.length vc) rfl
                have s5 := convert_str (HROW.out w5 (HIM.out w5 hbe5).2)
                have HR5 := Lib.hid (HRW.out w5 hr5 hbe5.size)
                have HRR := Lib.hid hr5
                have HK5 := Lib.hid hk5
                have HBE5 := Lib.hid hbe5
                clear p40 p41 p43 p44 HFW HRW HR4 HK4 HBE4 HCP4 hr5 hk5 hg5 hbe5 hcP5
                go_wp2_with fail
                refine HR5.out.mono ?_
                rintro e w6 ⟨rfl, hr6, hg6⟩
                have hk6 := HK5.out.past HRR.out hg6
                have hbe6 := hg6.below HBE5.out (by simp; exact g4) HBE5.out.size
                have HN := Lib.hid (num_any ea K HFL.out w6 (HE.out w6 (HIM.out w6 hbe6).2))
                have bK : ((K : Int) == K) = true := by simp
                have bK' : ((K : Int) != K) = false := by simp
                have bF : (F == F) = true := by simp
                have bF' : (F != F) = false := by simp
                clear p50 p51 p53 p54 s5 HR5 HRR HK5 HBE5 hg6
                go_wp2_with fail
                refine HN.out.mono ?_
                rintro e w7 ⟨rfl, hb7⟩
                have hk7 := hk6.stays hb7
                have hr7 := hr6.stays hb7
                have hbe7 := hbe6.trans (hb7.mono hbe6.size)
                clear HN hk6 hr6 hbe6 hb7
                go_wp2_with fail
                go_roundw
                case rel =>
                  have h1 : D2.dur = D.dur := HFO.out.2.1
                  have h2 : D2.writes ≤ D.writes + 130 := HFO.out.2.2
                  exact ⟨k + 1, D2, by omega, by go_num, hk7, by rw [show 100 + 130 * (k + 1) = 100 + 130 * k + 130 from by omega]; exact hr7, by rw [h1]; exact hDl, by omega, hbe7⟩
                case measure => simp [intOf]; omega
        · obtain rfl : k = ls.length := by omega
          have hF := fuse_any hkd (n := -1) (by omega) (by omega)
          have HF := Lib.hid hF
          have HKD := Lib.hid hkd
          have HRD := Lib.hid hrd
          have HBE := Lib.hid hbe
          clear hF hkd hrd hbe qI hbw
          go_wp2_with fail
          refine HF.out.mono ?_
          rintro e w3 ⟨rfl, hk3, hg3⟩
          have hG3 := Grew.ofGrown hg3
          have hr3 := HRD.out.past HKD.out (hG3.mono (by simp))
          have hbe3 : Below w1.heap.size w1 w3 := hG3.below HBE.out (by simp; exact g1) HBE.out.size
          obtain ⟨c33, f33⟩ := hr3.c3
          have hG4 : Grew [h] w3 (w3.setCell ⟨h, 3, none⟩ (.int .i64 (-1))) := (Grew.refl [h] w3).setCell (p := ⟨h, 3, none⟩) (.inl (by simp)) _
          have hr4 := hr3.setFuse (-1)
          rw [show max (-1 : Int) (-1) = -1 from by omega] at hr4
          have hk4 := hk3.past hr3 hG4
          have hbe4 := hG4.below hbe3 (by simp; exact g4) hbe3.size
          obtain ⟨W4, hW4⟩ : ∃ W, W = w3.setCell ⟨h, 3, none⟩ (.int .i64 (-1)) := ⟨_, rfl⟩
          have HW4 := Lib.hid hW4
          rw [← hW4] at hr4 hk4 hbe4
          clear hW4 hG4 hr3 hk3 hbe3 hg3 hG3 HF HRD HKD HBE
          go_upto_region 21 with (fail)
          rw [← HW4.out]
          clear HW4 c33 f33
          obtain ⟨qI, hbw⟩ := HIM.out W4 hbe4
          have hfu : (fuseM D (-1)).fuse = -1 := by show max (-1 : Int) (-1) = -1; omega
          have hdu : (fuseM D (-1)).dur.length = ps.length := hDl
          generalize fuseM D (-1) = D1 at hfu hdu hk4 hr4
          have HFU := Lib.hid hfu
          have HDU := Lib.hid hdu
          clear hfu hdu hDl hbw
          go_wp2_with fail
          clear qI
          go_loopw [103] (fun i wr => ∃ k : Nat, k ≤ ps.length ∧ i = .int .i64 k ∧ Dk wr g gd gm D1 ∧ Rd2 wr w1.heap.size h (100 + 130 * ls.length) D1 ∧ Below w1.heap.size w1 wr) (fun i _ => ps.length - (intOf i).toNat)
          case atStart => exact ⟨0, Nat.zero_le _, rfl, hk4, hr4, hbe4⟩
          case round =>
            clear hk4 hr4 hbe4
            obtain ⟨k, hk, rfl, hkd, hrd, hbe⟩ := hrel
            have hbw := (HIM.out wr hbe).2
            by_cases hlt : k < ps.length
            · have hrk : readK D1 (k : Int) = 0 := readK_of ⟨by omega, by rw [HDU.out]; omega⟩ (by rw [HFU.out]; decide)
              have hE := HE.out wr hbw
              have hR1 := read_any ea hkd (x := (k : Int)) (by omega) (by omega) hE.e1 hE.e17
              have hR2 : ∀ w3, Rd2 w3 w1.heap.size h (100 + 130 * ls.length) D1 → _ := fun w3 h3 => rread_any h3 hkd.ok (x := (k : Int)) (by omega) (by omega)
              rw [hrk, EV_zero] at hR1
              simp only [hrk] at hR2
              obtain ⟨X, hX⟩ : ∃ X, X = readV D1 (k : Int) := ⟨_, rfl⟩
              rw [← hX] at hR1
              simp only [← hX] at hR2
              have HR1 := Lib.hid hR1
              have HR2 := Lib.hid hR2
              have HKD := Lib.hid hkd
              have HRD := Lib.hid hrd
              have HBE := Lib.hid hbe
              have sx : ((strB X).toList == (strB X).toList) = true := by simp
              clear hrk hE hR1 hR2 hX hkd hrd hbe hbw
              go_wp2_with fail
              refine HR1.out.mono ?_
              rintro e w3 ⟨v16, rfl, ho3, hb3⟩
              have hk3 := HKD.out.stays hb3
              have hr3 := HRD.out.stays hb3
              have hbe3 := HBE.out.trans (hb3.mono HBE.out.size)
              have HR3 := Lib.hid (HR2.out w3 hr3)
              have s3 := convert_str ho3.row
              clear HR1 HR2 HKD HRD HBE hb3 ho3
              go_wp2_with fail
              refine HR3.out.mono ?_
              rintro e w4 ⟨rfl, rfl⟩
              clear HR3
              go_wp2_with fail
              go_roundw
              case rel => exact ⟨k + 1, by omega, by go_num, hk3, hr3, hbe3⟩
              case measure => simp [intOf]; omega
            · have HN := Lib.hid (fwrite_nil ea wr 0 1 0 (.slice none 0 0) (HE.out wr hbw).e14)
              have HBW := Lib.hid hbw
              clear hkd hrd hbe hbw
              go_wp2_with fail
              refine HN.out.mono ?_
              rintro e w3 ⟨rfl, hb3⟩
              have hbe3 := HBW.out.trans (hb3.mono HBW.out.size)
              have HN2 := Lib.hid (num_any ea 14 (by decide) w3 (HE.out w3 hbe3))
              clear HN HBW hb3
              go_wp2_with fail
              refine HN2.out.mono ?_
              rintro e w4 ⟨rfl, hb4⟩
              have hbe4 := hbe3.trans (hb4.mono hbe3.size)
              clear HN2 hbe3 hb4
              go_wp2_with fail
              go_ret
              exact ⟨rfl, hbe4⟩
end Go.Proofs.YtgehbabcpmkgaaaDoor
