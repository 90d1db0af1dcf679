/- The walk of DiskActs: what a disk answers, act by act. -/
import Derived.Test.YtalebgnnlgcglaaDoorDaF
import Derived.Test.YtalebgnnlgcglaaDoorAlive31
import Derived.BigQuiet
import Derived.Deep.CutBlock
import Derived.Deep.DeepCutAuto
namespace Go.Proofs.YtalebgnnlgcglaaDoor
open Go Go.RowKit
set_option linter.unusedVariables false
theorem rd_c3 {w : World} {B h N : Nat} {d : Dm} (r : Rd2 w B h N d) : w.cell? ⟨h, 3, none⟩ = some (.int .i64 d.fuse) := r.c3.1
theorem rd_c4 {w : World} {B h N : Nat} {d : Dm} (r : Rd2 w B h N d) : w.cell? ⟨h, 4, none⟩ = some (.int .i64 d.writes) := by
  obtain ⟨m, vd, vw, rk, sim, -⟩ := r
  rw [rk.cells.cell 4 (v := .int .i64 m.writes) rfl, sim.writes]
theorem sameT (va vb : Value) (xs : List Int) (w : World) (ha : RowL IV w va xs) (hb : RowL IV w vb xs) (hlx : xs.length ≤ 100000000) :
    Calls Tryd.prog 15 #[va, vb] w fun e w' => e = .returned (.bool true) ∧ Below w.heap.size w w' := by
  have := sameZ_any va vb xs xs w ha hb hlx hlx
  rw [eqB_yes rfl] at this
  exact this
set_option maxRecDepth 100000 in
set_option maxHeartbeats 8000000 in
theorem walkDiskActs (w : World) (x : Int) (hx : -9223372036854775808 ≤ x ∧ x ≤ 9223372036854775807) (vl : Value) (ls : List Ac) (hrl : RowS acC w vl ls) (hgood : ∀ x ∈ ls, acG w x) (ea : Nat → Addr) (he : ErrsAll ea w) :
    Calls Tryd.prog 4 #[.int .i64 x, vl] w fun e w' => e = .returned (.bool true) ∧ Below w.heap.size w w' := by
  obtain ⟨al, cl, rfl, hll, -⟩ := RowS.shape hrl acC_len
  unfold maxLen at hll
  have HA := Lib.hid (alive31 ea w he.e1 he.e3 he.e17)
  have HE : Hid (∀ W, Below w.heap.size w W → ErrsAll ea W) := fun W hW => he.stays hW
  have HRL : Hid (∀ W, Below w.heap.size w W → RowS acC W (.slice al ls.length cl) ls) := fun W hW => hrl.stays hW
  have HG : Hid (∀ x ∈ ls, acG w x) := hgood
  have HL : Hid (∀ W, Below w.heap.size w W → Calls Tryd.prog 6 #[.slice al ls.length cl] W (LongP ls W)) := fun W hW => long_any W _ ls (hrl.stays hW) (fun x hx => by
    obtain ⟨h1, h2, h3, ⟨h4, h5⟩, h6, h7⟩ := hgood x hx
    exact ⟨h1, h2, h3.stays hW, ⟨h4.stays hW, h5⟩, h6.stays hW, h7⟩)
  obtain ⟨hx1, hx2⟩ := hx
  clear he hrl hgood
  go_enter Tryd.func4, Tryd.ntmps4
  go_wp2_with fail
  refine HA.out.mono ?_
  rintro e w1 ⟨rfl, hb1⟩
  have HL1 := Lib.hid (HL.out w1 hb1)
  have HB1 := Lib.hid hb1
  clear HA HL hb1
  go_wp2_with fail
  refine HL1.out.mono ?_
  rintro e w2 ⟨b, rfl, hsm, hb2⟩
  have hbe2 := HB1.out.trans (hb2.mono HB1.out.size)
  clear HL1 HB1 hb2
  cases b with
  | true =>
    go_wp2_with fail
    go_ret
    exact ⟨rfl, hbe2⟩
  | false =>
    obtain ⟨hl40, hsm⟩ := hsm rfl
    have HSM : Hid (∀ x ∈ ls, acS x) := hsm
    clear hsm
    by_cases hbad : x < 1 ∨ 1024 < x
    · have HN := Lib.hid (new_bad ea x w2 hbad (HE.out w2 hbe2).e1)
      have HB2 := Lib.hid hbe2
      rw [EV_pos ea (by decide)] at HN
      have hlt : (x < 1) ∨ (¬ x < 1 ∧ 1024 < x) := by omega
      clear hbe2 hbad
      rcases hlt with hlt | ⟨hlt, hlt2⟩
      all_goals
        go_wp2_with fail
        refine HN.out.mono ?_
        rintro e w3 ⟨rfl, hb3⟩
        have hbe3 := HB2.out.trans (hb3.mono HB2.out.size)
        have hnum := num_any ea 1 (by decide) w3 (HE.out w3 hbe3)
        rw [EV_pos ea (by decide)] at hnum
        have HNU := Lib.hid hnum
        have HB3 := Lib.hid hbe3
        clear hnum hbe3 hb3
        go_wp2_with fail
        refine HNU.out.mono ?_
        rintro e w4 ⟨rfl, hb4⟩
        have hbe4 := HB3.out.trans (hb4.mono HB3.out.size)
        clear hb4
        go_wp2_with fail
        go_ret
        exact ⟨rfl, hbe4⟩
    · obtain ⟨n, rfl⟩ := Int.eq_ofNat_of_zero_le (show 0 ≤ x by omega)
      have hn1 : 1 ≤ n := by omega
      have hn2 : n ≤ 1024 := by omega
      have HN := Lib.hid (new_ok n w2 hn1 hn2)
      have HB2 := Lib.hid hbe2
      have hi1 : (1 : Int) ≤ n := by omega
      have hi2 : (n : Int) ≤ 1024 := by omega
      have t1 : decide ((n : Int) < 1) = false := decide_eq_false (by omega)
      have t2 : decide ((1024 : Int) < n) = false := decide_eq_false (by omega)
      clear hbe2 hbad
      go_wp2_with fail
      refine HN.out.mono ?_
      rintro e w3 ⟨g, gd, gm, rfl, hk3, hg1, hg2, hg3, hb3⟩
      have hbe3 := HB2.out.trans (hb3.mono HB2.out.size)
      have hnl : (Dm.new n).dur.length = n := by simp [Dm.new]
      have hS := sectors_get hk3
      rw [hnl] at hS
      have HS3 := Lib.hid hS
      have HK3 := Lib.hid hk3
      have HB3 := Lib.hid hbe3
      have HGS : Hid (w.heap.size ≤ g ∧ w.heap.size ≤ gd ∧ w.heap.size ≤ gm) := by have := HB2.out.size; exact ⟨by omega, by omega, by omega⟩
      have bN : ((n : Int) == n) = true := by simp
      have bN' : ((n : Int) != n) = false := by simp
      clear hS hk3 hbe3 hb3 HN hnl HB2 hg1 hg2 hg3
      by_cases h40 : 40 < n
      · go_wp2_with fail
        refine HS3.out.mono ?_
        rintro e w4 ⟨rfl, rfl⟩
        go_wp2_with fail
        go_ret
        exact ⟨rfl, HB3.out⟩
      · have t3 : decide ((40 : Int) < n) = false := decide_eq_false (by omega)
        obtain ⟨W4, hW4⟩ : ∃ W, W = w3.alloc (.cells #[.int .i64 n, .slice none 0 0, .slice none 0 0, .int .i64 (-1), .int .i64 0] 48) := ⟨_, rfl⟩
        have hb4 : Below w3.heap.size w3 W4 := by rw [hW4]; exact (Below.refl _ _).alloc (Nat.le_refl _) _
        have hcR : CellsAt W4 w3.heap.size 48 #[.int .i64 n, .slice none 0 0, .slice none 0 0, .int .i64 (-1), .int .i64 0] := by rw [hW4]; exact CellsAt.new w3 _ _
        obtain ⟨h, hh⟩ : ∃ h, h = w3.heap.size := ⟨_, rfl⟩
        rw [← hh] at hcR
        have hr4 : Rd2 W4 w.heap.size h 0 (Dm.new n) := ⟨⟨n, [], [], -1, 0⟩, _, _, ⟨hcR, OwnS.nil _ _, OwnS.nil _ _, Nat.le_refl _, by decide⟩, Sim.new _, fun p hp => by cases hp⟩
        have hk4 := HK3.out.stays hb4
        have hS4 := sectors_get hk4
        rw [show (Dm.new n).dur.length = n from by simp [Dm.new]] at hS4
        rw [hW4] at hS4
        have HS4 := Lib.hid hS4
        have hbe4 := HB3.out.trans (hb4.mono HB3.out.size)
        have hgh : w.heap.size ≤ h := by rw [hh]; exact HB3.out.size
        have HW4 := Lib.hid hW4
        have HH := Lib.hid hh
        have HK4 := Lib.hid hk4
        have HR4 := Lib.hid hr4
        have HB4 := Lib.hid hbe4
        clear hW4 hb4 hcR hh hr4 hk4 hS4 hbe4 HS3 HK3 HB3
        go_wp2_with fail
        refine HS4.out.mono ?_
        rintro e w5 ⟨rfl, rfl⟩
        rw [← HW4.out, ← HH.out]
        clear HW4 HS4 HH
        go_wp2_with fail
        have HGI : Hid (∀ W, Grew [g, gd, gm, h] W4 W → Below w.heap.size w W) := fun W hW => hW.below HB4.out (by intro i hi; have := HGS.out; simp at hi; omega) HB4.out.size
        go_loopw [68] (fun i wr => ∃ (k : Nat) (D : Dm), k ≤ ls.length ∧ i = .int .i64 k ∧ Dk wr g gd gm D ∧ Rd2 wr w.heap.size h (41 * k) D ∧ Hid (D.dur.length = n) ∧ D.writes ≤ k ∧ Grew [g, gd, gm, h] W4 wr) (fun i _ => ls.length - (Go.RowKit.intOf i).toNat)
        case atStart => exact ⟨0, Dm.new n, Nat.zero_le _, rfl, HK4.out, HR4.out, by simp [Hid, Dm.new], Nat.le_refl _, Grew.refl _ _⟩
        case round =>
          clear HK4 HR4
          obtain ⟨k, D, hk, rfl, hkd, hrd, HDL, hDw, hgr⟩ := hrel
          have hbe : Below w.heap.size w wr := HGI.out wr hgr
          by_cases hlt : k < ls.length
          · obtain ⟨⟨ak, an, pv, bs, pk, ks, pt, ts⟩, hp⟩ : ∃ p, ls[k]? = some p := ⟨_, List.getElem?_eq_getElem hlt⟩
            have hmem := List.mem_of_getElem? hp
            obtain ⟨gk0, gn0, grow, ⟨gk, gkb⟩, gt, gtb⟩ := HG.out _ hmem
            obtain ⟨m1, m2, m3⟩ := HSM.out _ hmem
            replace gn0 : -9223372036854775808 ≤ an ∧ an ≤ 9223372036854775807 := gn0
            replace grow : RowB w pv bs := grow
            replace gk : RowL IV w pk ks := gk
            replace gt : RowL IV w pt ts := gt
            replace gkb : inI ks := gkb
            replace gtb : inI ts := gtb
            replace m1 : bs.length ≤ 100 := m1
            replace m2 : ks.length ≤ 20 := m2
            replace m3 : ts.length ≤ 20 := m3
            obtain ⟨va, vc, rfl, hvl, -⟩ := grow.gen.shape
            obtain ⟨ka, kc, rfl, hkl, -⟩ := gk.shape
            obtain ⟨ta, tc, rfl, htl, -⟩ := gt.shape
            unfold maxLen at hvl
            obtain ⟨_, _, hve, -, hin⟩ := (HRL.out wr hbe).shape acC_len
            cases hve
            obtain ⟨bb, oo, rfl, hc⟩ := hin k _ hp
            have d0 : wr.cell? ⟨bb, oo + (k * 5 + 0), none⟩ = some (.int .i64 ak) := hc 0 _ rfl
            have d1 : wr.cell? ⟨bb, oo + (k * 5 + 1), none⟩ = some (.int .i64 an) := hc 1 _ rfl
            have d2 : wr.cell? ⟨bb, oo + (k * 5 + 2), none⟩ = some (.slice va bs.length vc) := hc 2 _ rfl
            have d3 : wr.cell? ⟨bb, oo + (k * 5 + 3), none⟩ = some (.slice ka ks.length kc) := hc 3 _ rfl
            have d4 : wr.cell? ⟨bb, oo + (k * 5 + 4), none⟩ = some (.slice ta ts.length tc) := hc 4 _ rfl
            rw [Nat.add_zero] at d0
            rw [← Nat.add_assoc] at d1 d2 d3 d4
            obtain ⟨gn1, gn2⟩ := gn0
            obtain ⟨W1, hW1⟩ : ∃ W, W = wr.alloc (.cells #[.int .i64 ak, .int .i64 an, .slice va bs.length vc, .slice ka ks.length kc, .slice ta ts.length tc] 37) := ⟨_, rfl⟩
            have hbP : Below wr.heap.size wr W1 := by rw [hW1]; exact (Below.refl _ _).alloc (Nat.le_refl _) _
            have hcP : CellsAt W1 wr.heap.size 37 #[.int .i64 ak, .int .i64 an, .slice va bs.length vc, .slice ka ks.length kc, .slice ta ts.length tc] := by rw [hW1]; exact CellsAt.new wr _ _
            obtain ⟨P, hP⟩ : ∃ P, P = wr.heap.size := ⟨_, rfl⟩
            have hk1 := hkd.stays hbP
            have hr1 := hrd.stays hbP
            have hg1 := hgr.add hbP
            have hnP : ¬ P ∈ [g, gd, gm, h] := by have := hkd.lt; have := hrd.lt; rw [hP]; simp; omega
            rw [← hP] at hcP
            have hdi : DoIn ea g gd gm h w.heap.size (41 * k) D va vc bs ka kc ks ta tc ts W1 := ⟨hk1, hr1, (HGI.out W1 hg1).size, by omega, by omega, m1, m2, m3, gkb, gtb, by omega, fun W hW => by
              have hb := HGI.out W (hg1.trans hW)
              exact ⟨HE.out W hb, grow.stays hb, gk.stays hb, gt.stays hb⟩⟩
            have hdd := hdi.stays (W := W1.drew) (Below.refl _ _).drew
            have hDO := do_any hdd (ak := ak) (an := an) gn1 gn2
            have HS : Hid (∀ W, Grew [g, gd, gm, h] W1 W → Grew [g, gd, gm, h] W1 W ∧ W.cell? ⟨P, 0, none⟩ = some (.int .i64 ak) ∧ W.cell? ⟨P, 1, none⟩ = some (.int .i64 an) ∧ W.cell? ⟨P, 2, none⟩ = some (.slice va bs.length vc) ∧ W.cell? ⟨P, 3, none⟩ = some (.slice ka ks.length kc) ∧ W.cell? ⟨P, 4, none⟩ = some (.slice ta ts.length tc)) := fun W hW =>
              have hx := hcP.grew hW hnP
              ⟨hW, hx.cell 0 rfl, hx.cell 1 rfl, hx.cell 2 rfl, hx.cell 3 rfl, hx.cell 4 rfl⟩
            have hG10 : Grew [g, gd, gm, h] W1 W1 := Grew.refl _ _
            have hG1d : Grew [g, gd, gm, h] W1 W1.drew := hG10.drew
            have hx1 := HS.out W1 hG10
            obtain ⟨-, x0, x1, x2, x3, x4⟩ := hx1
            have HDO := Lib.hid hDO
            have HW1 := Lib.hid hW1
            have HG1 := Lib.hid hg1
            have HP := Lib.hid hP
            have hgm : (g ≤ 0 ∨ 0 < g) := by omega
            have hdl : D.dur.length ≤ 40 := by rw [HDL.out]; omega
            clear hc hin grow gk gt gkb gtb hp hmem hbe hkd hrd hgr hW1 hbP hcP hk1 hr1 hg1 gk0 hdi hdd hDO hgm hP
            go_wp2_with fail
            rw [← HW1.out, ← HP.out]
            clear HW1 HP d0 d1 d2 d3 d4
            have HNM : Hid (Grew [g, gd, gm, h] W4 W1) := HG1.out
            clear HS
            go_region_with ((first
                | (go_at_call 14; (with_reducible refine HDO.out.mono ?_); rintro e w5 ⟨D5, rfl, hk5, hr5, hl5, hw5, hg5⟩)
                | (go_at_call 16; (with_reducible refine (waiting_any hk5).mono ?_); rintro e w6 ⟨v6, rfl, hr6, hb6⟩)
                | (go_at_call 17; (with_reducible refine (rpending_any (hr5.stays hb6) (by omega)).mono ?_); rintro e w7 ⟨v7, rfl, hr7, hb7⟩; have hb57 := hb6.trans (hb7.mono hb6.size))
                | (go_at_call 15; (with_reducible refine (sameT v6 v7 (pendL D5) w7 (hr6.stays hb7) hr7 (by have := pend_len D5; omega)).mono ?_); rintro e w8 ⟨rfl, hb8⟩; have hb58 := hb57.trans (hb8.mono hb57.size); have hr8 := hr5.stays hb58; have hk8 := hk5.stays hb58; have e3 := (rd_c3 hr8); have e4 := (rd_c4 hr8); have bW : ((D5.writes : Int) != D5.writes) = false := (by simp); have bF : (D5.fuse != 0) = pwB D5 := rfl; have bP : (pwB D5 != pwB D5) = false := (by simp))
                | (go_at_call 18; (with_reducible refine (writes_any hk8).mono ?_); rintro e w9 ⟨rfl, rfl⟩)
                | (go_at_call 19; (with_reducible refine (power_any hk8).mono ?_); rintro e w9 ⟨rfl, rfl⟩)))
            all_goals
              have hgr8 : Grew [g, gd, gm, h] W4 w8 := HNM.out.trans ((hG1d.trans hg5).add hb58)
              have hl8 : D5.dur.length = n := hl5.trans HDL.out
              have HL8 := Lib.hid hl8
              have HKR := Lib.hid (And.intro hk8 hr8)
              have HGR := Lib.hid hgr8
              have hw8 : D5.writes ≤ k + 1 := by omega
              clear hk5 hr5 hl5 hw5 hg5 hr6 hb6 hr7 hb7 hb57 hb8 hb58 hr8 hk8 e3 e4 bW bF bP hgr8 hl8 hG10 hG1d x0 x1 x2 x3 x4
              go_wp2_with fail
              go_roundw
              case rel => exact ⟨k + 1, D5, by omega, by go_num, HKR.out.1, by rw [show 41 * (k + 1) = 41 * k + 41 from by omega]; exact HKR.out.2, HL8.out, hw8, HGR.out⟩
              case measure => simp [Go.RowKit.intOf]; omega
          · obtain rfl : k = ls.length := by omega
            obtain ⟨m, vd, vw, rk, sim, -⟩ := id hrd
            have hIM := image_any hkd
            have hdl := HDL.out
            have hgr1 := HGI.out wr hgr
            have HIM := Lib.hid hIM
            have HDU := Lib.hid sim.dur
            have HRK : Hid (∀ W, Below wr.heap.size wr W → W.cell? ⟨h, 1, none⟩ = some vd ∧ RowS wrC W vd m.dur) := fun W hW => ⟨(rk.cells.stays hW).cell 1 (v := vd) rfl, rk.dur.row.stays hW⟩
            have hml : m.dur.length ≤ 1000000 := by have := rk.lens; have := rk.small; omega
            have HDLL := Lib.hid hdl
            clear hIM hkd hrd hgr sim rk hbe hdl
            go_wp2_with fail
            refine HIM.out.mono ?_
            rintro e w5 ⟨v5, fs, rfl, hri, hmi, hpi, hb5⟩
            have hfl : fs.length = n := by rw [← HDLL.out, ← hmi, List.length_map]
            obtain ⟨a5, c5, rfl, hcl, hin5⟩ := hri.shape
            rw [hfl]
            have HRK5 : Hid (w5.cell? ⟨h, 1, none⟩ = some vd ∧ RowS wrC w5 vd m.dur) := HRK.out w5 hb5
            have hbe5 := hgr1.trans (hb5.mono hgr1.size)
            have HIN := Lib.hid hin5
            have HMI := Lib.hid hmi
            have HPI := Lib.hid hpi
            have HFL := Lib.hid hfl
            have HBE5 := Lib.hid hbe5
            have hni : (n : Int) ≤ 40 := by omega
            clear HIM hri hmi hpi hb5 hcl hin5 hgr1 hbe5 HRK hfl
            go_wp2_with fail
            go_loopw [113] (fun i wr => ∃ j : Nat, j ≤ n ∧ i = .int .i64 j ∧ Below w5.heap.size w5 wr) (fun i _ => n - (Go.RowKit.intOf i).toNat)
            case atStart => exact ⟨0, Nat.zero_le _, rfl, Below.refl _ _⟩
            case round =>
              obtain ⟨j, hj, rfl, hbr⟩ := hrel
              by_cases hjn : j < n
              · obtain ⟨p, hp⟩ : ∃ p, fs[j]? = some p := ⟨_, List.getElem?_eq_getElem (by rw [HFL.out]; exact hjn)⟩
                obtain ⟨b5, o5, rfl, hc5⟩ := HIN.out j p hp
                have hc : wr.cell? ⟨b5, o5 + j, none⟩ = some p.v := by
                  rw [hbr.cell (p := ⟨b5, o5 + j, none⟩) (World.block_lt_of_cell? _ _ hc5)]
                  exact hc5
                obtain ⟨pa, pn, pc, ps⟩ := p
                replace hc : wr.cell? ⟨b5, o5 + j, none⟩ = some (.slice pa pn pc) := hc
                have hrow : RowB wr (.slice pa pn pc) ps := (HPI.out _ (List.mem_of_getElem? hp)).stays hbr
                have hds : D.dur[j]? = some ps := by rw [← HMI.out, List.getElem?_map, hp]; rfl
                have hlo := HDU.out j ps hds
                have s1 := convert_str hrow
                have hcd : wr.cell? ⟨h, 1, none⟩ = some vd := by
                  rw [hbr.cell (p := ⟨h, 1, none⟩) (World.block_lt_of_cell? _ _ HRK5.out.1)]
                  exact HRK5.out.1
                have hRL := rlast_any vd m.dur (j : Int) wr (HRK5.out.2.stays hbr) hml
                unfold lastR at hRL
                rw [← hlo] at hRL
                have HRL2 := Lib.hid hRL
                have bS : ((strB ps).toList != (strB ps).toList) = false := by simp
                have HBR := Lib.hid hbr
                clear hp hc5 hrow hds hlo hRL hbr
                go_wp2_with fail
                refine HRL2.out.mono ?_
                rintro e w6 ⟨rfl, rfl⟩
                go_wp2_with fail
                go_roundw
                case rel => exact ⟨j + 1, by omega, by go_num, HBR.out⟩
                case measure => simp [Go.RowKit.intOf]; omega
              · obtain rfl : j = n := by omega
                have hfin := HBE5.out.trans (hbr.mono HBE5.out.size)
                clear hbr
                go_wp2_with fail
                go_ret
                exact ⟨rfl, hfin⟩
end Go.Proofs.YtalebgnnlgcglaaDoor
