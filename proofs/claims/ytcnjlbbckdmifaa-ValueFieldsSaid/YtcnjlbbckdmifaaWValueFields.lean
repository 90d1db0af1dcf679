/- The walk of ValueFields: every right message with a field's value, and what is got of it. -/
import Derived.Test.YtcnjlbbckdmifaaAlive13
import Derived.Test.YtcnjlbbckdmifaaOpenV
import Derived.Test.YtcnjlbbckdmifaaVx
import Derived.Test.YtcnjlbbckdmifaaVs
import Derived.Deep.CutRange
import Derived.Deep.DeepCutAuto
namespace Go.Proofs.Ytcnjlbbckdmifaa
open Go Go.RowKit
set_option linter.unusedVariables false
set_option maxRecDepth 100000 in
set_option maxHeartbeats 16000000 in
theorem walkValueFields (w : World) (va : V) (aa : A3) (hra : Rep (fun _ => True) w va aa) (num : Int) (hnum : -9223372036854775808 ≤ num ∧ num ≤ 9223372036854775807) (vb : V) (ab : A3) (hrb : Rep (fun _ => True) w vb ab) :
    Calls Try.prog 5 #[vG (va, aa), .int .i64 num, vG (vb, ab)] w fun e w' => e = .returned (.bool true) ∧ Below w.heap.size w w' := by
  obtain ⟨k, n, t, fs, r, ls, ps⟩ := va
  obtain ⟨fa, fc, la, lc, pa, pc⟩ := aa
  obtain ⟨k2, n2, t2, fs2, r2, ls2, ps2⟩ := vb
  obtain ⟨fa2, fc2, la2, lc2, pa2, pc2⟩ := ab
  rw [vG_lit, vG_lit]
  obtain ⟨W0, hW0⟩ : ∃ W0, W0 = (w.alloc (.cells #[.int .i64 k, .int .u64 (n : Int), .string (strB t), .slice fa fs.length fc, .string (strB r), .slice la ls.length lc, .slice pa ps.length pc] 27)).alloc (.cells #[.int .i64 k2, .int .u64 (n2 : Int), .string (strB t2), .slice fa2 fs2.length fc2, .string (strB r2), .slice la2 ls2.length lc2, .slice pa2 ps2.length pc2] 27) := ⟨_, rfl⟩
  obtain ⟨g, hg⟩ : ∃ g, g = w.heap.size := ⟨_, rfl⟩
  have HBA : Hid (Below w.heap.size w W0) := by rw [hW0]; exact ((Below.refl _ _).alloc (Nat.le_refl _) _).alloc (by simp) _
  have hcx : CellsAt W0 g 27 #[.int .i64 k, .int .u64 (n : Int), .string (strB t), .slice fa fs.length fc, .string (strB r), .slice la ls.length lc, .slice pa ps.length pc] := by rw [hW0, hg]; exact (CellsAt.new w _ _).stays ((Below.refl _ _).alloc (Nat.le_refl _) _)
  have hcy : CellsAt W0 (g + 1) 27 #[.int .i64 k2, .int .u64 (n2 : Int), .string (strB t2), .slice fa2 fs2.length fc2, .string (strB r2), .slice la2 ls2.length lc2, .slice pa2 ps2.length pc2] := by
    have := CellsAt.new (w.alloc (.cells #[.int .i64 k, .int .u64 (n : Int), .string (strB t), .slice fa fs.length fc, .string (strB r), .slice la ls.length lc, .slice pa ps.length pc] 27)) #[.int .i64 k2, .int .u64 (n2 : Int), .string (strB t2), .slice fa2 fs2.length fc2, .string (strB r2), .slice la2 ls2.length lc2, .slice pa2 ps2.length pc2] 27
    rw [show (w.alloc (.cells #[.int .i64 k, .int .u64 (n : Int), .string (strB t), .slice fa fs.length fc, .string (strB r), .slice la ls.length lc, .slice pa ps.length pc] 27)).heap.size = w.heap.size + 1 by simp] at this
    rw [hW0, hg]; exact this
  have HS : Hid (∀ W, Below W0.heap.size W0 W → Below W0.heap.size W0 W ∧ W.cell? ⟨g, 0, none⟩ = some (.int .i64 k) ∧ W.cell? ⟨g, 1, none⟩ = some (.int .u64 (n : Int)) ∧ W.cell? ⟨g, 2, none⟩ = some (.string (strB t)) ∧ W.cell? ⟨g, 3, none⟩ = some (.slice fa fs.length fc) ∧ W.cell? ⟨g, 4, none⟩ = some (.string (strB r)) ∧ W.cell? ⟨g, 5, none⟩ = some (.slice la ls.length lc) ∧ W.cell? ⟨g, 6, none⟩ = some (.slice pa ps.length pc) ∧ W.cell? ⟨g + 1, 0, none⟩ = some (.int .i64 k2) ∧ W.cell? ⟨g + 1, 1, none⟩ = some (.int .u64 (n2 : Int)) ∧ W.cell? ⟨g + 1, 2, none⟩ = some (.string (strB t2)) ∧ W.cell? ⟨g + 1, 3, none⟩ = some (.slice fa2 fs2.length fc2) ∧ W.cell? ⟨g + 1, 4, none⟩ = some (.string (strB r2)) ∧ W.cell? ⟨g + 1, 5, none⟩ = some (.slice la2 ls2.length lc2) ∧ W.cell? ⟨g + 1, 6, none⟩ = some (.slice pa2 ps2.length pc2)) := fun W hb => by
    obtain ⟨a0, a1, a2, a3, a4, a5, a6⟩ := box7 (hcx.stays hb)
    obtain ⟨b0, b1, b2, b3, b4, b5, b6⟩ := box7 (hcy.stays hb)
    exact ⟨hb, a0, a1, a2, a3, a4, a5, a6, b0, b1, b2, b3, b4, b5, b6⟩
  have HA : Hid (∀ W, Below W0.heap.size W0 W → Rep (fun _ => True) W (.mk k n t fs r ls ps) ⟨fa, fc, la, lc, pa, pc⟩) := fun W hb => hra.stays (HBA.out.trans (hb.mono HBA.out.size))
  have HB : Hid (∀ W, Below W0.heap.size W0 W → Rep (fun _ => True) W (.mk k2 n2 t2 fs2 r2 ls2 ps2) ⟨fa2, fc2, la2, lc2, pa2, pc2⟩) := fun W hb => hrb.stays (HBA.out.trans (hb.mono HBA.out.size))
  have HF : Hid (∀ W, Below W0.heap.size W0 W → Below w.heap.size w W) := fun W hb => HBA.out.trans (hb.mono HBA.out.size)
  have HW := Lib.hid hW0
  have HG := Lib.hid hg
  clear hra hrb hcx hcy hW0 hg HBA
  go_enter Try.func5, Try.ntmps5
  go_wp2_with fail
  have hW0 := HW.out
  have hg := HG.out
  rw [← hW0, ← hg]
  clear hW0 hg HW HG
  refine (alive13 _).mono ?_
  rintro e w1 ⟨rfl, hb1⟩
  obtain ⟨-, x0, x1, x2, x3, x4, x5, x6, y0, y1, y2, y3, y4, y5, y6⟩ := HS.out w1 hb1
  go_wp2_with fail
  refine (Great_any (by omega) (by omega) (HA.out w1 hb1)).mono ?_
  rintro e w2 ⟨rfl, hb2⟩
  replace hb2 := hb1.trans (hb2.mono hb1.size)
  clear hb1 x0 x1 x2 x3 x4 x5 x6 y0 y1 y2 y3 y4 y5 y6
  by_cases hga : greatV (.mk k n t fs r ls ps) 100 30 < 0
  · have HF2 := Lib.hid (HF.out w2 hb2)
    go_wp2_with fail
    go_ret
    exact ⟨rfl, HF2.out⟩
  have HWA := Lib.hid (great_w2 hga)
  have e1 : decide (greatV (.mk k n t fs r ls ps) 100 30 < 0) = false := decide_eq_false hga
  generalize decide (greatV (.mk k n t fs r ls ps) 100 30 < 0) = b1 at e1 ⊢
  subst e1
  obtain ⟨-, x0, x1, x2, x3, x4, x5, x6, y0, y1, y2, y3, y4, y5, y6⟩ := HS.out w2 hb2
  clear hga
  go_wp2_with fail
  refine (Great_any (by omega) (by omega) (HB.out w2 hb2)).mono ?_
  rintro e w3 ⟨rfl, hb3⟩
  replace hb3 := hb2.trans (hb3.mono hb2.size)
  clear hb2 x0 x1 x2 x3 x4 x5 x6 y0 y1 y2 y3 y4 y5 y6
  by_cases hgb : greatV (.mk k2 n2 t2 fs2 r2 ls2 ps2) 100 30 < 0
  · have HF2 := Lib.hid (HF.out w3 hb3)
    go_wp2_with fail
    go_ret
    exact ⟨rfl, HF2.out⟩
  have HWB := Lib.hid (great_w2 hgb)
  have e1 : decide (greatV (.mk k2 n2 t2 fs2 r2 ls2 ps2) 100 30 < 0) = false := decide_eq_false hgb
  generalize decide (greatV (.mk k2 n2 t2 fs2 r2 ls2 ps2) 100 30 < 0) = b1 at e1 ⊢
  subst e1
  obtain ⟨-, x0, x1, x2, x3, x4, x5, x6, y0, y1, y2, y3, y4, y5, y6⟩ := HS.out w3 hb3
  clear hgb
  go_wp2_with fail
  refine (right_lit (HA.out w3 hb3)).mono ?_
  rintro e w4 ⟨rfl, hb4⟩
  replace hb4 := hb3.trans (hb4.mono hb3.size)
  clear hb3 x0 x1 x2 x3 x4 x5 x6 y0 y1 y2 y3 y4 y5 y6
  cases hRA : rightV (.mk k n t fs r ls ps) with
  | false =>
    have HF2 := Lib.hid (HF.out w4 hb4)
    clear hRA
    go_wp2_with fail
    go_ret
    exact ⟨rfl, HF2.out⟩
  | true =>
  have HRA := Lib.hid hRA
  clear hRA
  obtain ⟨-, x0, x1, x2, x3, x4, x5, x6, y0, y1, y2, y3, y4, y5, y6⟩ := HS.out w4 hb4
  go_wp2_with fail
  refine (right_lit (HB.out w4 hb4)).mono ?_
  rintro e w5 ⟨rfl, hb5⟩
  replace hb5 := hb4.trans (hb5.mono hb4.size)
  clear hb4 x0 x1 x2 x3 x4 x5 x6 y0 y1 y2 y3 y4 y5 y6
  cases hRB : rightV (.mk k2 n2 t2 fs2 r2 ls2 ps2) with
  | false =>
    have HF2 := Lib.hid (HF.out w5 hb5)
    clear hRB
    go_wp2_with fail
    go_ret
    exact ⟨rfl, HF2.out⟩
  | true =>
  have HRB := Lib.hid hRB
  clear hRB
  obtain ⟨-, x0, x1, x2, x3, x4, x5, x6, y0, y1, y2, y3, y4, y5, y6⟩ := HS.out w5 hb5
  -- the trees that are made
  have hww : wV (withV (.mk k n t fs r ls ps) num (.mk k2 n2 t2 fs2 r2 ls2 ps2)) ≤ 1000000 := by have := w_with (.mk k n t fs r ls ps) (.mk k2 n2 t2 fs2 r2 ls2 ps2) num; have := HWA.out; have := HWB.out; omega
  have hwg : wV (getV (.mk k n t fs r ls ps) num) ≤ 1000000 := by have := w_get (.mk k n t fs r ls ps) num; have := HWA.out; omega
  have hrw : rightV (withV (.mk k n t fs r ls ps) num (.mk k2 n2 t2 fs2 r2 ls2 ps2)) = true := right_with HRA.out HRB.out
  have hgp : k = 3 → 1 ≤ num → num ≤ 536870911 → getV (withV (.mk k n t fs r ls ps) num (.mk k2 n2 t2 fs2 r2 ls2 ps2)) num = .mk k2 n2 t2 fs2 r2 ls2 ps2 := fun h3 h1 h2 => got_put HRA.out HRB.out h3 h1 h2
  have hfl : fs.length ≤ 1000000 := by have := wF_len fs; have := HWA.out; rw [wV_eq] at this; simp only [V.fs] at this; omega
  have HCW : Hid (∀ W, Below W0.heap.size W0 W → Calls _ _ _ W _) := fun W hb => with_any num (HA.out W hb) (HB.out W hb) HRA.out hfl hnum
  have HCG : Hid (∀ W, Below W0.heap.size W0 W → Calls _ _ _ W _) := fun W hb => get_any num (HA.out W hb) HRA.out hfl
  have HRG : Hid (∀ (W : World) (fa la pa : Option Addr) (fc lc pc : Nat) (S : Nat → Prop), Rep S W (.mk k n t fs r ls ps) ⟨fa, fc, la, lc, pa, pc⟩ → Calls _ _ _ W _) := fun W fa la pa fc lc pc S hr => rget_any (w := W) num hr hfl
  have HRW : Hid (∀ (W : World) (fa la pa : Option Addr) (fc lc pc : Nat) (fa2 la2 pa2 : Option Addr) (fc2 lc2 pc2 : Nat) (S S2 : Nat → Prop), Rep S W (.mk k n t fs r ls ps) ⟨fa, fc, la, lc, pa, pc⟩ → Rep S2 W (.mk k2 n2 t2 fs2 r2 ls2 ps2) ⟨fa2, fc2, la2, lc2, pa2, pc2⟩ → Calls Try.prog 26 #[.agg #[.int .i64 k, .int .u64 (n : Int), .string (strB t), .slice fa fs.length fc, .string (strB r), .slice la ls.length lc, .slice pa ps.length pc], .int .i64 num, .agg #[.int .i64 k2, .int .u64 (n2 : Int), .string (strB t2), .slice fa2 fs2.length fc2, .string (strB r2), .slice la2 ls2.length lc2, .slice pa2 ps2.length pc2]] W fun e w' => ∃ (a : A3), e = .returned (vG (withV (.mk k n t fs r ls ps) num (.mk k2 n2 t2 fs2 r2 ls2 ps2), a)) ∧ (∃ SX : Nat → Prop, (∀ k, SX k → S k ∨ S2 k ∨ W.heap.size ≤ k) ∧ Rep SX w' (withV (.mk k n t fs r ls ps) num (.mk k2 n2 t2 fs2 r2 ls2 ps2)) a) ∧ Below W.heap.size W w') := fun W fa la pa fc lc pc fa2 la2 pa2 fc2 lc2 pc2 S S2 hr hx => (rwith_S (w := W) num hr hx hfl hnum).mono fun e w' ⟨a, h1, h2, h3⟩ => ⟨a, h1, ⟨_, fun k hk => hk, h2⟩, h3⟩
  generalize hX : withV (.mk k n t fs r ls ps) num (.mk k2 n2 t2 fs2 r2 ls2 ps2) = X at HCW HRW hww hrw hgp
  generalize hY : getV (.mk k n t fs r ls ps) num = Y at HCG HRG hwg
  obtain ⟨k6, n6, t6, fs6, r6, ls6, ps6⟩ := X
  obtain ⟨k5, n5, t5, fs5, r5, ls5, ps5⟩ := Y
  have hfl6 : fs6.length ≤ 1000000 := by have := wF_len fs6; rw [wV_eq] at hww; simp only [V.fs] at hww; omega
  have HCO : Hid (∀ W, Below W0.heap.size W0 W → Calls Try.prog 14 #[.agg #[.int .i64 k, .int .u64 (n : Int), .string (strB t), .slice fa fs.length fc, .string (strB r), .slice la ls.length lc, .slice pa ps.length pc]] W fun e w' => ∃ (fa la pa : Option Addr) (fc lc pc : Nat), e = .returned (.agg #[.int .i64 k, .int .u64 (n : Int), .string (strB t), .slice fa fs.length fc, .string (strB r), .slice la ls.length lc, .slice pa ps.length pc]) ∧ (∃ S : Nat → Prop, (∀ k, S k → W.heap.size ≤ k ∧ k < w'.heap.size) ∧ Rep S w' (.mk k n t fs r ls ps) ⟨fa, fc, la, lc, pa, pc⟩) ∧ Below W.heap.size W w') := fun W hb => (OfC.lit (of_any _) (HA.out W hb) (by have := HWA.out; omega)).mono fun e w' ⟨fa, la, pa, fc, lc, pc, h1, h2, h3⟩ => ⟨fa, la, pa, fc, lc, pc, h1, ⟨_, fun k hk => hk, h2.lt⟩, h3⟩
  have HCP : Hid (∀ W, Below W0.heap.size W0 W → Calls Try.prog 14 #[.agg #[.int .i64 k2, .int .u64 (n2 : Int), .string (strB t2), .slice fa2 fs2.length fc2, .string (strB r2), .slice la2 ls2.length lc2, .slice pa2 ps2.length pc2]] W fun e w' => ∃ (fa2 la2 pa2 : Option Addr) (fc2 lc2 pc2 : Nat), e = .returned (.agg #[.int .i64 k2, .int .u64 (n2 : Int), .string (strB t2), .slice fa2 fs2.length fc2, .string (strB r2), .slice la2 ls2.length lc2, .slice pa2 ps2.length pc2]) ∧ (∃ S : Nat → Prop, (∀ k, S k → W.heap.size ≤ k ∧ k < w'.heap.size) ∧ Rep S w' (.mk k2 n2 t2 fs2 r2 ls2 ps2) ⟨fa2, fc2, la2, lc2, pa2, pc2⟩) ∧ Below W.heap.size W w') := fun W hb => (OfC.lit (of_any _) (HB.out W hb) (by have := HWB.out; omega)).mono fun e w' ⟨fa, la, pa, fc, lc, pc, h1, h2, h3⟩ => ⟨fa, la, pa, fc, lc, pc, h1, ⟨_, fun k hk => hk, h2.lt⟩, h3⟩
  have HQX : Hid (∀ W fa la pa fc lc pc (S : Nat → Prop), Rep S W (.mk k6 n6 t6 fs6 r6 ls6 ps6) ⟨fa, fc, la, lc, pa, pc⟩ → Calls _ _ _ W _) := fun W fa la pa fc lc pc S hr => OfC.lit (w := W) (of_any _) hr hww
  have HQY : Hid (∀ W fa la pa fc lc pc (S : Nat → Prop), Rep S W (.mk k5 n5 t5 fs5 r5 ls5 ps5) ⟨fa, fc, la, lc, pa, pc⟩ → Calls _ _ _ W _) := fun W fa la pa fc lc pc S hr => OfC.lit (w := W) (of_any _) hr hwg
  have HGP := Lib.hid hgp
  have HRR := Lib.hid hrw
  have HB5 := Lib.hid hb5
  clear hb5 hww hwg hrw hgp hX hY
  go_wp2_with fail
  refine (HCO.out _ HB5.out).mono ?_
  rintro e w6 ⟨fa7, la7, pa7, fc7, lc7, pc7, rfl, ⟨S7, hS7, hr7⟩, hb6⟩
  have hb06 : Below W0.heap.size W0 w6 := below_call hb6 HB5.out
  clear x0 x1 x2 x3 x4 x5 x6 y0 y1 y2 y3 y4 y5 y6
  -- the first box
  obtain ⟨W6, hW6⟩ : ∃ W6, W6 = w6.alloc (.cells #[.int .i64 k, .int .u64 (n : Int), .string (strB t), .slice fa7 fs.length fc7, .string (strB r), .slice la7 ls.length lc7, .slice pa7 ps.length pc7] 34) := ⟨_, rfl⟩
  obtain ⟨b7, hb7⟩ : ∃ b7, b7 = w6.heap.size := ⟨_, rfl⟩
  have hbA : Below w6.heap.size w6 W6 := by rw [hW6]; exact (Below.refl _ _).alloc (Nat.le_refl _) _
  have hc7 : CellsAt W6 b7 34 #[.int .i64 k, .int .u64 (n : Int), .string (strB t), .slice fa7 fs.length fc7, .string (strB r), .slice la7 ls.length lc7, .slice pa7 ps.length pc7] := by rw [hW6, hb7]; exact CellsAt.new w6 _ _
  have hB6 : Below W0.heap.size W0 W6 := hb06.trans (hbA.mono hb06.size)
  have hR7 : Rep S7 W6 (.mk k n t fs r ls ps) ⟨fa7, fc7, la7, lc7, pa7, pc7⟩ := hr7.stays hbA
  have HW6 := Lib.hid hW6
  have HB7 := Lib.hid hb7
  clear hr7 hb6 hb06 hW6 hb7 hbA
  go_upto_region 6 with fail
  have hW6 := HW6.out
  have hb7 := HB7.out
  rw [← hW6, ← hb7]
  clear hW6 hb7 HW6 HB7
  obtain ⟨-, x0, x1, x2, x3, x4, x5, x6, y0, y1, y2, y3, y4, y5, y6⟩ := HS.out W6 hB6
  go_wp2_with fail
  refine (HCW.out _ hB6).mono ?_
  intro e w7 hv7
  obtain ⟨fa6, la6, pa6, fc6, lc6, pc6, rfl, hr6, hb7⟩ := hv7.lit
  clear hv7 x0 x1 x2 x3 x4 x5 x6 y0 y1 y2 y3 y4 y5 y6
  -- the second box
  obtain ⟨W7, hW7⟩ : ∃ W7, W7 = w7.alloc (.cells #[.int .i64 k6, .int .u64 (n6 : Int), .string (strB t6), .slice fa6 fs6.length fc6, .string (strB r6), .slice la6 ls6.length lc6, .slice pa6 ps6.length pc6] 27) := ⟨_, rfl⟩
  obtain ⟨b8, hb8⟩ : ∃ b8, b8 = w7.heap.size := ⟨_, rfl⟩
  have hbA : Below w7.heap.size w7 W7 := by rw [hW7]; exact (Below.refl _ _).alloc (Nat.le_refl _) _
  have hc8 : CellsAt W7 b8 27 #[.int .i64 k6, .int .u64 (n6 : Int), .string (strB t6), .slice fa6 fs6.length fc6, .string (strB r6), .slice la6 ls6.length lc6, .slice pa6 ps6.length pc6] := by rw [hW7, hb8]; exact CellsAt.new w7 _ _
  have hbB : Below W6.heap.size W6 W7 := hb7.trans (hbA.mono hb7.size)
  have hR6 : Rep (fun _ => True) W7 (.mk k6 n6 t6 fs6 r6 ls6 ps6) ⟨fa6, fc6, la6, lc6, pa6, pc6⟩ := hr6.stays hbA
  have hB7 : Below W0.heap.size W0 W7 := hB6.trans (hbB.mono hB6.size)
  have hR7' : Rep (fun k => S7 k ∧ k < W6.heap.size) W7 (.mk k n t fs r ls ps) ⟨fa7, fc7, la7, lc7, pa7, pc7⟩ := hR7.lt.stays hbB
  have hc7' : CellsAt W7 b7 34 #[.int .i64 k, .int .u64 (n : Int), .string (strB t), .slice fa7 fs.length fc7, .string (strB r), .slice la7 ls.length lc7, .slice pa7 ps.length pc7] := hc7.stays hbB
  have hsz : W6.heap.size ≤ W7.heap.size := hbB.size
  have HW7 := Lib.hid hW7
  have HB8 := Lib.hid hb8
  clear hr6 hb7 hW7 hb8 hbA hbB hR7 hc7
  have HS7 : Hid (∀ W, Below W7.heap.size W7 W → Below W7.heap.size W7 W ∧ W.cell? ⟨g, 0, none⟩ = some (.int .i64 k) ∧ W.cell? ⟨g, 1, none⟩ = some (.int .u64 (n : Int)) ∧ W.cell? ⟨g, 2, none⟩ = some (.string (strB t)) ∧ W.cell? ⟨g, 3, none⟩ = some (.slice fa fs.length fc) ∧ W.cell? ⟨g, 4, none⟩ = some (.string (strB r)) ∧ W.cell? ⟨g, 5, none⟩ = some (.slice la ls.length lc) ∧ W.cell? ⟨g, 6, none⟩ = some (.slice pa ps.length pc) ∧ W.cell? ⟨g + 1, 0, none⟩ = some (.int .i64 k2) ∧ W.cell? ⟨g + 1, 1, none⟩ = some (.int .u64 (n2 : Int)) ∧ W.cell? ⟨g + 1, 2, none⟩ = some (.string (strB t2)) ∧ W.cell? ⟨g + 1, 3, none⟩ = some (.slice fa2 fs2.length fc2) ∧ W.cell? ⟨g + 1, 4, none⟩ = some (.string (strB r2)) ∧ W.cell? ⟨g + 1, 5, none⟩ = some (.slice la2 ls2.length lc2) ∧ W.cell? ⟨g + 1, 6, none⟩ = some (.slice pa2 ps2.length pc2) ∧ W.cell? ⟨b7, 0, none⟩ = some (.int .i64 k) ∧ W.cell? ⟨b7, 1, none⟩ = some (.int .u64 (n : Int)) ∧ W.cell? ⟨b7, 2, none⟩ = some (.string (strB t)) ∧ W.cell? ⟨b7, 3, none⟩ = some (.slice fa7 fs.length fc7) ∧ W.cell? ⟨b7, 4, none⟩ = some (.string (strB r)) ∧ W.cell? ⟨b7, 5, none⟩ = some (.slice la7 ls.length lc7) ∧ W.cell? ⟨b7, 6, none⟩ = some (.slice pa7 ps.length pc7) ∧ W.cell? ⟨b8, 0, none⟩ = some (.int .i64 k6) ∧ W.cell? ⟨b8, 1, none⟩ = some (.int .u64 (n6 : Int)) ∧ W.cell? ⟨b8, 2, none⟩ = some (.string (strB t6)) ∧ W.cell? ⟨b8, 3, none⟩ = some (.slice fa6 fs6.length fc6) ∧ W.cell? ⟨b8, 4, none⟩ = some (.string (strB r6)) ∧ W.cell? ⟨b8, 5, none⟩ = some (.slice la6 ls6.length lc6) ∧ W.cell? ⟨b8, 6, none⟩ = some (.slice pa6 ps6.length pc6)) := fun W hb => by
    obtain ⟨-, a0, a1, a2, a3, a4, a5, a6, b0, b1, b2, b3, b4, b5, b6⟩ := HS.out W (hB7.trans (hb.mono hB7.size))
    obtain ⟨c0, c1, c2, c3, c4, c5, c6⟩ := box7 (hc7'.stays hb)
    obtain ⟨d0, d1, d2, d3, d4, d5, d6⟩ := box7 (hc8.stays hb)
    exact ⟨hb, a0, a1, a2, a3, a4, a5, a6, b0, b1, b2, b3, b4, b5, b6, c0, c1, c2, c3, c4, c5, c6, d0, d1, d2, d3, d4, d5, d6⟩
  have HP7 : Hid (∀ W, Below W7.heap.size W7 W → Calls _ _ _ W _) := fun W hb => HCP.out W (hB7.trans (hb.mono hB7.size))
  have HV7 : Hid (∀ W, Below W7.heap.size W7 W → Rep (fun k => S7 k ∧ k < W6.heap.size) W (.mk k n t fs r ls ps) ⟨fa7, fc7, la7, lc7, pa7, pc7⟩) := fun W hb => hR7'.stays hb
  have HX7 : Hid (∀ W, Below W7.heap.size W7 W → Rep (fun _ => True) W (.mk k6 n6 t6 fs6 r6 ls6 ps6) ⟨fa6, fc6, la6, lc6, pa6, pc6⟩) := fun W hb => hR6.stays hb
  have HB07 := Lib.hid hB7
  have HC7 := Lib.hid hc7'
  have HC8 := Lib.hid hc8
  clear hc7' hc8 hR7' hR6 hB7 hB6 HCW HCO
  go_upto_region 7 with fail
  have hW7 := HW7.out
  have hb8 := HB8.out
  rw [← hW7, ← hb8]
  clear hW7 hb8 HW7 HB8
  have hd0 : Below W7.heap.size W7 W7 := Below.refl _ _
  have hd1 : Below W7.heap.size W7 W7.drew := hd0.drew
  go_cut [9] from 34 to 38 (fun p9 wx => ∃ (b9 : Nat) (fa9 la9 pa9 : Option Addr) (fc9 lc9 pc9 : Nat), p9 = .pointer (some ⟨b9, 0, none⟩) ∧ CellsAt wx b9 34 #[.int .i64 k6, .int .u64 (n6 : Int), .string (strB t6), .slice fa9 fs6.length fc9, .string (strB r6), .slice la9 ls6.length lc9, .slice pa9 ps6.length pc9] ∧ Rep (fun _ => True) wx (.mk k6 n6 t6 fs6 r6 ls6 ps6) ⟨fa9, fc9, la9, lc9, pa9, pc9⟩ ∧ Below W7.heap.size W7 wx)
  case first =>
    go_region_held3 (fun W => Below W7.heap.size W7 W ∧ W.cell? ⟨g, 0, none⟩ = some (.int .i64 k) ∧ W.cell? ⟨g, 1, none⟩ = some (.int .u64 (n : Int)) ∧ W.cell? ⟨g, 2, none⟩ = some (.string (strB t)) ∧ W.cell? ⟨g, 3, none⟩ = some (.slice fa fs.length fc) ∧ W.cell? ⟨g, 4, none⟩ = some (.string (strB r)) ∧ W.cell? ⟨g, 5, none⟩ = some (.slice la ls.length lc) ∧ W.cell? ⟨g, 6, none⟩ = some (.slice pa ps.length pc) ∧ W.cell? ⟨g + 1, 0, none⟩ = some (.int .i64 k2) ∧ W.cell? ⟨g + 1, 1, none⟩ = some (.int .u64 (n2 : Int)) ∧ W.cell? ⟨g + 1, 2, none⟩ = some (.string (strB t2)) ∧ W.cell? ⟨g + 1, 3, none⟩ = some (.slice fa2 fs2.length fc2) ∧ W.cell? ⟨g + 1, 4, none⟩ = some (.string (strB r2)) ∧ W.cell? ⟨g + 1, 5, none⟩ = some (.slice la2 ls2.length lc2) ∧ W.cell? ⟨g + 1, 6, none⟩ = some (.slice pa2 ps2.length pc2) ∧ W.cell? ⟨b7, 0, none⟩ = some (.int .i64 k) ∧ W.cell? ⟨b7, 1, none⟩ = some (.int .u64 (n : Int)) ∧ W.cell? ⟨b7, 2, none⟩ = some (.string (strB t)) ∧ W.cell? ⟨b7, 3, none⟩ = some (.slice fa7 fs.length fc7) ∧ W.cell? ⟨b7, 4, none⟩ = some (.string (strB r)) ∧ W.cell? ⟨b7, 5, none⟩ = some (.slice la7 ls.length lc7) ∧ W.cell? ⟨b7, 6, none⟩ = some (.slice pa7 ps.length pc7) ∧ W.cell? ⟨b8, 0, none⟩ = some (.int .i64 k6) ∧ W.cell? ⟨b8, 1, none⟩ = some (.int .u64 (n6 : Int)) ∧ W.cell? ⟨b8, 2, none⟩ = some (.string (strB t6)) ∧ W.cell? ⟨b8, 3, none⟩ = some (.slice fa6 fs6.length fc6) ∧ W.cell? ⟨b8, 4, none⟩ = some (.string (strB r6)) ∧ W.cell? ⟨b8, 5, none⟩ = some (.slice la6 ls6.length lc6) ∧ W.cell? ⟨b8, 6, none⟩ = some (.slice pa6 ps6.length pc6))
      (exact HS7.out _ (by (repeat (first | (with_reducible assumption) | (with_reducible refine below_set7 ?_ ?_ _ _ _ _ _ _ _; rotate_left; focus (first | exact Nat.le_refl _ | omega)) | (with_reducible refine below_al ?_ _) | (with_reducible refine Below.drew ?_) | (with_reducible exact Below.refl _ _)))))
      ((first
        | (go_at_call 14; (with_reducible refine (HP7.out _ (by (repeat (first | (with_reducible assumption) | (with_reducible refine below_set7 ?_ ?_ _ _ _ _ _ _ _; rotate_left; focus (first | exact Nat.le_refl _ | omega)) | (with_reducible refine below_al ?_ _) | (with_reducible refine Below.drew ?_) | (with_reducible exact Below.refl _ _))))).mono ?_); rintro e w10 ⟨fa10, la10, pa10, fc10, lc10, pc10, rfl, ⟨S10, hS10, hr10⟩, hb10⟩; have hs10 := hb10.size; (try simp at hs10); have ht10 : Below W7.heap.size W7 w10 := below_call hb10 (by (repeat (first | (with_reducible assumption) | (with_reducible refine below_set7 ?_ ?_ _ _ _ _ _ _ _; rotate_left; focus (first | exact Nat.le_refl _ | omega)) | (with_reducible refine below_al ?_ _) | (with_reducible refine Below.drew ?_) | (with_reducible exact Below.refl _ _)))); have hu10 := ht10.size; (try have l10_0 : W7.heap.size < w10.heap.size := by omega); have cc10 := fun (b o : Nat) h => hb10.cell (p := ⟨b, o, none⟩) h; have ff10 := fun (b o : Nat) h => hb10.frozen (p := ⟨b, o, none⟩) h; (try simp only at cc10); (try simp only at ff10))
        | (go_at_call 26; (with_reducible refine (HRW.out _ _ _ _ _ _ _ _ _ _ _ _ _ _ _ (HV7.out _ (by (repeat (first | (with_reducible assumption) | (with_reducible refine below_set7 ?_ ?_ _ _ _ _ _ _ _; rotate_left; focus (first | exact Nat.le_refl _ | omega)) | (with_reducible refine below_al ?_ _) | (with_reducible refine Below.drew ?_) | (with_reducible exact Below.refl _ _))))) (by first | with_reducible exact hr10 | with_reducible exact Rep.allocC hr10)).mono ?_); intro e w11 hv11; obtain ⟨⟨fa9, fc9, la9, lc9, pa9, pc9⟩, he11, ⟨S11, hS11, hr11⟩, hb11⟩ := hv11; rw [vG_lit] at he11; subst he11; have hs11 := hb11.size; (try simp at hs11); have ht11 : Below W7.heap.size W7 w11 := below_call hb11 (by (repeat (first | (with_reducible assumption) | (with_reducible refine below_set7 ?_ ?_ _ _ _ _ _ _ _; rotate_left; focus (first | exact Nat.le_refl _ | omega)) | (with_reducible refine below_al ?_ _) | (with_reducible refine Below.drew ?_) | (with_reducible exact Below.refl _ _)))); have hu11 := ht11.size; (try have l11_0 : W7.heap.size < w11.heap.size := by omega); (try have l11_1 : w10.heap.size < w11.heap.size := by omega); have cc11 := fun (b o : Nat) h => hb11.cell (p := ⟨b, o, none⟩) h; have ff11 := fun (b o : Nat) h => hb11.frozen (p := ⟨b, o, none⟩) h; (try simp only at cc11); (try simp only at ff11))))
    all_goals go_wp2_with fail
    all_goals go_meet
    all_goals refine ⟨_, fa9, la9, pa9, fc9, lc9, pc9, rfl, ?_, ?_, ?_⟩
    all_goals rename_i hHH
    all_goals clear hHH HS7 HP7 HV7 HX7 HB07 HC7 HC8 HQX HQY HRW HRG HCG HCP HGP HRR HB5 HA HB HF HS HWA HWB HRA HRB cc10 ff10 cc11 ff11
    iterate 3
     (focus (repeat (first
        | (with_reducible refine CellsAt.set7 (c0 := .int .i64 0) (c1 := .int .u64 0) (c2 := .string ⟨#[]⟩) (c3 := .slice none 0 0) (c4 := .string ⟨#[]⟩) (c5 := .slice none 0 0) (c6 := .slice none 0 0) ?_)
        | (with_reducible refine CellsAt.other7 ?_ ?_; rotate_left; focus omega)
        | (with_reducible refine CellsAt.new' ?_; focus (first | (with_reducible rfl) | (simp; done)))
        | (with_reducible refine CellsAt.allocC ?_)
        | (with_reducible refine CellsAt.drew ?_)
        | (with_reducible refine CellsAt.stays ?_ hb11)
        | (with_reducible refine CellsAt.stays ?_ hb10)))
      focus (refine Rep.any (S := S11) ?_; repeat (first
        | (with_reducible exact hr11)
        | (with_reducible refine Rep.setC7 ?_ ?_; rotate_left; focus (intro k hk; have h1 := hS11 k hk; have h2 := hS10 k; simp at h1 h2; by_cases hs : S10 k; (have := h2 hs; omega); (simp [hs] at h1; omega)))
        | (with_reducible refine Rep.allocC ?_)))
      focus (repeat (first | (with_reducible assumption) | (with_reducible refine below_set7 ?_ ?_ _ _ _ _ _ _ _; rotate_left; focus (first | exact Nat.le_refl _ | omega)) | (with_reducible refine below_al ?_ _) | (with_reducible refine Below.drew ?_) | (with_reducible exact Below.refl _ _))))
  case rest =>
    obtain ⟨b9, fa9, la9, pa9, fc9, lc9, pc9, rfl, hc9, hr9, hbc⟩ := hcut
    have HS8 : Hid (∀ W, Below wc.heap.size wc W → Below wc.heap.size wc W ∧ W.cell? ⟨g, 0, none⟩ = some (.int .i64 k) ∧ W.cell? ⟨g, 1, none⟩ = some (.int .u64 (n : Int)) ∧ W.cell? ⟨g, 2, none⟩ = some (.string (strB t)) ∧ W.cell? ⟨g, 3, none⟩ = some (.slice fa fs.length fc) ∧ W.cell? ⟨g, 4, none⟩ = some (.string (strB r)) ∧ W.cell? ⟨g, 5, none⟩ = some (.slice la ls.length lc) ∧ W.cell? ⟨g, 6, none⟩ = some (.slice pa ps.length pc) ∧ W.cell? ⟨g + 1, 0, none⟩ = some (.int .i64 k2) ∧ W.cell? ⟨g + 1, 1, none⟩ = some (.int .u64 (n2 : Int)) ∧ W.cell? ⟨g + 1, 2, none⟩ = some (.string (strB t2)) ∧ W.cell? ⟨g + 1, 3, none⟩ = some (.slice fa2 fs2.length fc2) ∧ W.cell? ⟨g + 1, 4, none⟩ = some (.string (strB r2)) ∧ W.cell? ⟨g + 1, 5, none⟩ = some (.slice la2 ls2.length lc2) ∧ W.cell? ⟨g + 1, 6, none⟩ = some (.slice pa2 ps2.length pc2) ∧ W.cell? ⟨b7, 0, none⟩ = some (.int .i64 k) ∧ W.cell? ⟨b7, 1, none⟩ = some (.int .u64 (n : Int)) ∧ W.cell? ⟨b7, 2, none⟩ = some (.string (strB t)) ∧ W.cell? ⟨b7, 3, none⟩ = some (.slice fa7 fs.length fc7) ∧ W.cell? ⟨b7, 4, none⟩ = some (.string (strB r)) ∧ W.cell? ⟨b7, 5, none⟩ = some (.slice la7 ls.length lc7) ∧ W.cell? ⟨b7, 6, none⟩ = some (.slice pa7 ps.length pc7) ∧ W.cell? ⟨b8, 0, none⟩ = some (.int .i64 k6) ∧ W.cell? ⟨b8, 1, none⟩ = some (.int .u64 (n6 : Int)) ∧ W.cell? ⟨b8, 2, none⟩ = some (.string (strB t6)) ∧ W.cell? ⟨b8, 3, none⟩ = some (.slice fa6 fs6.length fc6) ∧ W.cell? ⟨b8, 4, none⟩ = some (.string (strB r6)) ∧ W.cell? ⟨b8, 5, none⟩ = some (.slice la6 ls6.length lc6) ∧ W.cell? ⟨b8, 6, none⟩ = some (.slice pa6 ps6.length pc6) ∧ W.cell? ⟨b9, 0, none⟩ = some (.int .i64 k6) ∧ W.cell? ⟨b9, 1, none⟩ = some (.int .u64 (n6 : Int)) ∧ W.cell? ⟨b9, 2, none⟩ = some (.string (strB t6)) ∧ W.cell? ⟨b9, 3, none⟩ = some (.slice fa9 fs6.length fc9) ∧ W.cell? ⟨b9, 4, none⟩ = some (.string (strB r6)) ∧ W.cell? ⟨b9, 5, none⟩ = some (.slice la9 ls6.length lc9) ∧ W.cell? ⟨b9, 6, none⟩ = some (.slice pa9 ps6.length pc9)) := fun W hb => by
      obtain ⟨-, a0, a1, a2, a3, a4, a5, a6, b0, b1, b2, b3, b4, b5, b6, c0, c1, c2, c3, c4, c5, c6, d0, d1, d2, d3, d4, d5, d6⟩ := HS7.out W (hbc.trans (hb.mono hbc.size))
      obtain ⟨e0, e1, e2, e3, e4, e5, e6⟩ := box7 (hc9.stays hb)
      exact ⟨hb, a0, a1, a2, a3, a4, a5, a6, b0, b1, b2, b3, b4, b5, b6, c0, c1, c2, c3, c4, c5, c6, d0, d1, d2, d3, d4, d5, d6, e0, e1, e2, e3, e4, e5, e6⟩
    have HZ8 : Hid (∀ W, Below wc.heap.size wc W → Below W0.heap.size W0 W) := fun W hb => HB07.out.trans ((hbc.trans (hb.mono hbc.size)).mono HB07.out.size)
    have HY8 : Hid (∀ W, Below wc.heap.size wc W → Below W7.heap.size W7 W) := fun W hb => hbc.trans (hb.mono hbc.size)
    have HR9 : Hid (∀ W, Below wc.heap.size wc W → Rep (fun _ => True) W (.mk k6 n6 t6 fs6 r6 ls6 ps6) ⟨fa9, fc9, la9, lc9, pa9, pc9⟩) := fun W hb => hr9.stays hb
    have HO1 : Hid (∀ W, Below wc.heap.size wc W → Calls _ _ _ W _) := fun W hb => HQX.out W _ _ _ _ _ _ _ (HX7.out W (HY8.out W hb))
    have HE2 : Hid (∀ (W : World) (fa12 la12 pa12 : Option Addr) (fc12 lc12 pc12 : Nat) (S : Nat → Prop), Rep S W (.mk k6 n6 t6 fs6 r6 ls6 ps6) ⟨fa12, fc12, la12, lc12, pa12, pc12⟩ → Below wc.heap.size wc W → Calls Try.prog 24 #[.agg #[.int .i64 k6, .int .u64 (n6 : Int), .string (strB t6), .slice fa12 fs6.length fc12, .string (strB r6), .slice la12 ls6.length lc12, .slice pa12 ps6.length pc12], .agg #[.int .i64 k6, .int .u64 (n6 : Int), .string (strB t6), .slice fa9 fs6.length fc9, .string (strB r6), .slice la9 ls6.length lc9, .slice pa9 ps6.length pc9]] W fun e w' => e = .returned (.bool true) ∧ Below W.heap.size W w') := fun W fa12 la12 pa12 fc12 lc12 pc12 S hr hb => (rsame_lit hr (HR9.out W hb)).mono fun e w' h => by rw [cmpV_self] at h; exact h
    have HE3 : Hid (∀ W, Below wc.heap.size wc W → Calls Try.prog 15 #[.agg #[.int .i64 k6, .int .u64 (n6 : Int), .string (strB t6), .slice fa6 fs6.length fc6, .string (strB r6), .slice la6 ls6.length lc6, .slice pa6 ps6.length pc6]] W fun e w' => e = .returned (.bool true) ∧ Below W.heap.size W w') := fun W hb => (right_lit (HX7.out W (HY8.out W hb))).mono fun e w' h => by rw [HRR.out] at h; exact h
    have HE4 : Hid (∀ W, Below wc.heap.size wc W → Calls _ _ _ W _) := fun W hb => HCG.out W (HZ8.out W hb)
    have HE6 : Hid (∀ W, Below wc.heap.size wc W → Calls _ _ _ W _) := fun W hb => HRG.out W _ _ _ _ _ _ _ (HV7.out W (HY8.out W hb))
    have HE7 : Hid (∀ (W : World) (fa12 la12 pa12 fa13 la13 pa13 : Option Addr) (fc12 lc12 pc12 fc13 lc13 pc13 : Nat) (S S' : Nat → Prop), Rep S W (.mk k5 n5 t5 fs5 r5 ls5 ps5) ⟨fa12, fc12, la12, lc12, pa12, pc12⟩ → Rep S' W (.mk k5 n5 t5 fs5 r5 ls5 ps5) ⟨fa13, fc13, la13, lc13, pa13, pc13⟩ → Calls Try.prog 24 #[.agg #[.int .i64 k5, .int .u64 (n5 : Int), .string (strB t5), .slice fa12 fs5.length fc12, .string (strB r5), .slice la12 ls5.length lc12, .slice pa12 ps5.length pc12], .agg #[.int .i64 k5, .int .u64 (n5 : Int), .string (strB t5), .slice fa13 fs5.length fc13, .string (strB r5), .slice la13 ls5.length lc13, .slice pa13 ps5.length pc13]] W fun e w' => e = .returned (.bool true) ∧ Below W.heap.size W w') := fun W fa12 la12 pa12 fa13 la13 pa13 fc12 lc12 pc12 fc13 lc13 pc13 S S' hr hr' => (rsame_lit hr hr').mono fun e w' h => by rw [cmpV_self] at h; exact h
    have HE8 : Hid (∀ (W : World), k = 3 → 1 ≤ num → num ≤ 536870911 → Below wc.heap.size wc W → Calls Try.prog 27 #[.agg #[.int .i64 k6, .int .u64 (n6 : Int), .string (strB t6), .slice fa6 fs6.length fc6, .string (strB r6), .slice la6 ls6.length lc6, .slice pa6 ps6.length pc6], .int .i64 num] W (ValP (.mk k2 n2 t2 fs2 r2 ls2 ps2) W)) := fun W h3 h1 h2 hb => by
      have := get_any num (HX7.out W (HY8.out W hb)) HRR.out hfl6
      rw [HGP.out h3 h1 h2] at this
      exact this
    have HE9 : Hid (∀ (W : World) (fa12 la12 pa12 : Option Addr) (fc12 lc12 pc12 : Nat) (S : Nat → Prop), Rep S W (.mk k2 n2 t2 fs2 r2 ls2 ps2) ⟨fa12, fc12, la12, lc12, pa12, pc12⟩ → Below wc.heap.size wc W → Calls Try.prog 23 #[.agg #[.int .i64 k2, .int .u64 (n2 : Int), .string (strB t2), .slice fa12 fs2.length fc12, .string (strB r2), .slice la12 ls2.length lc12, .slice pa12 ps2.length pc12], .agg #[.int .i64 k2, .int .u64 (n2 : Int), .string (strB t2), .slice fa2 fs2.length fc2, .string (strB r2), .slice la2 ls2.length lc2, .slice pa2 ps2.length pc2]] W fun e w' => e = .returned (.bool true) ∧ Below W.heap.size W w') := fun W fa12 la12 pa12 fc12 lc12 pc12 S hr hb => (same_lit hr (HB.out W (HZ8.out W hb))).mono fun e w' h => by rw [cmpV_self] at h; exact h
    have HO10 : Hid (∀ W, Below wc.heap.size wc W → Calls _ _ _ W _) := fun W hb => OfC.lit (w := W) (of_any _) (HA.out W (HZ8.out W hb)) (by have := HWA.out; omega)
    have HE11 : Hid (∀ (W : World) (fa12 la12 pa12 : Option Addr) (fc12 lc12 pc12 : Nat) (S : Nat → Prop), Rep S W (.mk k n t fs r ls ps) ⟨fa12, fc12, la12, lc12, pa12, pc12⟩ → Below wc.heap.size wc W → Calls Try.prog 24 #[.agg #[.int .i64 k, .int .u64 (n : Int), .string (strB t), .slice fa12 fs.length fc12, .string (strB r), .slice la12 ls.length lc12, .slice pa12 ps.length pc12], .agg #[.int .i64 k, .int .u64 (n : Int), .string (strB t), .slice fa7 fs.length fc7, .string (strB r), .slice la7 ls.length lc7, .slice pa7 ps.length pc7]] W fun e w' => e = .returned (.bool true) ∧ Below W.heap.size W w') := fun W fa12 la12 pa12 fc12 lc12 pc12 S hr hb => (rsame_lit hr (HV7.out W (HY8.out W hb))).mono fun e w' h => by rw [cmpV_self] at h; exact h
    have HFF : Hid (∀ W, Below wc.heap.size wc W → Below w.heap.size w W) := fun W hb => HF.out W (HZ8.out W hb)
    have ht0 : Below wc.heap.size wc wc := Below.refl _ _
    have ht1 : Below wc.heap.size wc wc.drew := ht0.drew
    clear hc9 hr9 hbc hd0 hd1 HS7 HP7 HRW HB07 HC7 HC8 HCP HB5 HWB HS hsz hfl hfl6
    go_upto_region 8 with fail
    go_region_held3 (fun W => Below wc.heap.size wc W ∧ W.cell? ⟨g, 0, none⟩ = some (.int .i64 k) ∧ W.cell? ⟨g, 1, none⟩ = some (.int .u64 (n : Int)) ∧ W.cell? ⟨g, 2, none⟩ = some (.string (strB t)) ∧ W.cell? ⟨g, 3, none⟩ = some (.slice fa fs.length fc) ∧ W.cell? ⟨g, 4, none⟩ = some (.string (strB r)) ∧ W.cell? ⟨g, 5, none⟩ = some (.slice la ls.length lc) ∧ W.cell? ⟨g, 6, none⟩ = some (.slice pa ps.length pc) ∧ W.cell? ⟨g + 1, 0, none⟩ = some (.int .i64 k2) ∧ W.cell? ⟨g + 1, 1, none⟩ = some (.int .u64 (n2 : Int)) ∧ W.cell? ⟨g + 1, 2, none⟩ = some (.string (strB t2)) ∧ W.cell? ⟨g + 1, 3, none⟩ = some (.slice fa2 fs2.length fc2) ∧ W.cell? ⟨g + 1, 4, none⟩ = some (.string (strB r2)) ∧ W.cell? ⟨g + 1, 5, none⟩ = some (.slice la2 ls2.length lc2) ∧ W.cell? ⟨g + 1, 6, none⟩ = some (.slice pa2 ps2.length pc2) ∧ W.cell? ⟨b7, 0, none⟩ = some (.int .i64 k) ∧ W.cell? ⟨b7, 1, none⟩ = some (.int .u64 (n : Int)) ∧ W.cell? ⟨b7, 2, none⟩ = some (.string (strB t)) ∧ W.cell? ⟨b7, 3, none⟩ = some (.slice fa7 fs.length fc7) ∧ W.cell? ⟨b7, 4, none⟩ = some (.string (strB r)) ∧ W.cell? ⟨b7, 5, none⟩ = some (.slice la7 ls.length lc7) ∧ W.cell? ⟨b7, 6, none⟩ = some (.slice pa7 ps.length pc7) ∧ W.cell? ⟨b8, 0, none⟩ = some (.int .i64 k6) ∧ W.cell? ⟨b8, 1, none⟩ = some (.int .u64 (n6 : Int)) ∧ W.cell? ⟨b8, 2, none⟩ = some (.string (strB t6)) ∧ W.cell? ⟨b8, 3, none⟩ = some (.slice fa6 fs6.length fc6) ∧ W.cell? ⟨b8, 4, none⟩ = some (.string (strB r6)) ∧ W.cell? ⟨b8, 5, none⟩ = some (.slice la6 ls6.length lc6) ∧ W.cell? ⟨b8, 6, none⟩ = some (.slice pa6 ps6.length pc6) ∧ W.cell? ⟨b9, 0, none⟩ = some (.int .i64 k6) ∧ W.cell? ⟨b9, 1, none⟩ = some (.int .u64 (n6 : Int)) ∧ W.cell? ⟨b9, 2, none⟩ = some (.string (strB t6)) ∧ W.cell? ⟨b9, 3, none⟩ = some (.slice fa9 fs6.length fc9) ∧ W.cell? ⟨b9, 4, none⟩ = some (.string (strB r6)) ∧ W.cell? ⟨b9, 5, none⟩ = some (.slice la9 ls6.length lc9) ∧ W.cell? ⟨b9, 6, none⟩ = some (.slice pa9 ps6.length pc9))
      (exact HS8.out _ (by assumption))
      ((first
        | (go_at_call 14; (with_reducible refine (HO1.out _ (by assumption)).mono ?_); rintro e w12 ⟨fa12, la12, pa12, fc12, lc12, pc12, rfl, hr12, hb12⟩; have ht12 : Below wc.heap.size wc w12 := below_call hb12 ht1)
        | (go_at_call 24; (with_reducible refine (HE2.out _ _ _ _ _ _ _ _ hr12 (by assumption)).mono ?_); rintro e w13 ⟨rfl, hb13⟩; have ht13 : Below wc.heap.size wc w13 := below_call hb13 ht12)
        | (go_at_call 15; (with_reducible refine (HE3.out _ (by assumption)).mono ?_); rintro e w14 ⟨rfl, hb14⟩; have ht14 : Below wc.heap.size wc w14 := below_call hb14 ht13)
        | (go_at_call 27; (with_reducible refine (HE4.out _ (by assumption)).mono ?_); intro e w15 hv15; obtain ⟨fa15, la15, pa15, fc15, lc15, pc15, rfl, hr15, hb15⟩ := hv15.lit; have ht15 : Below wc.heap.size wc w15 := below_call hb15 ht14)
        | (go_at_call 14; (with_reducible refine (HQY.out _ _ _ _ _ _ _ _ hr15).mono ?_); rintro e w16 ⟨fa16, la16, pa16, fc16, lc16, pc16, rfl, hr16, hb16⟩; have ht16 : Below wc.heap.size wc w16 := below_call hb16 ht15)
        | (go_at_call 28; (with_reducible refine (HE6.out _ (by assumption)).mono ?_); intro e w17 hv17; obtain ⟨fa17, la17, pa17, fc17, lc17, pc17, rfl, hr17, hb17⟩ := hv17.lit; have ht17 : Below wc.heap.size wc w17 := below_call hb17 ht16; have hr18 := hr16.stays hb17)
        | (go_at_call 24; (with_reducible refine (HE7.out _ _ _ _ _ _ _ _ _ _ _ _ _ _ _ hr18 hr17).mono ?_); rintro e w18 ⟨rfl, hb18⟩; have ht18 : Below wc.heap.size wc w18 := below_call hb18 ht17)))
    have HT18 := Lib.hid ht18
    try (rename_i hHH; clear hHH)
    clear ht12 ht13 ht14 ht15 ht16 ht17 ht18 hr12 hr15 hr16 hr17 hr18 hb12 hb13 hb14 hb15 hb16 hb17 hb18 HE2 HE3 HE4 HE6 HE7 HO1 HQY HQX ht0 ht1
    obtain ⟨wd, hwd⟩ : ∃ wd, wd = w18 := ⟨_, rfl⟩
    rw [← hwd] at HT18 ⊢
    clear hwd
    go_upto_region 10 with fail
    have htd : Below wc.heap.size wc wd := HT18.out
    obtain ⟨wz, hwz⟩ : ∃ wz, wz = wc := ⟨_, rfl⟩
    rw [← hwz] at HS8 HZ8 HY8 HE8 HE9 HO10 HE11 HFF HT18 HR9 htd
    clear hwz
    go_cut [78] from 60 to 78 (fun v wx => v = .bool false ∧ Below wz.heap.size wz wx)
    case first =>
      have hq := HS8.out wd htd
      by_cases h3 : k = 3
      · by_cases h1 : 1 ≤ num
        · by_cases h2 : num ≤ 536870911
          · have q3 : (k == 3) = true := by simpa using h3
            have q1 : decide (1 ≤ num) = true := decide_eq_true h1
            have q2 : decide (num < 536870912) = true := decide_eq_true (by omega)
            have HE8' : Hid (∀ W, Below wz.heap.size wz W → Calls _ _ _ W _) := fun W hb => HE8.out W h3 h1 h2 hb
            have htdd : Below wz.heap.size wz wd.drew := htd.drew
            clear hq h3
            go_region_held3 (fun W => Below wz.heap.size wz W ∧ W.cell? ⟨g, 0, none⟩ = some (.int .i64 k) ∧ W.cell? ⟨g, 1, none⟩ = some (.int .u64 (n : Int)) ∧ W.cell? ⟨g, 2, none⟩ = some (.string (strB t)) ∧ W.cell? ⟨g, 3, none⟩ = some (.slice fa fs.length fc) ∧ W.cell? ⟨g, 4, none⟩ = some (.string (strB r)) ∧ W.cell? ⟨g, 5, none⟩ = some (.slice la ls.length lc) ∧ W.cell? ⟨g, 6, none⟩ = some (.slice pa ps.length pc) ∧ W.cell? ⟨g + 1, 0, none⟩ = some (.int .i64 k2) ∧ W.cell? ⟨g + 1, 1, none⟩ = some (.int .u64 (n2 : Int)) ∧ W.cell? ⟨g + 1, 2, none⟩ = some (.string (strB t2)) ∧ W.cell? ⟨g + 1, 3, none⟩ = some (.slice fa2 fs2.length fc2) ∧ W.cell? ⟨g + 1, 4, none⟩ = some (.string (strB r2)) ∧ W.cell? ⟨g + 1, 5, none⟩ = some (.slice la2 ls2.length lc2) ∧ W.cell? ⟨g + 1, 6, none⟩ = some (.slice pa2 ps2.length pc2) ∧ W.cell? ⟨b7, 0, none⟩ = some (.int .i64 k) ∧ W.cell? ⟨b7, 1, none⟩ = some (.int .u64 (n : Int)) ∧ W.cell? ⟨b7, 2, none⟩ = some (.string (strB t)) ∧ W.cell? ⟨b7, 3, none⟩ = some (.slice fa7 fs.length fc7) ∧ W.cell? ⟨b7, 4, none⟩ = some (.string (strB r)) ∧ W.cell? ⟨b7, 5, none⟩ = some (.slice la7 ls.length lc7) ∧ W.cell? ⟨b7, 6, none⟩ = some (.slice pa7 ps.length pc7) ∧ W.cell? ⟨b8, 0, none⟩ = some (.int .i64 k6) ∧ W.cell? ⟨b8, 1, none⟩ = some (.int .u64 (n6 : Int)) ∧ W.cell? ⟨b8, 2, none⟩ = some (.string (strB t6)) ∧ W.cell? ⟨b8, 3, none⟩ = some (.slice fa6 fs6.length fc6) ∧ W.cell? ⟨b8, 4, none⟩ = some (.string (strB r6)) ∧ W.cell? ⟨b8, 5, none⟩ = some (.slice la6 ls6.length lc6) ∧ W.cell? ⟨b8, 6, none⟩ = some (.slice pa6 ps6.length pc6) ∧ W.cell? ⟨b9, 0, none⟩ = some (.int .i64 k6) ∧ W.cell? ⟨b9, 1, none⟩ = some (.int .u64 (n6 : Int)) ∧ W.cell? ⟨b9, 2, none⟩ = some (.string (strB t6)) ∧ W.cell? ⟨b9, 3, none⟩ = some (.slice fa9 fs6.length fc9) ∧ W.cell? ⟨b9, 4, none⟩ = some (.string (strB r6)) ∧ W.cell? ⟨b9, 5, none⟩ = some (.slice la9 ls6.length lc9) ∧ W.cell? ⟨b9, 6, none⟩ = some (.slice pa9 ps6.length pc9))
              (exact HS8.out _ (by assumption))
              ((first
                | (go_at_call 27; (with_reducible refine (HE8'.out _ (by assumption)).mono ?_); intro e w15 hv15; obtain ⟨fa15, la15, pa15, fc15, lc15, pc15, rfl, hr15, hb15⟩ := hv15.lit; have ht15 : Below wz.heap.size wz w15 := below_call hb15 htdd)
                | (go_at_call 23; (with_reducible refine (HE9.out _ _ _ _ _ _ _ _ hr15 (by assumption)).mono ?_); rintro e w16 ⟨rfl, hb16⟩; have ht16 : Below wz.heap.size wz w16 := below_call hb16 ht15)))
            try (rename_i hHH; clear hHH)
            have HTX := Lib.hid ht16
            go_wp2_with fail
            go_meet
            exact ⟨rfl, HTX.out⟩
          · have q3 : (k == 3) = true := by simpa using h3
            have q1 : decide (1 ≤ num) = true := decide_eq_true h1
            have q2 : decide (num < 536870912) = false := decide_eq_false (by omega)
            obtain ⟨-, a0, -⟩ := hq
            clear h3
            go_quiet (fail)
            go_wp2_with fail
            go_meet
            exact ⟨rfl, below_drewV _ HT18.out⟩
        · have q3 : (k == 3) = true := by simpa using h3
          have q1 : decide (1 ≤ num) = false := decide_eq_false h1
          obtain ⟨-, a0, -⟩ := hq
          clear h3
          go_quiet (fail)
          go_wp2_with fail
          go_meet
          exact ⟨rfl, below_drewV _ HT18.out⟩
      · have q3 : (k == 3) = false := by simpa using h3
        obtain ⟨-, a0, -⟩ := hq
        clear h3
        go_quiet (fail)
        go_wp2_with fail
        go_meet
        exact ⟨rfl, below_drewV _ HT18.out⟩
    case rest =>
      obtain ⟨rfl, hbx⟩ := hcut
      have hbxd : Below wz.heap.size wz wc.drew := hbx.drew
      clear HE8 HE9 HT18 htd
      go_upto_region 12 with fail
      go_region_held3 (fun W => Below wz.heap.size wz W ∧ W.cell? ⟨g, 0, none⟩ = some (.int .i64 k) ∧ W.cell? ⟨g, 1, none⟩ = some (.int .u64 (n : Int)) ∧ W.cell? ⟨g, 2, none⟩ = some (.string (strB t)) ∧ W.cell? ⟨g, 3, none⟩ = some (.slice fa fs.length fc) ∧ W.cell? ⟨g, 4, none⟩ = some (.string (strB r)) ∧ W.cell? ⟨g, 5, none⟩ = some (.slice la ls.length lc) ∧ W.cell? ⟨g, 6, none⟩ = some (.slice pa ps.length pc) ∧ W.cell? ⟨g + 1, 0, none⟩ = some (.int .i64 k2) ∧ W.cell? ⟨g + 1, 1, none⟩ = some (.int .u64 (n2 : Int)) ∧ W.cell? ⟨g + 1, 2, none⟩ = some (.string (strB t2)) ∧ W.cell? ⟨g + 1, 3, none⟩ = some (.slice fa2 fs2.length fc2) ∧ W.cell? ⟨g + 1, 4, none⟩ = some (.string (strB r2)) ∧ W.cell? ⟨g + 1, 5, none⟩ = some (.slice la2 ls2.length lc2) ∧ W.cell? ⟨g + 1, 6, none⟩ = some (.slice pa2 ps2.length pc2) ∧ W.cell? ⟨b7, 0, none⟩ = some (.int .i64 k) ∧ W.cell? ⟨b7, 1, none⟩ = some (.int .u64 (n : Int)) ∧ W.cell? ⟨b7, 2, none⟩ = some (.string (strB t)) ∧ W.cell? ⟨b7, 3, none⟩ = some (.slice fa7 fs.length fc7) ∧ W.cell? ⟨b7, 4, none⟩ = some (.string (strB r)) ∧ W.cell? ⟨b7, 5, none⟩ = some (.slice la7 ls.length lc7) ∧ W.cell? ⟨b7, 6, none⟩ = some (.slice pa7 ps.length pc7) ∧ W.cell? ⟨b8, 0, none⟩ = some (.int .i64 k6) ∧ W.cell? ⟨b8, 1, none⟩ = some (.int .u64 (n6 : Int)) ∧ W.cell? ⟨b8, 2, none⟩ = some (.string (strB t6)) ∧ W.cell? ⟨b8, 3, none⟩ = some (.slice fa6 fs6.length fc6) ∧ W.cell? ⟨b8, 4, none⟩ = some (.string (strB r6)) ∧ W.cell? ⟨b8, 5, none⟩ = some (.slice la6 ls6.length lc6) ∧ W.cell? ⟨b8, 6, none⟩ = some (.slice pa6 ps6.length pc6) ∧ W.cell? ⟨b9, 0, none⟩ = some (.int .i64 k6) ∧ W.cell? ⟨b9, 1, none⟩ = some (.int .u64 (n6 : Int)) ∧ W.cell? ⟨b9, 2, none⟩ = some (.string (strB t6)) ∧ W.cell? ⟨b9, 3, none⟩ = some (.slice fa9 fs6.length fc9) ∧ W.cell? ⟨b9, 4, none⟩ = some (.string (strB r6)) ∧ W.cell? ⟨b9, 5, none⟩ = some (.slice la9 ls6.length lc9) ∧ W.cell? ⟨b9, 6, none⟩ = some (.slice pa9 ps6.length pc9))
        (exact HS8.out _ (by assumption))
        ((first
          | (go_at_call 14; (with_reducible refine (HO10.out _ (by assumption)).mono ?_); rintro e w20 ⟨fa20, la20, pa20, fc20, lc20, pc20, rfl, hr20, hb20⟩; have ht20 : Below wz.heap.size wz w20 := below_call hb20 hbxd)
          | (go_at_call 24; (with_reducible refine (HE11.out _ _ _ _ _ _ _ _ hr20 (by assumption)).mono ?_); rintro e w21 ⟨rfl, hb21⟩; have ht21 : Below wz.heap.size wz w21 := below_call hb21 ht20)))
      try (rename_i hHH; clear hHH)
      have HFZ := Lib.hid (HFF.out w21 ht21)
      clear hbx hbxd ht20 ht21 hb20 hb21 hr20
      go_wp2_with fail
      go_ret
      exact ⟨rfl, HFZ.out⟩
end Go.Proofs.Ytcnjlbbckdmifaa
