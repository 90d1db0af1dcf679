/- The walk of ValuePairs: every right map with a pair, and what is found in it. -/
import Derived.Test.YtcnjlbbckdmifaaAlive13
import Derived.Test.YtcnjlbbckdmifaaOpenV
import Derived.Test.YtcnjlbbckdmifaaVza
import Derived.Deep.CutRange
import Derived.Deep.DeepCutAuto
namespace Go.Proofs.Ytcnjlbbckdmifaa
open Go Go.RowKit
set_option linter.unusedVariables false
theorem wP_app : ∀ a b : List (V × V), wP (a ++ b) = wP a + wP b
  | [], b => by rw [List.nil_append, wP, Nat.zero_add]
  | (n, v) :: a, b => by simp only [List.cons_append, wP, wP_app a b]; omega
theorem wP_putA {c : V × V → Int} {key x : V} : ∀ (l : List (V × V)) (done : Bool), wP (putA c (key, x) l done) ≤ wP l + (if done then 0 else 1 + wV key + wV x)
  | [], true => by simp [putA, wP]
  | [], false => by simp [putA, wP]
  | (n, v) :: r, true => by
    have h1 := wP_putA (c := c) (key := key) (x := x) r true
    simp only [putA, Bool.not_true, Bool.false_and, Bool.true_or, wP_app, Bool.false_eq_true, if_false, if_true, wP] at h1 ⊢
    split <;> simp [wP] <;> omega
  | (n, v) :: r, false => by
    by_cases h0 : 0 ≤ c (n, v)
    · have h1 := wP_putA (c := c) (key := key) (x := x) r true
      have hd : decide (0 ≤ c (n, v)) = true := decide_eq_true h0
      simp only [putA, hd, Bool.not_false, Bool.true_and, Bool.false_or, wP_app, if_true, Bool.false_eq_true, if_false, wP] at h1 ⊢
      split <;> simp [wP] <;> omega
    · have h1 := wP_putA (c := c) (key := key) (x := x) r false
      have hd : decide (0 ≤ c (n, v)) = false := decide_eq_false h0
      simp only [putA, hd, Bool.not_false, Bool.and_false, Bool.false_or, wP_app, Bool.false_eq_true, if_false, wP] at h1 ⊢
      split <;> simp [wP] <;> omega
theorem w_put (v key x : V) : wV (putV v key x) ≤ wV v + wV key + wV x + 2 := by
  unfold putV
  split
  · omega
  · have h := wP_putA (c := pairC key) (key := key) (x := x) v.ps (x.k == 0)
    have h2 : (if (x.k == 0) = true then 0 else 1 + wV key + wV x) ≤ 1 + wV key + wV x := by split <;> omega
    have h3 := wV_eq v
    unfold mapV
    split
    · simp only [V.none, wV, wF, wL, wP, List.length_nil]; omega
    · simp only [wV, wF, wL, List.length_nil]; omega
theorem w_findP {c : V × V → Int} : ∀ l : List (V × V), wV (findA c Prod.snd V.none l) ≤ wP l + 1
  | [] => by simp [findA, V.none, wV, wF, wL, wP]
  | (n, v) :: r => by
    have h := w_findP (c := c) r
    simp only [findA, wP]
    split <;> omega
theorem w_found (v key : V) : wV (findV v key) ≤ wV v + 1 := by
  unfold findV
  split
  · have h := w_findP (c := pairC key) v.ps
    have h3 := wV_eq v
    omega
  · simp only [V.none, wV, wF, wL, wP, List.length_nil]; omega
theorem cmp_str (t : List UInt8) (v : V) : (cmpV (.mk 2 0 t [] [] [] []) v == 0) = (v.k == 2 && v.t == t) := by
  obtain ⟨k, n, t', fs, r, ls, ps⟩ := v
  simp only [cmpV, V.k, V.t]
  by_cases h : k = 2
  · subst h
    rw [Bool.eq_iff_iff]
    simp [orI, sgnI, cmpB_zero]
    exact eq_comm
  · have h1 : sgnI 2 k ≠ 0 := fun e => h (sgnI_zero.1 e).symm
    rw [Bool.eq_iff_iff]
    simp [orI, h1, h]
set_option maxRecDepth 100000 in
set_option maxHeartbeats 16000000 in
theorem walkValuePairs (w : World) (va : V) (aa : A3) (hra : Rep (fun _ => True) w va aa) (vb : V) (ab : A3) (hrb : Rep (fun _ => True) w vb ab) (vc : V) (ac : A3) (hrc : Rep (fun _ => True) w vc ac) :
    Calls Try.prog 6 #[vG (va, aa), vG (vb, ab), vG (vc, ac)] w fun e w' => e = .returned (.bool true) ∧ Below w.heap.size w w' := by
  obtain ⟨k, n, t, fs, r, ls, ps⟩ := va
  obtain ⟨fa, fc, la, lc, pa, pc⟩ := aa
  obtain ⟨k2, n2, t2, fs2, r2, ls2, ps2⟩ := vb
  obtain ⟨fa2, fc2, la2, lc2, pa2, pc2⟩ := ab
  obtain ⟨k3, n3, t3, fs3, r3, ls3, ps3⟩ := vc
  obtain ⟨fa3, fc3, la3, lc3, pa3, pc3⟩ := ac
  rw [vG_lit, vG_lit, vG_lit]
  obtain ⟨W0, hW0⟩ : ∃ W0, W0 = ((w.alloc (.cells #[.int .i64 k, .int .u64 (n : Int), .string (strB t), .slice fa fs.length fc, .string (strB r), .slice la ls.length lc, .slice pa ps.length pc] 27)).alloc (.cells #[.int .i64 k2, .int .u64 (n2 : Int), .string (strB t2), .slice fa2 fs2.length fc2, .string (strB r2), .slice la2 ls2.length lc2, .slice pa2 ps2.length pc2] 27)).alloc (.cells #[.int .i64 k3, .int .u64 (n3 : Int), .string (strB t3), .slice fa3 fs3.length fc3, .string (strB r3), .slice la3 ls3.length lc3, .slice pa3 ps3.length pc3] 27) := ⟨_, rfl⟩
  obtain ⟨g, hg⟩ : ∃ g, g = w.heap.size := ⟨_, rfl⟩
  have HBA : Hid (Below w.heap.size w W0) := by rw [hW0]; exact (((Below.refl _ _).alloc (Nat.le_refl _) _).alloc (by simp) _).alloc (by simp; omega) _
  have hcx : CellsAt W0 g 27 #[.int .i64 k, .int .u64 (n : Int), .string (strB t), .slice fa fs.length fc, .string (strB r), .slice la ls.length lc, .slice pa ps.length pc] := by rw [hW0, hg]; exact ((CellsAt.new w _ _).allocC).allocC
  have hcy : CellsAt W0 (g + 1) 27 #[.int .i64 k2, .int .u64 (n2 : Int), .string (strB t2), .slice fa2 fs2.length fc2, .string (strB r2), .slice la2 ls2.length lc2, .slice pa2 ps2.length pc2] := by rw [hW0, hg]; exact (CellsAt.new' (by simp)).allocC
  have hcz : CellsAt W0 (g + 1 + 1) 27 #[.int .i64 k3, .int .u64 (n3 : Int), .string (strB t3), .slice fa3 fs3.length fc3, .string (strB r3), .slice la3 ls3.length lc3, .slice pa3 ps3.length pc3] := by rw [hW0, hg]; exact CellsAt.new' (by simp)
  have HS : Hid (∀ W, Below W0.heap.size W0 W → Below W0.heap.size W0 W ∧ W.cell? ⟨g, 0, none⟩ = some (.int .i64 k) ∧ W.cell? ⟨g, 1, none⟩ = some (.int .u64 (n : Int)) ∧ W.cell? ⟨g, 2, none⟩ = some (.string (strB t)) ∧ W.cell? ⟨g, 3, none⟩ = some (.slice fa fs.length fc) ∧ W.cell? ⟨g, 4, none⟩ = some (.string (strB r)) ∧ W.cell? ⟨g, 5, none⟩ = some (.slice la ls.length lc) ∧ W.cell? ⟨g, 6, none⟩ = some (.slice pa ps.length pc) ∧ W.cell? ⟨g + 1, 0, none⟩ = some (.int .i64 k2) ∧ W.cell? ⟨g + 1, 1, none⟩ = some (.int .u64 (n2 : Int)) ∧ W.cell? ⟨g + 1, 2, none⟩ = some (.string (strB t2)) ∧ W.cell? ⟨g + 1, 3, none⟩ = some (.slice fa2 fs2.length fc2) ∧ W.cell? ⟨g + 1, 4, none⟩ = some (.string (strB r2)) ∧ W.cell? ⟨g + 1, 5, none⟩ = some (.slice la2 ls2.length lc2) ∧ W.cell? ⟨g + 1, 6, none⟩ = some (.slice pa2 ps2.length pc2) ∧ W.cell? ⟨g + 1 + 1, 0, none⟩ = some (.int .i64 k3) ∧ W.cell? ⟨g + 1 + 1, 1, none⟩ = some (.int .u64 (n3 : Int)) ∧ W.cell? ⟨g + 1 + 1, 2, none⟩ = some (.string (strB t3)) ∧ W.cell? ⟨g + 1 + 1, 3, none⟩ = some (.slice fa3 fs3.length fc3) ∧ W.cell? ⟨g + 1 + 1, 4, none⟩ = some (.string (strB r3)) ∧ W.cell? ⟨g + 1 + 1, 5, none⟩ = some (.slice la3 ls3.length lc3) ∧ W.cell? ⟨g + 1 + 1, 6, none⟩ = some (.slice pa3 ps3.length pc3)) := fun W hb => by
    obtain ⟨a0, a1, a2, a3, a4, a5, a6⟩ := box7 (hcx.stays hb)
    obtain ⟨b0, b1, b2, b3, b4, b5, b6⟩ := box7 (hcy.stays hb)
    obtain ⟨c0, c1, c2, c3, c4, c5, c6⟩ := box7 (hcz.stays hb)
    exact ⟨hb, a0, a1, a2, a3, a4, a5, a6, b0, b1, b2, b3, b4, b5, b6, c0, c1, c2, c3, c4, c5, c6⟩
  have HA : Hid (∀ W, Below W0.heap.size W0 W → Rep (fun _ => True) W (.mk k n t fs r ls ps) ⟨fa, fc, la, lc, pa, pc⟩) := fun W hb => hra.stays (HBA.out.trans (hb.mono HBA.out.size))
  have HB : Hid (∀ W, Below W0.heap.size W0 W → Rep (fun _ => True) W (.mk k2 n2 t2 fs2 r2 ls2 ps2) ⟨fa2, fc2, la2, lc2, pa2, pc2⟩) := fun W hb => hrb.stays (HBA.out.trans (hb.mono HBA.out.size))
  have HC : Hid (∀ W, Below W0.heap.size W0 W → Rep (fun _ => True) W (.mk k3 n3 t3 fs3 r3 ls3 ps3) ⟨fa3, fc3, la3, lc3, pa3, pc3⟩) := fun W hb => hrc.stays (HBA.out.trans (hb.mono HBA.out.size))
  have HF : Hid (∀ W, Below W0.heap.size W0 W → Below w.heap.size w W) := fun W hb => HBA.out.trans (hb.mono HBA.out.size)
  have HW := Lib.hid hW0
  have HG := Lib.hid hg
  clear hra hrb hrc hcx hcy hcz hW0 hg HBA
  go_enter Try.func6, Try.ntmps6
  go_wp2_with fail
  have hW0 := HW.out
  have hg := HG.out
  rw [← hW0, ← hg]
  clear hW0 hg HW HG
  refine (alive13 _).mono ?_
  rintro e w1 ⟨rfl, hb1⟩
  obtain ⟨-, x0, x1, x2, x3, x4, x5, x6, y0, y1, y2, y3, y4, y5, y6, z0, z1, z2, z3, z4, z5, z6⟩ := HS.out w1 hb1
  go_wp2_with fail
  refine (Great_any (by omega) (by omega) (HA.out w1 hb1)).mono ?_
  rintro e w2 ⟨rfl, hb2⟩
  replace hb2 := hb1.trans (hb2.mono hb1.size)
  clear hb1 x0 x1 x2 x3 x4 x5 x6 y0 y1 y2 y3 y4 y5 y6 z0 z1 z2 z3 z4 z5 z6
  by_cases hga : greatV (.mk k n t fs r ls ps) 100 30 < 0
  · have HF2 := Lib.hid (HF.out w2 hb2)
    go_wp2_with fail
    go_ret
    exact ⟨rfl, HF2.out⟩
  have HWA := Lib.hid (great_w2 hga)
  have e1 : decide (greatV (.mk k n t fs r ls ps) 100 30 < 0) = false := decide_eq_false hga
  generalize decide (greatV (.mk k n t fs r ls ps) 100 30 < 0) = b1 at e1 ⊢
  subst e1
  clear hga
  obtain ⟨-, x0, x1, x2, x3, x4, x5, x6, y0, y1, y2, y3, y4, y5, y6, z0, z1, z2, z3, z4, z5, z6⟩ := HS.out w2 hb2
  go_wp2_with fail
  refine (Great_any (by omega) (by omega) (HC.out w2 hb2)).mono ?_
  rintro e w3 ⟨rfl, hb3⟩
  replace hb3 := hb2.trans (hb3.mono hb2.size)
  clear hb2 x0 x1 x2 x3 x4 x5 x6 y0 y1 y2 y3 y4 y5 y6 z0 z1 z2 z3 z4 z5 z6
  by_cases hgc : greatV (.mk k3 n3 t3 fs3 r3 ls3 ps3) 100 30 < 0
  · have HF2 := Lib.hid (HF.out w3 hb3)
    go_wp2_with fail
    go_ret
    exact ⟨rfl, HF2.out⟩
  have HWC := Lib.hid (great_w2 hgc)
  have e1 : decide (greatV (.mk k3 n3 t3 fs3 r3 ls3 ps3) 100 30 < 0) = false := decide_eq_false hgc
  generalize decide (greatV (.mk k3 n3 t3 fs3 r3 ls3 ps3) 100 30 < 0) = b1 at e1 ⊢
  subst e1
  clear hgc
  obtain ⟨-, x0, x1, x2, x3, x4, x5, x6, y0, y1, y2, y3, y4, y5, y6, z0, z1, z2, z3, z4, z5, z6⟩ := HS.out w3 hb3
  go_wp2_with fail
  refine (Great_any (by omega) (by omega) (HB.out w3 hb3)).mono ?_
  rintro e w4 ⟨rfl, hb4⟩
  replace hb4 := hb3.trans (hb4.mono hb3.size)
  clear hb3 x0 x1 x2 x3 x4 x5 x6 y0 y1 y2 y3 y4 y5 y6 z0 z1 z2 z3 z4 z5 z6
  by_cases hgb : greatV (.mk k2 n2 t2 fs2 r2 ls2 ps2) 100 30 < 0
  · have HF2 := Lib.hid (HF.out w4 hb4)
    go_wp2_with fail
    go_ret
    exact ⟨rfl, HF2.out⟩
  have HWB := Lib.hid (great_w2 hgb)
  have e1 : decide (greatV (.mk k2 n2 t2 fs2 r2 ls2 ps2) 100 30 < 0) = false := decide_eq_false hgb
  generalize decide (greatV (.mk k2 n2 t2 fs2 r2 ls2 ps2) 100 30 < 0) = b1 at e1 ⊢
  subst e1
  clear hgb
  obtain ⟨-, x0, x1, x2, x3, x4, x5, x6, y0, y1, y2, y3, y4, y5, y6, z0, z1, z2, z3, z4, z5, z6⟩ := HS.out w4 hb4
  go_wp2_with fail
  refine (right_lit (HA.out w4 hb4)).mono ?_
  rintro e w5 ⟨rfl, hb5⟩
  replace hb5 := hb4.trans (hb5.mono hb4.size)
  clear hb4 x0 x1 x2 x3 x4 x5 x6 y0 y1 y2 y3 y4 y5 y6 z0 z1 z2 z3 z4 z5 z6
  cases hRA : rightV (.mk k n t fs r ls ps) with
  | false =>
    have HF2 := Lib.hid (HF.out w5 hb5)
    clear hRA
    go_wp2_with fail
    go_ret
    exact ⟨rfl, HF2.out⟩
  | true =>
  have HRA := Lib.hid hRA
  clear hRA
  obtain ⟨-, x0, x1, x2, x3, x4, x5, x6, y0, y1, y2, y3, y4, y5, y6, z0, z1, z2, z3, z4, z5, z6⟩ := HS.out w5 hb5
  go_wp2_with fail
  refine (right_lit (HC.out w5 hb5)).mono ?_
  rintro e w6 ⟨rfl, hb6⟩
  replace hb6 := hb5.trans (hb6.mono hb5.size)
  clear hb5 x0 x1 x2 x3 x4 x5 x6 y0 y1 y2 y3 y4 y5 y6 z0 z1 z2 z3 z4 z5 z6
  cases hRC : rightV (.mk k3 n3 t3 fs3 r3 ls3 ps3) with
  | false =>
    have HF2 := Lib.hid (HF.out w6 hb6)
    clear hRC
    go_wp2_with fail
    go_ret
    exact ⟨rfl, HF2.out⟩
  | true =>
  have HRC := Lib.hid hRC
  clear hRC
  obtain ⟨-, x0, x1, x2, x3, x4, x5, x6, y0, y1, y2, y3, y4, y5, y6, z0, z1, z2, z3, z4, z5, z6⟩ := HS.out w6 hb6
  go_wp2_with fail
  refine (right_lit (HB.out w6 hb6)).mono ?_
  rintro e w7 ⟨rfl, hb7⟩
  replace hb7 := hb6.trans (hb7.mono hb6.size)
  clear hb6 x0 x1 x2 x3 x4 x5 x6 y0 y1 y2 y3 y4 y5 y6 z0 z1 z2 z3 z4 z5 z6
  cases hRB : rightV (.mk k2 n2 t2 fs2 r2 ls2 ps2) with
  | false =>
    have HF2 := Lib.hid (HF.out w7 hb7)
    clear hRB
    go_wp2_with fail
    go_ret
    exact ⟨rfl, HF2.out⟩
  | true =>
  have HRB := Lib.hid hRB
  clear hRB
  obtain ⟨-, x0, x1, x2, x3, x4, x5, x6, y0, y1, y2, y3, y4, y5, y6, z0, z1, z2, z3, z4, z5, z6⟩ := HS.out w7 hb7
  have hww : wV (putV (.mk k n t fs r ls ps) (.mk k2 n2 t2 fs2 r2 ls2 ps2) (.mk k3 n3 t3 fs3 r3 ls3 ps3)) ≤ 1000000 := by have := w_put (.mk k n t fs r ls ps) (.mk k2 n2 t2 fs2 r2 ls2 ps2) (.mk k3 n3 t3 fs3 r3 ls3 ps3); have := HWA.out; have := HWB.out; have := HWC.out; omega
  have hwg : wV (findV (.mk k n t fs r ls ps) (.mk k2 n2 t2 fs2 r2 ls2 ps2)) ≤ 1000000 := by have := w_found (.mk k n t fs r ls ps) (.mk k2 n2 t2 fs2 r2 ls2 ps2); have := HWA.out; omega
  have hpl : ps.length ≤ 1000000 := by have := wP_len ps; have := HWA.out; rw [wV_eq] at this; simp only [V.ps] at this; omega
  have HCW : Hid (∀ W, Below W0.heap.size W0 W → Calls _ _ _ W _) := fun W hb => put_any (HA.out W hb) (HB.out W hb) (HC.out W hb) HRA.out hpl
  have HCG : Hid (∀ W, Below W0.heap.size W0 W → Calls _ _ _ W _) := fun W hb => find_any (HA.out W hb) (HB.out W hb) HRA.out hpl
  have HRP : Hid (∀ (W : World) (fa la pa : Option Addr) (fc lc pc : Nat) (fa2 la2 pa2 : Option Addr) (fc2 lc2 pc2 : Nat) (fa3 la3 pa3 : Option Addr) (fc3 lc3 pc3 : Nat), Rep (fun _ => True) W (.mk k n t fs r ls ps) ⟨fa, fc, la, lc, pa, pc⟩ → Rep (fun _ => True) W (.mk k2 n2 t2 fs2 r2 ls2 ps2) ⟨fa2, fc2, la2, lc2, pa2, pc2⟩ → Rep (fun _ => True) W (.mk k3 n3 t3 fs3 r3 ls3 ps3) ⟨fa3, fc3, la3, lc3, pa3, pc3⟩ → Calls _ _ _ W _) := fun W fa la pa fc lc pc fa2 la2 pa2 fc2 lc2 pc2 fa3 la3 pa3 fc3 lc3 pc3 h1 h2 h3 => rput_any (w := W) h1 h2 h3 hpl
  have HRG : Hid (∀ (W : World) (fa la pa : Option Addr) (fc lc pc : Nat) (fa2 la2 pa2 : Option Addr) (fc2 lc2 pc2 : Nat), Rep (fun _ => True) W (.mk k n t fs r ls ps) ⟨fa, fc, la, lc, pa, pc⟩ → Rep (fun _ => True) W (.mk k2 n2 t2 fs2 r2 ls2 ps2) ⟨fa2, fc2, la2, lc2, pa2, pc2⟩ → Calls _ _ _ W _) := fun W fa la pa fc lc pc fa2 la2 pa2 fc2 lc2 pc2 h1 h2 => rfind_any (w := W) h1 h2 hpl
  generalize putV (.mk k n t fs r ls ps) (.mk k2 n2 t2 fs2 r2 ls2 ps2) (.mk k3 n3 t3 fs3 r3 ls3 ps3) = X at HCW HRP hww
  generalize findV (.mk k n t fs r ls ps) (.mk k2 n2 t2 fs2 r2 ls2 ps2) = Y at HCG HRG hwg
  obtain ⟨k6, n6, t6, fs6, r6, ls6, ps6⟩ := X
  obtain ⟨k5, n5, t5, fs5, r5, ls5, ps5⟩ := Y
  have HCO : Hid (∀ W, Below W0.heap.size W0 W → Calls Try.prog 14 #[.agg #[.int .i64 k, .int .u64 (n : Int), .string (strB t), .slice fa fs.length fc, .string (strB r), .slice la ls.length lc, .slice pa ps.length pc]] W fun e w' => ∃ (fa la pa : Option Addr) (fc lc pc : Nat), e = .returned (.agg #[.int .i64 k, .int .u64 (n : Int), .string (strB t), .slice fa fs.length fc, .string (strB r), .slice la ls.length lc, .slice pa ps.length pc]) ∧ Rep (fun _ => True) w' (.mk k n t fs r ls ps) ⟨fa, fc, la, lc, pa, pc⟩ ∧ Below W.heap.size W w') := fun W hb => (OfC.lit (of_any _) (HA.out W hb) (by have := HWA.out; omega)).mono fun e w' ⟨fa, la, pa, fc, lc, pc, h1, h2, h3⟩ => ⟨fa, la, pa, fc, lc, pc, h1, h2.any, h3⟩
  have HCP : Hid (∀ W, Below W0.heap.size W0 W → Calls Try.prog 14 #[.agg #[.int .i64 k2, .int .u64 (n2 : Int), .string (strB t2), .slice fa2 fs2.length fc2, .string (strB r2), .slice la2 ls2.length lc2, .slice pa2 ps2.length pc2]] W fun e w' => ∃ (fa2 la2 pa2 : Option Addr) (fc2 lc2 pc2 : Nat), e = .returned (.agg #[.int .i64 k2, .int .u64 (n2 : Int), .string (strB t2), .slice fa2 fs2.length fc2, .string (strB r2), .slice la2 ls2.length lc2, .slice pa2 ps2.length pc2]) ∧ Rep (fun _ => True) w' (.mk k2 n2 t2 fs2 r2 ls2 ps2) ⟨fa2, fc2, la2, lc2, pa2, pc2⟩ ∧ Below W.heap.size W w') := fun W hb => (OfC.lit (of_any _) (HB.out W hb) (by have := HWB.out; omega)).mono fun e w' ⟨fa, la, pa, fc, lc, pc, h1, h2, h3⟩ => ⟨fa, la, pa, fc, lc, pc, h1, h2.any, h3⟩
  have HCQ : Hid (∀ W, Below W0.heap.size W0 W → Calls Try.prog 14 #[.agg #[.int .i64 k3, .int .u64 (n3 : Int), .string (strB t3), .slice fa3 fs3.length fc3, .string (strB r3), .slice la3 ls3.length lc3, .slice pa3 ps3.length pc3]] W fun e w' => ∃ (fa3 la3 pa3 : Option Addr) (fc3 lc3 pc3 : Nat), e = .returned (.agg #[.int .i64 k3, .int .u64 (n3 : Int), .string (strB t3), .slice fa3 fs3.length fc3, .string (strB r3), .slice la3 ls3.length lc3, .slice pa3 ps3.length pc3]) ∧ Rep (fun _ => True) w' (.mk k3 n3 t3 fs3 r3 ls3 ps3) ⟨fa3, fc3, la3, lc3, pa3, pc3⟩ ∧ Below W.heap.size W w') := fun W hb => (OfC.lit (of_any _) (HC.out W hb) (by have := HWC.out; omega)).mono fun e w' ⟨fa, la, pa, fc, lc, pc, h1, h2, h3⟩ => ⟨fa, la, pa, fc, lc, pc, h1, h2.any, h3⟩
  have HQX : Hid (∀ W fa la pa fc lc pc, Rep (fun _ => True) W (.mk k6 n6 t6 fs6 r6 ls6 ps6) ⟨fa, fc, la, lc, pa, pc⟩ → Calls _ _ _ W _) := fun W fa la pa fc lc pc hr => OfC.lit (w := W) (of_any _) hr hww
  have HQY : Hid (∀ W fa la pa fc lc pc, Rep (fun _ => True) W (.mk k5 n5 t5 fs5 r5 ls5 ps5) ⟨fa, fc, la, lc, pa, pc⟩ → Calls _ _ _ W _) := fun W fa la pa fc lc pc hr => OfC.lit (w := W) (of_any _) hr hwg
  have HB5 := Lib.hid hb7
  clear hb7 hww hwg hpl HRA HRB HRC HWA HWB HWC
  go_wp2_with fail
  refine (HCO.out _ HB5.out).mono ?_
  rintro e w8 ⟨fa7, la7, pa7, fc7, lc7, pc7, rfl, hr7, hb6⟩
  have hb06 : Below W0.heap.size W0 w8 := below_call hb6 HB5.out
  clear x0 x1 x2 x3 x4 x5 x6 y0 y1 y2 y3 y4 y5 y6 z0 z1 z2 z3 z4 z5 z6
  obtain ⟨W6, hW6⟩ : ∃ W6, W6 = w8.alloc (.cells #[.int .i64 k, .int .u64 (n : Int), .string (strB t), .slice fa7 fs.length fc7, .string (strB r), .slice la7 ls.length lc7, .slice pa7 ps.length pc7] 34) := ⟨_, rfl⟩
  obtain ⟨b7, hb7⟩ : ∃ b7, b7 = w8.heap.size := ⟨_, rfl⟩
  have hbA : Below w8.heap.size w8 W6 := by rw [hW6]; exact (Below.refl _ _).alloc (Nat.le_refl _) _
  have hc7 : CellsAt W6 b7 34 #[.int .i64 k, .int .u64 (n : Int), .string (strB t), .slice fa7 fs.length fc7, .string (strB r), .slice la7 ls.length lc7, .slice pa7 ps.length pc7] := by rw [hW6, hb7]; exact CellsAt.new w8 _ _
  have hB6 : Below W0.heap.size W0 W6 := hb06.trans (hbA.mono hb06.size)
  have hR7 := hr7.stays hbA
  have HW6 := Lib.hid hW6
  have HB7 := Lib.hid hb7
  clear hr7 hb6 hb06 hW6 hb7 hbA
  go_upto_region 6 with fail
  have hW6 := HW6.out
  have hb7 := HB7.out
  rw [← hW6, ← hb7]
  clear hW6 hb7 HW6 HB7
  obtain ⟨-, x0, x1, x2, x3, x4, x5, x6, y0, y1, y2, y3, y4, y5, y6, z0, z1, z2, z3, z4, z5, z6⟩ := HS.out W6 hB6
  go_wp2_with fail
  refine (HCW.out _ hB6).mono ?_
  intro e w7 hv7
  obtain ⟨fa6, la6, pa6, fc6, lc6, pc6, rfl, hr6, hb7⟩ := hv7.lit
  clear hv7 x0 x1 x2 x3 x4 x5 x6 y0 y1 y2 y3 y4 y5 y6 z0 z1 z2 z3 z4 z5 z6
  obtain ⟨W7, hW7⟩ : ∃ W7, W7 = w7.alloc (.cells #[.int .i64 k6, .int .u64 (n6 : Int), .string (strB t6), .slice fa6 fs6.length fc6, .string (strB r6), .slice la6 ls6.length lc6, .slice pa6 ps6.length pc6] 27) := ⟨_, rfl⟩
  obtain ⟨b8, hb8⟩ : ∃ b8, b8 = w7.heap.size := ⟨_, rfl⟩
  have hbA : Below w7.heap.size w7 W7 := by rw [hW7]; exact (Below.refl _ _).alloc (Nat.le_refl _) _
  have hc8 : CellsAt W7 b8 27 #[.int .i64 k6, .int .u64 (n6 : Int), .string (strB t6), .slice fa6 fs6.length fc6, .string (strB r6), .slice la6 ls6.length lc6, .slice pa6 ps6.length pc6] := by rw [hW7, hb8]; exact CellsAt.new w7 _ _
  have hbB : Below W6.heap.size W6 W7 := hb7.trans (hbA.mono hb7.size)
  have hR6 := hr6.stays hbA
  have hB7 : Below W0.heap.size W0 W7 := hB6.trans (hbB.mono hB6.size)
  have hR7' := hR7.stays hbB
  have hc7' := hc7.stays hbB
  have HW7 := Lib.hid hW7
  have HB8 := Lib.hid hb8
  clear hr6 hb7 hW7 hb8 hbA hbB hR7 hc7
  have HS7 : Hid (∀ W, Below W7.heap.size W7 W → Below W7.heap.size W7 W ∧ W.cell? ⟨g, 0, none⟩ = some (.int .i64 k) ∧ W.cell? ⟨g, 1, none⟩ = some (.int .u64 (n : Int)) ∧ W.cell? ⟨g, 2, none⟩ = some (.string (strB t)) ∧ W.cell? ⟨g, 3, none⟩ = some (.slice fa fs.length fc) ∧ W.cell? ⟨g, 4, none⟩ = some (.string (strB r)) ∧ W.cell? ⟨g, 5, none⟩ = some (.slice la ls.length lc) ∧ W.cell? ⟨g, 6, none⟩ = some (.slice pa ps.length pc) ∧ W.cell? ⟨g + 1, 0, none⟩ = some (.int .i64 k2) ∧ W.cell? ⟨g + 1, 1, none⟩ = some (.int .u64 (n2 : Int)) ∧ W.cell? ⟨g + 1, 2, none⟩ = some (.string (strB t2)) ∧ W.cell? ⟨g + 1, 3, none⟩ = some (.slice fa2 fs2.length fc2) ∧ W.cell? ⟨g + 1, 4, none⟩ = some (.string (strB r2)) ∧ W.cell? ⟨g + 1, 5, none⟩ = some (.slice la2 ls2.length lc2) ∧ W.cell? ⟨g + 1, 6, none⟩ = some (.slice pa2 ps2.length pc2) ∧ W.cell? ⟨g + 1 + 1, 0, none⟩ = some (.int .i64 k3) ∧ W.cell? ⟨g + 1 + 1, 1, none⟩ = some (.int .u64 (n3 : Int)) ∧ W.cell? ⟨g + 1 + 1, 2, none⟩ = some (.string (strB t3)) ∧ W.cell? ⟨g + 1 + 1, 3, none⟩ = some (.slice fa3 fs3.length fc3) ∧ W.cell? ⟨g + 1 + 1, 4, none⟩ = some (.string (strB r3)) ∧ W.cell? ⟨g + 1 + 1, 5, none⟩ = some (.slice la3 ls3.length lc3) ∧ W.cell? ⟨g + 1 + 1, 6, none⟩ = some (.slice pa3 ps3.length pc3) ∧ W.cell? ⟨b7, 0, none⟩ = some (.int .i64 k) ∧ W.cell? ⟨b7, 1, none⟩ = some (.int .u64 (n : Int)) ∧ W.cell? ⟨b7, 2, none⟩ = some (.string (strB t)) ∧ W.cell? ⟨b7, 3, none⟩ = some (.slice fa7 fs.length fc7) ∧ W.cell? ⟨b7, 4, none⟩ = some (.string (strB r)) ∧ W.cell? ⟨b7, 5, none⟩ = some (.slice la7 ls.length lc7) ∧ W.cell? ⟨b7, 6, none⟩ = some (.slice pa7 ps.length pc7) ∧ W.cell? ⟨b8, 0, none⟩ = some (.int .i64 k6) ∧ W.cell? ⟨b8, 1, none⟩ = some (.int .u64 (n6 : Int)) ∧ W.cell? ⟨b8, 2, none⟩ = some (.string (strB t6)) ∧ W.cell? ⟨b8, 3, none⟩ = some (.slice fa6 fs6.length fc6) ∧ W.cell? ⟨b8, 4, none⟩ = some (.string (strB r6)) ∧ W.cell? ⟨b8, 5, none⟩ = some (.slice la6 ls6.length lc6) ∧ W.cell? ⟨b8, 6, none⟩ = some (.slice pa6 ps6.length pc6)) := fun W hb => by
    obtain ⟨-, a0, a1, a2, a3, a4, a5, a6, b0, b1, b2, b3, b4, b5, b6, e0, e1, e2, e3, e4, e5, e6⟩ := HS.out W (hB7.trans (hb.mono hB7.size))
    obtain ⟨c0, c1, c2, c3, c4, c5, c6⟩ := box7 (hc7'.stays hb)
    obtain ⟨d0, d1, d2, d3, d4, d5, d6⟩ := box7 (hc8.stays hb)
    exact ⟨hb, a0, a1, a2, a3, a4, a5, a6, b0, b1, b2, b3, b4, b5, b6, e0, e1, e2, e3, e4, e5, e6, c0, c1, c2, c3, c4, c5, c6, d0, d1, d2, d3, d4, d5, d6⟩
  have HZ7 : Hid (∀ W, Below W7.heap.size W7 W → Below W0.heap.size W0 W) := fun W hb => hB7.trans (hb.mono hB7.size)
  have HV7 : Hid (∀ W, Below W7.heap.size W7 W → Rep (fun _ => True) W (.mk k n t fs r ls ps) ⟨fa7, fc7, la7, lc7, pa7, pc7⟩) := fun W hb => hR7'.stays hb
  have HX7 : Hid (∀ W, Below W7.heap.size W7 W → Rep (fun _ => True) W (.mk k6 n6 t6 fs6 r6 ls6 ps6) ⟨fa6, fc6, la6, lc6, pa6, pc6⟩) := fun W hb => hR6.stays hb
  clear hc7' hc8 hR7' hR6 hB7 hB6 HCW HB5
  go_upto_region 7 with fail
  have hW7 := HW7.out
  have hb8 := HB8.out
  rw [← hW7, ← hb8]
  clear hW7 hb8 HW7 HB8
  have hd0 : Below W7.heap.size W7 W7 := Below.refl _ _
  have hd1 : Below W7.heap.size W7 W7.drew := hd0.drew
  -- the calls' contracts
  have H1 : Hid (∀ W, Below W7.heap.size W7 W → Calls _ _ _ W _) := fun W hb => HQX.out W _ _ _ _ _ _ (HX7.out W hb)
  have H2 : Hid (∀ W, Below W7.heap.size W7 W → Calls _ _ _ W _) := fun W hb => HCP.out W (HZ7.out W hb)
  have H3 : Hid (∀ W, Below W7.heap.size W7 W → Calls _ _ _ W _) := fun W hb => HCQ.out W (HZ7.out W hb)
  have H4 : Hid (∀ (W : World) (fa2 la2 pa2 : Option Addr) (fc2 lc2 pc2 : Nat) (fa3 la3 pa3 : Option Addr) (fc3 lc3 pc3 : Nat), Rep (fun _ => True) W (.mk k2 n2 t2 fs2 r2 ls2 ps2) ⟨fa2, fc2, la2, lc2, pa2, pc2⟩ → Rep (fun _ => True) W (.mk k3 n3 t3 fs3 r3 ls3 ps3) ⟨fa3, fc3, la3, lc3, pa3, pc3⟩ → Below W7.heap.size W7 W → Calls _ _ _ W _) := fun W fa2 la2 pa2 fc2 lc2 pc2 fa3 la3 pa3 fc3 lc3 pc3 h2 h3 hb => HRP.out W _ _ _ _ _ _ _ _ _ _ _ _ _ _ _ _ _ _ (HV7.out W hb) h2 h3
  have H5 : Hid (∀ (W : World) (fa la pa fa2 la2 pa2 : Option Addr) (fc lc pc fc2 lc2 pc2 : Nat) (S S' : Nat → Prop), Rep S W (.mk k6 n6 t6 fs6 r6 ls6 ps6) ⟨fa, fc, la, lc, pa, pc⟩ → Rep S' W (.mk k6 n6 t6 fs6 r6 ls6 ps6) ⟨fa2, fc2, la2, lc2, pa2, pc2⟩ → Calls Try.prog 24 #[.agg #[.int .i64 k6, .int .u64 (n6 : Int), .string (strB t6), .slice fa fs6.length fc, .string (strB r6), .slice la ls6.length lc, .slice pa ps6.length pc], .agg #[.int .i64 k6, .int .u64 (n6 : Int), .string (strB t6), .slice fa2 fs6.length fc2, .string (strB r6), .slice la2 ls6.length lc2, .slice pa2 ps6.length pc2]] W fun e w' => e = .returned (.bool true) ∧ Below W.heap.size W w') := fun W fa la pa fa2 la2 pa2 fc lc pc fc2 lc2 pc2 S S' h h' => (rsame_lit h h').mono fun e w' h => by rw [cmpV_self] at h; exact h
  have H6 : Hid (∀ W, Below W7.heap.size W7 W → Calls _ _ _ W _) := fun W hb => HCG.out W (HZ7.out W hb)
  have H9 : Hid (∀ (W : World) (fa2 la2 pa2 : Option Addr) (fc2 lc2 pc2 : Nat), Rep (fun _ => True) W (.mk k2 n2 t2 fs2 r2 ls2 ps2) ⟨fa2, fc2, la2, lc2, pa2, pc2⟩ → Below W7.heap.size W7 W → Calls _ _ _ W _) := fun W fa2 la2 pa2 fc2 lc2 pc2 h2 hb => HRG.out W _ _ _ _ _ _ _ _ _ _ _ _ (HV7.out W hb) h2
  have H10 : Hid (∀ (W : World) (fa la pa fa2 la2 pa2 : Option Addr) (fc lc pc fc2 lc2 pc2 : Nat) (S S' : Nat → Prop), Rep S W (.mk k5 n5 t5 fs5 r5 ls5 ps5) ⟨fa, fc, la, lc, pa, pc⟩ → Rep S' W (.mk k5 n5 t5 fs5 r5 ls5 ps5) ⟨fa2, fc2, la2, lc2, pa2, pc2⟩ → Calls Try.prog 24 #[.agg #[.int .i64 k5, .int .u64 (n5 : Int), .string (strB t5), .slice fa fs5.length fc, .string (strB r5), .slice la ls5.length lc, .slice pa ps5.length pc], .agg #[.int .i64 k5, .int .u64 (n5 : Int), .string (strB t5), .slice fa2 fs5.length fc2, .string (strB r5), .slice la2 ls5.length lc2, .slice pa2 ps5.length pc2]] W fun e w' => e = .returned (.bool true) ∧ Below W.heap.size W w') := fun W fa la pa fa2 la2 pa2 fc lc pc fc2 lc2 pc2 S S' h h' => (rsame_lit h h').mono fun e w' h => by rw [cmpV_self] at h; exact h
  have H11 : Hid (∀ W, Below W7.heap.size W7 W → Calls _ _ _ W _) := fun W hb => HCO.out W (HZ7.out W hb)
  have H12 : Hid (∀ (W : World) (fa12 la12 pa12 : Option Addr) (fc12 lc12 pc12 : Nat) (S : Nat → Prop), Rep S W (.mk k n t fs r ls ps) ⟨fa12, fc12, la12, lc12, pa12, pc12⟩ → Below W7.heap.size W7 W → Calls Try.prog 24 #[.agg #[.int .i64 k, .int .u64 (n : Int), .string (strB t), .slice fa12 fs.length fc12, .string (strB r), .slice la12 ls.length lc12, .slice pa12 ps.length pc12], .agg #[.int .i64 k, .int .u64 (n : Int), .string (strB t), .slice fa7 fs.length fc7, .string (strB r), .slice la7 ls.length lc7, .slice pa7 ps.length pc7]] W fun e w' => e = .returned (.bool true) ∧ Below W.heap.size W w') := fun W fa12 la12 pa12 fc12 lc12 pc12 S hr hb => (rsame_lit hr (HV7.out W hb)).mono fun e w' h => by rw [cmpV_self] at h; exact h
  have H13 : Hid (∀ W, Calls Try.prog 33 #[.int .u64 3] W fun e w' => e = .returned (.agg #[.int .i64 1, .int .u64 3, .string ⟨#[]⟩, .slice none 0 0, .string ⟨#[]⟩, .slice none 0 0, .slice none 0 0]) ∧ Below W.heap.size W w') := fun W => num_lit 3 W
  have rN : ∀ W, Rep (fun _ => True) W (.mk 1 3 [] [] [] [] []) ⟨none, 0, none, 0, none, 0⟩ := fun W => Rep.leaf 1 3 [] [] ⟨by decide, by decide⟩ (by decide) _
  have rS : ∀ W, Rep (fun _ => True) W (.mk 2 0 [97] [] [] [] []) ⟨none, 0, none, 0, none, 0⟩ := fun W => Rep.leaf 2 0 [97] [] ⟨by decide, by decide⟩ (by decide) _
  obtain ⟨E3, hE3⟩ : ∃ E3, E3 = (cmpV (.mk 1 3 [] [] [] [] []) (.mk k6 n6 t6 fs6 r6 ls6 ps6) == 0) := ⟨_, rfl⟩
  obtain ⟨E4, hE4⟩ : ∃ E4, E4 = (cmpV (.mk 2 0 [97] [] [] [] []) (.mk k2 n2 t2 fs2 r2 ls2 ps2) == 0) := ⟨_, rfl⟩
  have H14 : Hid (∀ W, Below W7.heap.size W7 W → Calls Try.prog 23 #[.agg #[.int .i64 1, .int .u64 3, .string ⟨#[]⟩, .slice none 0 0, .string ⟨#[]⟩, .slice none 0 0, .slice none 0 0], .agg #[.int .i64 k6, .int .u64 (n6 : Int), .string (strB t6), .slice fa6 fs6.length fc6, .string (strB r6), .slice la6 ls6.length lc6, .slice pa6 ps6.length pc6]] W fun e w' => e = .returned (.bool E3) ∧ Below W.heap.size W w') := fun W hb => by rw [hE3]; exact same_lit (rN W) (HX7.out W hb)
  have H16 : Hid (∀ (W : World) (fa12 la12 pa12 : Option Addr) (fc12 lc12 pc12 : Nat) (S : Nat → Prop), Rep S W (.mk k6 n6 t6 fs6 r6 ls6 ps6) ⟨fa12, fc12, la12, lc12, pa12, pc12⟩ → Calls Try.prog 24 #[.agg #[.int .i64 1, .int .u64 3, .string ⟨#[]⟩, .slice none 0 0, .string ⟨#[]⟩, .slice none 0 0, .slice none 0 0], .agg #[.int .i64 k6, .int .u64 (n6 : Int), .string (strB t6), .slice fa12 fs6.length fc12, .string (strB r6), .slice la12 ls6.length lc12, .slice pa12 ps6.length pc12]] W fun e w' => e = .returned (.bool E3) ∧ Below W.heap.size W w') := fun W fa12 la12 pa12 fc12 lc12 pc12 S hr => by rw [hE3]; exact rsame_lit (rN W) hr
  have H17 : Hid (∀ W, Calls Try.prog 34 #[.string ⟨#[97]⟩] W fun e w' => e = .returned (.agg #[.int .i64 2, .int .u64 0, .string ⟨#[97]⟩, .slice none 0 0, .string ⟨#[]⟩, .slice none 0 0, .slice none 0 0]) ∧ Below W.heap.size W w') := fun W => str_lit [97] W
  have H18 : Hid (∀ W, Below W7.heap.size W7 W → Calls Try.prog 23 #[.agg #[.int .i64 2, .int .u64 0, .string ⟨#[97]⟩, .slice none 0 0, .string ⟨#[]⟩, .slice none 0 0, .slice none 0 0], .agg #[.int .i64 k2, .int .u64 (n2 : Int), .string (strB t2), .slice fa2 fs2.length fc2, .string (strB r2), .slice la2 ls2.length lc2, .slice pa2 ps2.length pc2]] W fun e w' => e = .returned (.bool E4) ∧ Below W.heap.size W w') := fun W hb => by rw [hE4]; exact same_lit (rS W) (HB.out W (HZ7.out W hb))
  have HFF : Hid (∀ W, Below W7.heap.size W7 W → Below w.heap.size w W) := fun W hb => HF.out W (HZ7.out W hb)
  rw [cmp_str] at hE4
  have hE5 : E4 = (k2 == 2 && t2 == [97]) := hE4
  have HE5 := Lib.hid hE5
  clear hE3 hE4 hE5 rN rS HRP HRG HCO HCP HCQ HQX HCG HS HA HB HC HF
  have q3 : (E3 == E3) = true := by simp
  by_cases hk2 : k2 = 2
  · have qk : (k2 == 2) = true := by simpa using hk2
    have HE6 : Hid (E4 = (t2 == [97])) := by have := HE5.out; rw [qk, Bool.true_and] at this; exact this
    clear hk2 HE5
    first
      | (go_region_held3 (fun W => Below W7.heap.size W7 W ∧ W.cell? ⟨g, 0, none⟩ = some (.int .i64 k) ∧ W.cell? ⟨g, 1, none⟩ = some (.int .u64 (n : Int)) ∧ W.cell? ⟨g, 2, none⟩ = some (.string (strB t)) ∧ W.cell? ⟨g, 3, none⟩ = some (.slice fa fs.length fc) ∧ W.cell? ⟨g, 4, none⟩ = some (.string (strB r)) ∧ W.cell? ⟨g, 5, none⟩ = some (.slice la ls.length lc) ∧ W.cell? ⟨g, 6, none⟩ = some (.slice pa ps.length pc) ∧ W.cell? ⟨g + 1, 0, none⟩ = some (.int .i64 k2) ∧ W.cell? ⟨g + 1, 1, none⟩ = some (.int .u64 (n2 : Int)) ∧ W.cell? ⟨g + 1, 2, none⟩ = some (.string (strB t2)) ∧ W.cell? ⟨g + 1, 3, none⟩ = some (.slice fa2 fs2.length fc2) ∧ W.cell? ⟨g + 1, 4, none⟩ = some (.string (strB r2)) ∧ W.cell? ⟨g + 1, 5, none⟩ = some (.slice la2 ls2.length lc2) ∧ W.cell? ⟨g + 1, 6, none⟩ = some (.slice pa2 ps2.length pc2) ∧ W.cell? ⟨g + 1 + 1, 0, none⟩ = some (.int .i64 k3) ∧ W.cell? ⟨g + 1 + 1, 1, none⟩ = some (.int .u64 (n3 : Int)) ∧ W.cell? ⟨g + 1 + 1, 2, none⟩ = some (.string (strB t3)) ∧ W.cell? ⟨g + 1 + 1, 3, none⟩ = some (.slice fa3 fs3.length fc3) ∧ W.cell? ⟨g + 1 + 1, 4, none⟩ = some (.string (strB r3)) ∧ W.cell? ⟨g + 1 + 1, 5, none⟩ = some (.slice la3 ls3.length lc3) ∧ W.cell? ⟨g + 1 + 1, 6, none⟩ = some (.slice pa3 ps3.length pc3) ∧ W.cell? ⟨b7, 0, none⟩ = some (.int .i64 k) ∧ W.cell? ⟨b7, 1, none⟩ = some (.int .u64 (n : Int)) ∧ W.cell? ⟨b7, 2, none⟩ = some (.string (strB t)) ∧ W.cell? ⟨b7, 3, none⟩ = some (.slice fa7 fs.length fc7) ∧ W.cell? ⟨b7, 4, none⟩ = some (.string (strB r)) ∧ W.cell? ⟨b7, 5, none⟩ = some (.slice la7 ls.length lc7) ∧ W.cell? ⟨b7, 6, none⟩ = some (.slice pa7 ps.length pc7) ∧ W.cell? ⟨b8, 0, none⟩ = some (.int .i64 k6) ∧ W.cell? ⟨b8, 1, none⟩ = some (.int .u64 (n6 : Int)) ∧ W.cell? ⟨b8, 2, none⟩ = some (.string (strB t6)) ∧ W.cell? ⟨b8, 3, none⟩ = some (.slice fa6 fs6.length fc6) ∧ W.cell? ⟨b8, 4, none⟩ = some (.string (strB r6)) ∧ W.cell? ⟨b8, 5, none⟩ = some (.slice la6 ls6.length lc6) ∧ W.cell? ⟨b8, 6, none⟩ = some (.slice pa6 ps6.length pc6))
          (exact HS7.out _ (by assumption))
          ((first
              | (go_at_call 14; (with_reducible refine (H1.out _ hd1).mono ?_); rintro e w201 ⟨fa201, la201, pa201, fc201, lc201, pc201, rfl, hr201, hb201⟩; have ht1 : Below W7.heap.size W7 w201 := below_call hb201 hd1)
              | (go_at_call 14; (with_reducible refine (H2.out _ ht1).mono ?_); rintro e w202 ⟨fa202, la202, pa202, fc202, lc202, pc202, rfl, hr202, hb202⟩; have ht2 : Below W7.heap.size W7 w202 := below_call hb202 ht1)
              | (go_at_call 14; (with_reducible refine (H3.out _ ht2).mono ?_); rintro e w203 ⟨fa203, la203, pa203, fc203, lc203, pc203, rfl, hr203, hb203⟩; have ht3 : Below W7.heap.size W7 w203 := below_call hb203 ht2)
              | (go_at_call 30; (with_reducible refine (H4.out _ _ _ _ _ _ _ _ _ _ _ _ _ (hr202.stays hb203) hr203 ht3).mono ?_); intro e w204 hv204; obtain ⟨fa204, la204, pa204, fc204, lc204, pc204, rfl, hr204, hb204⟩ := hv204.lit; have ht4 : Below W7.heap.size W7 w204 := below_call hb204 ht3)
              | (go_at_call 24; (with_reducible refine (H5.out _ _ _ _ _ _ _ _ _ _ _ _ _ _ _ (((hr201.stays hb202).stays hb203).stays hb204) hr204).mono ?_); rintro e w205 ⟨rfl, hb205⟩; have ht5 : Below W7.heap.size W7 w205 := below_call hb205 ht4)
              | (go_at_call 31; (with_reducible refine (H6.out _ ht5).mono ?_); intro e w206 hv206; obtain ⟨fa206, la206, pa206, fc206, lc206, pc206, rfl, hr206, hb206⟩ := hv206.lit; have ht6 : Below W7.heap.size W7 w206 := below_call hb206 ht5)
              | (go_at_call 14; (with_reducible refine (HQY.out _ _ _ _ _ _ _ hr206).mono ?_); rintro e w207 ⟨fa207, la207, pa207, fc207, lc207, pc207, rfl, hr207, hb207⟩; have ht7 : Below W7.heap.size W7 w207 := below_call hb207 ht6)
              | (go_at_call 14; (with_reducible refine (H2.out _ ht7).mono ?_); rintro e w208 ⟨fa208, la208, pa208, fc208, lc208, pc208, rfl, hr208, hb208⟩; have ht8 : Below W7.heap.size W7 w208 := below_call hb208 ht7)
              | (go_at_call 32; (with_reducible refine (H9.out _ _ _ _ _ _ _ hr208 ht8).mono ?_); intro e w209 hv209; obtain ⟨fa209, la209, pa209, fc209, lc209, pc209, rfl, hr209, hb209⟩ := hv209.lit; have ht9 : Below W7.heap.size W7 w209 := below_call hb209 ht8)
              | (go_at_call 24; (with_reducible refine (H10.out _ _ _ _ _ _ _ _ _ _ _ _ _ _ _ ((hr207.stays hb208).stays hb209) hr209).mono ?_); rintro e w210 ⟨rfl, hb210⟩; have ht10 : Below W7.heap.size W7 w210 := below_call hb210 ht9)
              | (go_at_call 14; (with_reducible refine (H11.out _ ht10).mono ?_); rintro e w211 ⟨fa211, la211, pa211, fc211, lc211, pc211, rfl, hr211, hb211⟩; have ht11 : Below W7.heap.size W7 w211 := below_call hb211 ht10)
              | (go_at_call 24; (with_reducible refine (H12.out _ _ _ _ _ _ _ _ hr211 ht11).mono ?_); rintro e w212 ⟨rfl, hb212⟩; have ht12 : Below W7.heap.size W7 w212 := below_call hb212 ht11)
              | (go_at_call 33; (with_reducible refine (H13.out _).mono ?_); rintro e w213 ⟨rfl, hb213⟩; have ht13 : Below W7.heap.size W7 w213 := below_call hb213 ht12)
              | (go_at_call 23; (with_reducible refine (H14.out _ ht13).mono ?_); rintro e w214 ⟨rfl, hb214⟩; have ht14 : Below W7.heap.size W7 w214 := below_call hb214 ht13)
              | (go_at_call 14; (with_reducible refine (H1.out _ ht14).mono ?_); rintro e w215 ⟨fa215, la215, pa215, fc215, lc215, pc215, rfl, hr215, hb215⟩; have ht15 : Below W7.heap.size W7 w215 := below_call hb215 ht14)
              | (go_at_call 24; (with_reducible refine (H16.out _ _ _ _ _ _ _ _ hr215).mono ?_); rintro e w216 ⟨rfl, hb216⟩; have ht16 : Below W7.heap.size W7 w216 := below_call hb216 ht15)
              | (go_at_call 34; (with_reducible refine (H17.out _).mono ?_); rintro e w217 ⟨rfl, hb217⟩; have ht17 : Below W7.heap.size W7 w217 := below_call hb217 ht16)
              | (go_at_call 23; (with_reducible refine (H18.out _ ht17).mono ?_); rintro e w218 ⟨rfl, hb218⟩; have ht18 : Below W7.heap.size W7 w218 := below_call hb218 ht17))))
      | fail "region"
    try (rename_i hHH; clear hHH)
    have HFZ := Lib.hid (HFF.out _ ht18)
    clear ht1 hb201 ht2 hb202 ht3 hb203 ht4 hb204 ht5 hb205 ht6 hb206 ht7 hb207 ht8 hb208 ht9 hb209 ht10 hb210 ht11 hb211 ht12 hb212 ht13 hb213 ht14 hb214 ht15 hb215 ht16 hb216 ht17 hb217 ht18 hb218 H1 H2 H3 H4 H5 H6 H9 H10 H11 H12 H13 H14 H16 H17 H18 hd0 hd1 hr201 hr202 hr203 hr204 hr206 hr207 hr208 hr209 hr211 hr215
    go_wp2_with fail
    go_ret
    refine ⟨congrArg (fun z => Ending.returned (Value.bool z)) ?_, HFZ.out⟩
    rw [HE6.out]
    simp [strB_list]
  · have qk : (k2 == 2) = false := by simpa using hk2
    have HE6 : Hid (E4 = false) := by have := HE5.out; rw [qk, Bool.false_and] at this; exact this
    have qk2 : decide (k2 = 2) = false := decide_eq_false hk2
    clear HE5
    refine wp_region_noPanic ?_
    refine wp_region_held_drew (S := fun W => Below W7.heap.size W7 W ∧ W.cell? ⟨g, 0, none⟩ = some (.int .i64 k) ∧ W.cell? ⟨g, 1, none⟩ = some (.int .u64 (n : Int)) ∧ W.cell? ⟨g, 2, none⟩ = some (.string (strB t)) ∧ W.cell? ⟨g, 3, none⟩ = some (.slice fa fs.length fc) ∧ W.cell? ⟨g, 4, none⟩ = some (.string (strB r)) ∧ W.cell? ⟨g, 5, none⟩ = some (.slice la ls.length lc) ∧ W.cell? ⟨g, 6, none⟩ = some (.slice pa ps.length pc) ∧ W.cell? ⟨g + 1, 0, none⟩ = some (.int .i64 k2) ∧ W.cell? ⟨g + 1, 1, none⟩ = some (.int .u64 (n2 : Int)) ∧ W.cell? ⟨g + 1, 2, none⟩ = some (.string (strB t2)) ∧ W.cell? ⟨g + 1, 3, none⟩ = some (.slice fa2 fs2.length fc2) ∧ W.cell? ⟨g + 1, 4, none⟩ = some (.string (strB r2)) ∧ W.cell? ⟨g + 1, 5, none⟩ = some (.slice la2 ls2.length lc2) ∧ W.cell? ⟨g + 1, 6, none⟩ = some (.slice pa2 ps2.length pc2) ∧ W.cell? ⟨g + 1 + 1, 0, none⟩ = some (.int .i64 k3) ∧ W.cell? ⟨g + 1 + 1, 1, none⟩ = some (.int .u64 (n3 : Int)) ∧ W.cell? ⟨g + 1 + 1, 2, none⟩ = some (.string (strB t3)) ∧ W.cell? ⟨g + 1 + 1, 3, none⟩ = some (.slice fa3 fs3.length fc3) ∧ W.cell? ⟨g + 1 + 1, 4, none⟩ = some (.string (strB r3)) ∧ W.cell? ⟨g + 1 + 1, 5, none⟩ = some (.slice la3 ls3.length lc3) ∧ W.cell? ⟨g + 1 + 1, 6, none⟩ = some (.slice pa3 ps3.length pc3) ∧ W.cell? ⟨b7, 0, none⟩ = some (.int .i64 k) ∧ W.cell? ⟨b7, 1, none⟩ = some (.int .u64 (n : Int)) ∧ W.cell? ⟨b7, 2, none⟩ = some (.string (strB t)) ∧ W.cell? ⟨b7, 3, none⟩ = some (.slice fa7 fs.length fc7) ∧ W.cell? ⟨b7, 4, none⟩ = some (.string (strB r)) ∧ W.cell? ⟨b7, 5, none⟩ = some (.slice la7 ls.length lc7) ∧ W.cell? ⟨b7, 6, none⟩ = some (.slice pa7 ps.length pc7) ∧ W.cell? ⟨b8, 0, none⟩ = some (.int .i64 k6) ∧ W.cell? ⟨b8, 1, none⟩ = some (.int .u64 (n6 : Int)) ∧ W.cell? ⟨b8, 2, none⟩ = some (.string (strB t6)) ∧ W.cell? ⟨b8, 3, none⟩ = some (.slice fa6 fs6.length fc6) ∧ W.cell? ⟨b8, 4, none⟩ = some (.string (strB r6)) ∧ W.cell? ⟨b8, 5, none⟩ = some (.slice la6 ls6.length lc6) ∧ W.cell? ⟨b8, 6, none⟩ = some (.slice pa6 ps6.length pc6)) (by kernel_rfl) ?_ (fun hH0 => ?_)
    focus ((try dsimp only); exact HS7.out _ (by assumption))
    refine wpAnyH_take (i := 0) (oi := ⟨some 42, _, _, _, _, _⟩) (v := ?_) rfl (by kernel_rfl) (by kernel_rfl) (by kernel_rfl) (fun _ _ _ h => h) (Or.inl ⟨by rfl, ?_⟩) (by assumption) ?_
    rotate_left
    focus (intro wq hSq; (try dsimp only at hSq); go_simp; try (with_reducible rfl))
    try simp only [Act.put, List.setIfInBounds_toArray, List.set_cons_zero, List.set_cons_succ]
    refine wpAnyH_take (i := 2) (oi := ⟨some 44, _, _, _, _, _⟩) (v := ?_) rfl (by kernel_rfl) (by kernel_rfl) (by kernel_rfl) (fun _ _ _ h => h) (Or.inl ⟨by rfl, ?_⟩) (by assumption) ?_
    rotate_left
    focus (intro wq hSq; (try dsimp only at hSq); go_simp; try (with_reducible rfl))
    try simp only [Act.put, List.setIfInBounds_toArray, List.set_cons_zero, List.set_cons_succ]
    refine wpAnyH_take (i := 3) (oi := ⟨some 45, _, _, _, _, _⟩) (v := ?_) rfl (by kernel_rfl) (by kernel_rfl) (by kernel_rfl) (fun _ _ _ h => h) (Or.inl ⟨by rfl, ?_⟩) (by assumption) ?_
    rotate_left
    focus (intro wq hSq; (try dsimp only at hSq); go_simp; try (with_reducible rfl))
    try simp only [Act.put, List.setIfInBounds_toArray, List.set_cons_zero, List.set_cons_succ]
    refine wpAnyH_take (i := 5) (oi := ⟨some 47, _, _, _, _, _⟩) (v := ?_) rfl (by kernel_rfl) (by kernel_rfl) (by kernel_rfl) (fun _ _ _ h => h) (Or.inl ⟨by rfl, ?_⟩) (by assumption) ?_
    rotate_left
    focus (intro wq hSq; (try dsimp only at hSq); go_simp; try (with_reducible rfl))
    try simp only [Act.put, List.setIfInBounds_toArray, List.set_cons_zero, List.set_cons_succ]
    refine wpAnyH_ready (rs := [1]) (by kernel_rfl) (by simp) ?_
    refine AllReadyH.cons (o := _) rfl (fun K hK => ?_) ?_
    rotate_left
    focus (exact AllReadyH.nil)
    go_simp
    (go_at_call 14; (with_reducible refine (H1.out _ hd1).mono ?_); rintro e w201 ⟨fa201, la201, pa201, fc201, lc201, pc201, rfl, hr201, hb201⟩; have ht1 : Below W7.heap.size W7 w201 := below_call hb201 hd1)
    go_wp2_with fail
    refine hK.out _ _ ?_ (fun hH1 => ?_)
    focus ((try dsimp only); exact HS7.out _ (by assumption))
    clear hK K hH0
    try simp only [Act.put, List.setIfInBounds_toArray, List.set_cons_zero, List.set_cons_succ]
    refine wpAnyH_ready (rs := [4]) (by kernel_rfl) (by simp) ?_
    refine AllReadyH.cons (o := _) rfl (fun K hK => ?_) ?_
    rotate_left
    focus (exact AllReadyH.nil)
    go_simp
    (go_at_call 14; (with_reducible refine (H2.out _ ht1).mono ?_); rintro e w202 ⟨fa202, la202, pa202, fc202, lc202, pc202, rfl, hr202, hb202⟩; have ht2 : Below W7.heap.size W7 w202 := below_call hb202 ht1)
    go_wp2_with fail
    refine hK.out _ _ ?_ (fun hH2 => ?_)
    focus ((try dsimp only); exact HS7.out _ (by assumption))
    clear hK K hH1
    try simp only [Act.put, List.setIfInBounds_toArray, List.set_cons_zero, List.set_cons_succ]
    refine wpAnyH_ready (rs := [6]) (by kernel_rfl) (by simp) ?_
    refine AllReadyH.cons (o := _) rfl (fun K hK => ?_) ?_
    rotate_left
    focus (exact AllReadyH.nil)
    go_simp
    (go_at_call 14; (with_reducible refine (H3.out _ ht2).mono ?_); rintro e w203 ⟨fa203, la203, pa203, fc203, lc203, pc203, rfl, hr203, hb203⟩; have ht3 : Below W7.heap.size W7 w203 := below_call hb203 ht2)
    go_wp2_with fail
    refine hK.out _ _ ?_ (fun hH3 => ?_)
    focus ((try dsimp only); exact HS7.out _ (by assumption))
    clear hK K hH2
    try simp only [Act.put, List.setIfInBounds_toArray, List.set_cons_zero, List.set_cons_succ]
    refine wpAnyH_ready (rs := [7]) (by kernel_rfl) (by simp) ?_
    refine AllReadyH.cons (o := _) rfl (fun K hK => ?_) ?_
    rotate_left
    focus (exact AllReadyH.nil)
    go_simp
    (go_at_call 30; (with_reducible refine (H4.out _ _ _ _ _ _ _ _ _ _ _ _ _ (hr202.stays hb203) hr203 ht3).mono ?_); intro e w204 hv204; obtain ⟨fa204, la204, pa204, fc204, lc204, pc204, rfl, hr204, hb204⟩ := hv204.lit; have ht4 : Below W7.heap.size W7 w204 := below_call hb204 ht3)
    go_wp2_with fail
    refine hK.out _ _ ?_ (fun hH4 => ?_)
    focus ((try dsimp only); exact HS7.out _ (by assumption))
    clear hK K hH3
    try simp only [Act.put, List.setIfInBounds_toArray, List.set_cons_zero, List.set_cons_succ]
    refine wpAnyH_ready (rs := [8]) (by kernel_rfl) (by simp) ?_
    refine AllReadyH.cons (o := _) rfl (fun K hK => ?_) ?_
    rotate_left
    focus (exact AllReadyH.nil)
    go_simp
    (go_at_call 24; (with_reducible refine (H5.out _ _ _ _ _ _ _ _ _ _ _ _ _ _ _ (((hr201.stays hb202).stays hb203).stays hb204) hr204).mono ?_); rintro e w205 ⟨rfl, hb205⟩; have ht5 : Below W7.heap.size W7 w205 := below_call hb205 ht4)
    go_wp2_with fail
    refine hK.out _ _ ?_ (fun hH5 => ?_)
    focus ((try dsimp only); exact HS7.out _ (by assumption))
    clear hK K hH4
    try simp only [Act.put, List.setIfInBounds_toArray, List.set_cons_zero, List.set_cons_succ]
    refine wpAnyH_take (i := 9) (oi := ⟨some 51, _, _, _, _, _⟩) (v := ?_) rfl (by kernel_rfl) (by kernel_rfl) (by kernel_rfl) (fun _ _ _ h => h) (Or.inl ⟨by rfl, ?_⟩) (by assumption) ?_
    rotate_left
    focus (intro wq hSq; (try dsimp only at hSq); go_simp; try (with_reducible rfl))
    try simp only [Act.put, List.setIfInBounds_toArray, List.set_cons_zero, List.set_cons_succ]
    refine wpAnyH_take (i := 10) (oi := ⟨some 52, _, _, _, _, _⟩) (v := ?_) rfl (by kernel_rfl) (by kernel_rfl) (by kernel_rfl) (fun _ _ _ h => h) (Or.inl ⟨by rfl, ?_⟩) (by assumption) ?_
    rotate_left
    focus (intro wq hSq; (try dsimp only at hSq); go_simp; try (with_reducible rfl))
    try simp only [Act.put, List.setIfInBounds_toArray, List.set_cons_zero, List.set_cons_succ]
    refine wpAnyH_take (i := 11) (oi := ⟨some 53, _, _, _, _, _⟩) (v := ?_) rfl (by kernel_rfl) (by kernel_rfl) (by kernel_rfl) (fun _ _ _ h => h) (Or.inl ⟨by rfl, ?_⟩) (by assumption) ?_
    rotate_left
    focus (intro wq hSq; (try dsimp only at hSq); go_simp; try (with_reducible rfl))
    try simp only [Act.put, List.setIfInBounds_toArray, List.set_cons_zero, List.set_cons_succ]
    refine wpAnyH_take (i := 14) (oi := ⟨some 56, _, _, _, _, _⟩) (v := ?_) rfl (by kernel_rfl) (by kernel_rfl) (by kernel_rfl) (fun _ _ _ h => h) (Or.inl ⟨by rfl, ?_⟩) (by assumption) ?_
    rotate_left
    focus (intro wq hSq; (try dsimp only at hSq); go_simp; try (with_reducible rfl))
    try simp only [Act.put, List.setIfInBounds_toArray, List.set_cons_zero, List.set_cons_succ]
    refine wpAnyH_take (i := 15) (oi := ⟨some 57, _, _, _, _, _⟩) (v := ?_) rfl (by kernel_rfl) (by kernel_rfl) (by kernel_rfl) (fun _ _ _ h => h) (Or.inl ⟨by rfl, ?_⟩) (by assumption) ?_
    rotate_left
    focus (intro wq hSq; (try dsimp only at hSq); go_simp; try (with_reducible rfl))
    try simp only [Act.put, List.setIfInBounds_toArray, List.set_cons_zero, List.set_cons_succ]
    refine wpAnyH_ready (rs := [12]) (by kernel_rfl) (by simp) ?_
    refine AllReadyH.cons (o := _) rfl (fun K hK => ?_) ?_
    rotate_left
    focus (exact AllReadyH.nil)
    go_simp
    (go_at_call 31; (with_reducible refine (H6.out _ ht5).mono ?_); intro e w206 hv206; obtain ⟨fa206, la206, pa206, fc206, lc206, pc206, rfl, hr206, hb206⟩ := hv206.lit; have ht6 : Below W7.heap.size W7 w206 := below_call hb206 ht5)
    go_wp2_with fail
    refine hK.out _ _ ?_ (fun hH6 => ?_)
    focus ((try dsimp only); exact HS7.out _ (by assumption))
    clear hK K hH5
    try simp only [Act.put, List.setIfInBounds_toArray, List.set_cons_zero, List.set_cons_succ]
    refine wpAnyH_ready (rs := [13]) (by kernel_rfl) (by simp) ?_
    refine AllReadyH.cons (o := _) rfl (fun K hK => ?_) ?_
    rotate_left
    focus (exact AllReadyH.nil)
    go_simp
    (go_at_call 14; (with_reducible refine (HQY.out _ _ _ _ _ _ _ hr206).mono ?_); rintro e w207 ⟨fa207, la207, pa207, fc207, lc207, pc207, rfl, hr207, hb207⟩; have ht7 : Below W7.heap.size W7 w207 := below_call hb207 ht6)
    go_wp2_with fail
    refine hK.out _ _ ?_ (fun hH7 => ?_)
    focus ((try dsimp only); exact HS7.out _ (by assumption))
    clear hK K hH6
    try simp only [Act.put, List.setIfInBounds_toArray, List.set_cons_zero, List.set_cons_succ]
    refine wpAnyH_ready (rs := [16]) (by kernel_rfl) (by simp) ?_
    refine AllReadyH.cons (o := _) rfl (fun K hK => ?_) ?_
    rotate_left
    focus (exact AllReadyH.nil)
    go_simp
    (go_at_call 14; (with_reducible refine (H2.out _ ht7).mono ?_); rintro e w208 ⟨fa208, la208, pa208, fc208, lc208, pc208, rfl, hr208, hb208⟩; have ht8 : Below W7.heap.size W7 w208 := below_call hb208 ht7)
    go_wp2_with fail
    refine hK.out _ _ ?_ (fun hH8 => ?_)
    focus ((try dsimp only); exact HS7.out _ (by assumption))
    clear hK K hH7
    try simp only [Act.put, List.setIfInBounds_toArray, List.set_cons_zero, List.set_cons_succ]
    refine wpAnyH_ready (rs := [17]) (by kernel_rfl) (by simp) ?_
    refine AllReadyH.cons (o := _) rfl (fun K hK => ?_) ?_
    rotate_left
    focus (exact AllReadyH.nil)
    go_simp
    (go_at_call 32; (with_reducible refine (H9.out _ _ _ _ _ _ _ hr208 ht8).mono ?_); intro e w209 hv209; obtain ⟨fa209, la209, pa209, fc209, lc209, pc209, rfl, hr209, hb209⟩ := hv209.lit; have ht9 : Below W7.heap.size W7 w209 := below_call hb209 ht8)
    go_wp2_with fail
    refine hK.out _ _ ?_ (fun hH9 => ?_)
    focus ((try dsimp only); exact HS7.out _ (by assumption))
    clear hK K hH8
    try simp only [Act.put, List.setIfInBounds_toArray, List.set_cons_zero, List.set_cons_succ]
    refine wpAnyH_ready (rs := [18]) (by kernel_rfl) (by simp) ?_
    refine AllReadyH.cons (o := _) rfl (fun K hK => ?_) ?_
    rotate_left
    focus (exact AllReadyH.nil)
    go_simp
    (go_at_call 24; (with_reducible refine (H10.out _ _ _ _ _ _ _ _ _ _ _ _ _ _ _ ((hr207.stays hb208).stays hb209) hr209).mono ?_); rintro e w210 ⟨rfl, hb210⟩; have ht10 : Below W7.heap.size W7 w210 := below_call hb210 ht9)
    go_wp2_with fail
    refine hK.out _ _ ?_ (fun hH10 => ?_)
    focus ((try dsimp only); exact HS7.out _ (by assumption))
    clear hK K hH9
    try simp only [Act.put, List.setIfInBounds_toArray, List.set_cons_zero, List.set_cons_succ]
    refine wpAnyH_take (i := 19) (oi := ⟨some 61, _, _, _, _, _⟩) (v := ?_) rfl (by kernel_rfl) (by kernel_rfl) (by kernel_rfl) (fun _ _ _ h => h) (Or.inl ⟨by rfl, ?_⟩) (by assumption) ?_
    rotate_left
    focus (intro wq hSq; (try dsimp only at hSq); go_simp; try (with_reducible rfl))
    try simp only [Act.put, List.setIfInBounds_toArray, List.set_cons_zero, List.set_cons_succ]
    refine wpAnyH_take (i := 20) (oi := ⟨some 62, _, _, _, _, _⟩) (v := ?_) rfl (by kernel_rfl) (by kernel_rfl) (by kernel_rfl) (fun _ _ _ h => h) (Or.inl ⟨by rfl, ?_⟩) (by assumption) ?_
    rotate_left
    focus (intro wq hSq; (try dsimp only at hSq); go_simp; try (with_reducible rfl))
    try simp only [Act.put, List.setIfInBounds_toArray, List.set_cons_zero, List.set_cons_succ]
    refine wpAnyH_take (i := 21) (oi := ⟨some 63, _, _, _, _, _⟩) (v := ?_) rfl (by kernel_rfl) (by kernel_rfl) (by kernel_rfl) (fun _ _ _ h => h) (Or.inl ⟨by rfl, ?_⟩) (by assumption) ?_
    rotate_left
    focus (intro wq hSq; (try dsimp only at hSq); go_simp; try (with_reducible rfl))
    try simp only [Act.put, List.setIfInBounds_toArray, List.set_cons_zero, List.set_cons_succ]
    refine wpAnyH_take (i := 23) (oi := ⟨some 65, _, _, _, _, _⟩) (v := ?_) rfl (by kernel_rfl) (by kernel_rfl) (by kernel_rfl) (fun _ _ _ h => h) (Or.inl ⟨by rfl, ?_⟩) (by assumption) ?_
    rotate_left
    focus (intro wq hSq; (try dsimp only at hSq); go_simp; try (with_reducible rfl))
    try simp only [Act.put, List.setIfInBounds_toArray, List.set_cons_zero, List.set_cons_succ]
    refine wpAnyH_ready (rs := [22]) (by kernel_rfl) (by simp) ?_
    refine AllReadyH.cons (o := _) rfl (fun K hK => ?_) ?_
    rotate_left
    focus (exact AllReadyH.nil)
    go_simp
    (go_at_call 14; (with_reducible refine (H11.out _ ht10).mono ?_); rintro e w211 ⟨fa211, la211, pa211, fc211, lc211, pc211, rfl, hr211, hb211⟩; have ht11 : Below W7.heap.size W7 w211 := below_call hb211 ht10)
    go_wp2_with fail
    refine hK.out _ _ ?_ (fun hH11 => ?_)
    focus ((try dsimp only); exact HS7.out _ (by assumption))
    clear hK K hH10
    try simp only [Act.put, List.setIfInBounds_toArray, List.set_cons_zero, List.set_cons_succ]
    refine wpAnyH_ready (rs := [24]) (by kernel_rfl) (by simp) ?_
    refine AllReadyH.cons (o := _) rfl (fun K hK => ?_) ?_
    rotate_left
    focus (exact AllReadyH.nil)
    go_simp
    (go_at_call 24; (with_reducible refine (H12.out _ _ _ _ _ _ _ _ hr211 ht11).mono ?_); rintro e w212 ⟨rfl, hb212⟩; have ht12 : Below W7.heap.size W7 w212 := below_call hb212 ht11)
    go_wp2_with fail
    refine hK.out _ _ ?_ (fun hH12 => ?_)
    focus ((try dsimp only); exact HS7.out _ (by assumption))
    clear hK K hH11
    try simp only [Act.put, List.setIfInBounds_toArray, List.set_cons_zero, List.set_cons_succ]
    refine wpAnyH_take (i := 25) (oi := ⟨some 67, _, _, _, _, _⟩) (v := ?_) rfl (by kernel_rfl) (by kernel_rfl) (by kernel_rfl) (fun _ _ _ h => h) (Or.inl ⟨by rfl, ?_⟩) (by assumption) ?_
    rotate_left
    focus (intro wq hSq; (try dsimp only at hSq); go_simp; try (with_reducible rfl))
    try simp only [Act.put, List.setIfInBounds_toArray, List.set_cons_zero, List.set_cons_succ]
    refine wpAnyH_take (i := 26) (oi := ⟨some 68, _, _, _, _, _⟩) (v := ?_) rfl (by kernel_rfl) (by kernel_rfl) (by kernel_rfl) (fun _ _ _ h => h) (Or.inl ⟨by rfl, ?_⟩) (by assumption) ?_
    rotate_left
    focus (intro wq hSq; (try dsimp only at hSq); go_simp; try (with_reducible rfl))
    try simp only [Act.put, List.setIfInBounds_toArray, List.set_cons_zero, List.set_cons_succ]
    refine wpAnyH_take (i := 28) (oi := ⟨some 70, _, _, _, _, _⟩) (v := ?_) rfl (by kernel_rfl) (by kernel_rfl) (by kernel_rfl) (fun _ _ _ h => h) (Or.inl ⟨by rfl, ?_⟩) (by assumption) ?_
    rotate_left
    focus (intro wq hSq; (try dsimp only at hSq); go_simp; try (with_reducible rfl))
    try simp only [Act.put, List.setIfInBounds_toArray, List.set_cons_zero, List.set_cons_succ]
    refine wpAnyH_take (i := 30) (oi := ⟨some 72, _, _, _, _, _⟩) (v := ?_) rfl (by kernel_rfl) (by kernel_rfl) (by kernel_rfl) (fun _ _ _ h => h) (Or.inl ⟨by rfl, ?_⟩) (by assumption) ?_
    rotate_left
    focus (intro wq hSq; (try dsimp only at hSq); go_simp; try (with_reducible rfl))
    try simp only [Act.put, List.setIfInBounds_toArray, List.set_cons_zero, List.set_cons_succ]
    refine wpAnyH_take (i := 31) (oi := ⟨some 73, _, _, _, _, _⟩) (v := ?_) rfl (by kernel_rfl) (by kernel_rfl) (by kernel_rfl) (fun _ _ _ h => h) (Or.inl ⟨by rfl, ?_⟩) (by assumption) ?_
    rotate_left
    focus (intro wq hSq; (try dsimp only at hSq); go_simp; try (with_reducible rfl))
    try simp only [Act.put, List.setIfInBounds_toArray, List.set_cons_zero, List.set_cons_succ]
    refine wpAnyH_ready (rs := [27]) (by kernel_rfl) (by simp) ?_
    refine AllReadyH.cons (o := _) rfl (fun K hK => ?_) ?_
    rotate_left
    focus (exact AllReadyH.nil)
    go_simp
    (go_at_call 33; (with_reducible refine (H13.out _).mono ?_); rintro e w213 ⟨rfl, hb213⟩; have ht13 : Below W7.heap.size W7 w213 := below_call hb213 ht12)
    go_wp2_with fail
    refine hK.out _ _ ?_ (fun hH13 => ?_)
    focus ((try dsimp only); exact HS7.out _ (by assumption))
    clear hK K hH12
    try simp only [Act.put, List.setIfInBounds_toArray, List.set_cons_zero, List.set_cons_succ]
    refine wpAnyH_ready (rs := [29]) (by kernel_rfl) (by simp) ?_
    refine AllReadyH.cons (o := _) rfl (fun K hK => ?_) ?_
    rotate_left
    focus (exact AllReadyH.nil)
    go_simp
    (go_at_call 23; (with_reducible refine (H14.out _ ht13).mono ?_); rintro e w214 ⟨rfl, hb214⟩; have ht14 : Below W7.heap.size W7 w214 := below_call hb214 ht13)
    go_wp2_with fail
    refine hK.out _ _ ?_ (fun hH14 => ?_)
    focus ((try dsimp only); exact HS7.out _ (by assumption))
    clear hK K hH13
    try simp only [Act.put, List.setIfInBounds_toArray, List.set_cons_zero, List.set_cons_succ]
    refine wpAnyH_ready (rs := [32]) (by kernel_rfl) (by simp) ?_
    refine AllReadyH.cons (o := _) rfl (fun K hK => ?_) ?_
    rotate_left
    focus (exact AllReadyH.nil)
    go_simp
    (go_at_call 14; (with_reducible refine (H1.out _ ht14).mono ?_); rintro e w215 ⟨fa215, la215, pa215, fc215, lc215, pc215, rfl, hr215, hb215⟩; have ht15 : Below W7.heap.size W7 w215 := below_call hb215 ht14)
    go_wp2_with fail
    refine hK.out _ _ ?_ (fun hH15 => ?_)
    focus ((try dsimp only); exact HS7.out _ (by assumption))
    clear hK K hH14
    try simp only [Act.put, List.setIfInBounds_toArray, List.set_cons_zero, List.set_cons_succ]
    refine wpAnyH_ready (rs := [33]) (by kernel_rfl) (by simp) ?_
    refine AllReadyH.cons (o := _) rfl (fun K hK => ?_) ?_
    rotate_left
    focus (exact AllReadyH.nil)
    go_simp
    (go_at_call 24; (with_reducible refine (H16.out _ _ _ _ _ _ _ _ hr215).mono ?_); rintro e w216 ⟨rfl, hb216⟩; have ht16 : Below W7.heap.size W7 w216 := below_call hb216 ht15)
    go_wp2_with fail
    refine hK.out _ _ ?_ (fun hH16 => ?_)
    focus ((try dsimp only); exact HS7.out _ (by assumption))
    clear hK K hH15
    try simp only [Act.put, List.setIfInBounds_toArray, List.set_cons_zero, List.set_cons_succ]
    refine wpAnyH_take (i := 34) (oi := ⟨some 76, _, _, _, _, _⟩) (v := ?_) rfl (by kernel_rfl) (by kernel_rfl) (by kernel_rfl) (fun _ _ _ h => h) (Or.inl ⟨by rfl, ?_⟩) (by assumption) ?_
    rotate_left
    focus (intro wq hSq; (try dsimp only at hSq); go_simp; try (with_reducible rfl))
    try simp only [Act.put, List.setIfInBounds_toArray, List.set_cons_zero, List.set_cons_succ]
    refine wpAnyH_take (i := 35) (oi := ⟨some 77, _, _, _, _, _⟩) (v := ?_) rfl (by kernel_rfl) (by kernel_rfl) (by kernel_rfl) (fun _ _ _ h => h) (Or.inl ⟨by rfl, ?_⟩) (by assumption) ?_
    rotate_left
    focus (intro wq hSq; (try dsimp only at hSq); go_simp; try (with_reducible rfl))
    try simp only [Act.put, List.setIfInBounds_toArray, List.set_cons_zero, List.set_cons_succ]
    refine wpAnyH_take (i := 36) (oi := ⟨some 78, _, _, _, _, _⟩) (v := ?_) rfl (by kernel_rfl) (by kernel_rfl) (by kernel_rfl) (fun _ _ _ h => h) (Or.inl ⟨by rfl, ?_⟩) (by assumption) ?_
    rotate_left
    focus (intro wq hSq; (try dsimp only at hSq); go_simp; try (with_reducible rfl))
    try simp only [Act.put, List.setIfInBounds_toArray, List.set_cons_zero, List.set_cons_succ]
    refine wpAnyH_take (i := 38) (oi := ⟨some 80, _, _, _, _, _⟩) (v := ?_) rfl (by kernel_rfl) (by kernel_rfl) (by kernel_rfl) (fun _ _ _ h => h) (Or.inl ⟨by rfl, ?_⟩) (by assumption) ?_
    rotate_left
    focus (intro wq hSq; (try dsimp only at hSq); go_simp; try (with_reducible rfl))
    try simp only [Act.put, List.setIfInBounds_toArray, List.set_cons_zero, List.set_cons_succ]
    refine wpAnyH_take (i := 40) (oi := ⟨some 82, _, _, _, _, _⟩) (v := ?_) rfl (by kernel_rfl) (by kernel_rfl) (by kernel_rfl) (fun _ _ _ h => h) (Or.inl ⟨by rfl, ?_⟩) (by assumption) ?_
    rotate_left
    focus (intro wq hSq; (try dsimp only at hSq); go_simp; try (with_reducible rfl))
    try simp only [Act.put, List.setIfInBounds_toArray, List.set_cons_zero, List.set_cons_succ]
    refine wpAnyH_take (i := 41) (oi := ⟨some 83, _, _, _, _, _⟩) (v := ?_) rfl (by kernel_rfl) (by kernel_rfl) (by kernel_rfl) (fun _ _ _ h => h) (Or.inl ⟨by rfl, ?_⟩) (by assumption) ?_
    rotate_left
    focus (intro wq hSq; (try dsimp only at hSq); go_simp; try (with_reducible rfl))
    try simp only [Act.put, List.setIfInBounds_toArray, List.set_cons_zero, List.set_cons_succ]
    refine wpAnyH_take (i := 42) (oi := ⟨some 84, _, _, _, _, _⟩) (v := ?_) rfl (by kernel_rfl) (by kernel_rfl) (by kernel_rfl) (fun _ _ _ h => h) (Or.inl ⟨by rfl, ?_⟩) (by assumption) ?_
    rotate_left
    focus (intro wq hSq; (try dsimp only at hSq); go_simp; try (with_reducible rfl))
    try simp only [Act.put, List.setIfInBounds_toArray, List.set_cons_zero, List.set_cons_succ]
    refine wpAnyH_ready (rs := [37]) (by kernel_rfl) (by simp) ?_
    refine AllReadyH.cons (o := _) rfl (fun K hK => ?_) ?_
    rotate_left
    focus (exact AllReadyH.nil)
    go_simp
    (go_at_call 34; (with_reducible refine (H17.out _).mono ?_); rintro e w217 ⟨rfl, hb217⟩; have ht17 : Below W7.heap.size W7 w217 := below_call hb217 ht16)
    go_wp2_with fail
    refine hK.out _ _ ?_ (fun hH17 => ?_)
    focus ((try dsimp only); exact HS7.out _ (by assumption))
    clear hK K hH16
    try simp only [Act.put, List.setIfInBounds_toArray, List.set_cons_zero, List.set_cons_succ]
    refine wpAnyH_ready (rs := [39]) (by kernel_rfl) (by simp) ?_
    refine AllReadyH.cons (o := _) rfl (fun K hK => ?_) ?_
    rotate_left
    focus (exact AllReadyH.nil)
    go_simp
    (go_at_call 23; (with_reducible refine (H18.out _ ht17).mono ?_); rintro e w218 ⟨rfl, hb218⟩; have ht18 : Below W7.heap.size W7 w218 := below_call hb218 ht17)
    go_wp2_with fail
    refine hK.out _ _ ?_ (fun hH18 => ?_)
    focus ((try dsimp only); exact HS7.out _ (by assumption))
    clear hK K hH17
    try simp only [Act.put, List.setIfInBounds_toArray, List.set_cons_zero, List.set_cons_succ]
    refine wpAnyH_take (i := 43) (oi := ⟨some 85, _, _, _, _, _⟩) (v := ?_) rfl (by kernel_rfl) (by kernel_rfl) (by kernel_rfl) (fun _ _ _ h => h) (Or.inl ⟨by rfl, ?_⟩) (by assumption) ?_
    rotate_left
    focus (intro wq hSq; (try dsimp only at hSq); go_simp; try (with_reducible rfl))
    try simp only [Act.put, List.setIfInBounds_toArray, List.set_cons_zero, List.set_cons_succ]
    refine wpAnyH_ready (rs := [44]) (by kernel_rfl) (by simp) ?_
    refine AllReadyH.cons (o := _) rfl (fun K hK => ?_) ?_
    rotate_left
    focus (exact AllReadyH.nil)
    go_simp
    refine hK.out _ _ ?_ (fun hH19 => ?_)
    focus ((try dsimp only); exact HS7.out _ (by assumption))
    clear hK K hH18
    try simp only [Act.put, List.setIfInBounds_toArray, List.set_cons_zero, List.set_cons_succ]
    refine wpAnyH_ready (rs := [45]) (by kernel_rfl) (by simp) ?_
    refine AllReadyH.cons (o := _) rfl (fun K hK => ?_) ?_
    rotate_left
    focus (exact AllReadyH.nil)
    go_simp
    refine hK.out _ _ ?_ (fun hH20 => ?_)
    focus ((try dsimp only); exact HS7.out _ (by assumption))
    clear hK K hH19
    try simp only [Act.put, List.setIfInBounds_toArray, List.set_cons_zero, List.set_cons_succ]
    refine wpAnyH_ready (rs := [46]) (by kernel_rfl) (by simp) ?_
    refine AllReadyH.cons (o := _) rfl (fun K hK => ?_) ?_
    rotate_left
    focus (exact AllReadyH.nil)
    go_simp
    refine hK.out _ _ ?_ (fun hH21 => ?_)
    focus ((try dsimp only); exact HS7.out _ (by assumption))
    clear hK K hH20
    try simp only [Act.put, List.setIfInBounds_toArray, List.set_cons_zero, List.set_cons_succ]
    refine wpAnyH_take (i := 47) (oi := ⟨some 89, _, _, _, _, _⟩) (v := ?_) rfl (by kernel_rfl) (by kernel_rfl) (by kernel_rfl) (fun _ _ _ h => h) (Or.inl ⟨by rfl, ?_⟩) (by assumption) ?_
    rotate_left
    focus (intro wq hSq; (try dsimp only at hSq); go_simp; try (with_reducible rfl))
    try simp only [Act.put, List.setIfInBounds_toArray, List.set_cons_zero, List.set_cons_succ]
    refine wpAnyH_take (i := 48) (oi := ⟨some 90, _, _, _, _, _⟩) (v := ?_) rfl (by kernel_rfl) (by kernel_rfl) (by kernel_rfl) (fun _ _ _ h => h) (Or.inl ⟨by rfl, ?_⟩) (by assumption) ?_
    rotate_left
    focus (intro wq hSq; (try dsimp only at hSq); go_simp; try (with_reducible rfl))
    try simp only [Act.put, List.setIfInBounds_toArray, List.set_cons_zero, List.set_cons_succ]
    refine wpAnyH_take (i := 49) (oi := ⟨some 91, _, _, _, _, _⟩) (v := ?_) rfl (by kernel_rfl) (by kernel_rfl) (by kernel_rfl) (fun _ _ _ h => h) (Or.inl ⟨by rfl, ?_⟩) (by assumption) ?_
    rotate_left
    focus (intro wq hSq; (try dsimp only at hSq); go_simp; try (with_reducible rfl))
    try simp only [Act.put, List.setIfInBounds_toArray, List.set_cons_zero, List.set_cons_succ]
    refine wpAnyH_take (i := 50) (oi := ⟨some 6, _, _, _, _, _⟩) (v := ?_) rfl (by kernel_rfl) (by kernel_rfl) (by kernel_rfl) (fun _ _ _ h => h) (Or.inl ⟨by rfl, ?_⟩) (by assumption) ?_
    rotate_left
    focus (intro wq hSq; (try dsimp only at hSq); go_simp; try (with_reducible rfl))
    try simp only [Act.put, List.setIfInBounds_toArray, List.set_cons_zero, List.set_cons_succ]
    refine wpAnyH_done (by kernel_rfl) ?_ _
    refine NoPanic.normal ?_
    clear hH21
    have HFZ := Lib.hid (HFF.out _ ht18)
    clear ht1 hb201 ht2 hb202 ht3 hb203 ht4 hb204 ht5 hb205 ht6 hb206 ht7 hb207 ht8 hb208 ht9 hb209 ht10 hb210 ht11 hb211 ht12 hb212 ht13 hb213 ht14 hb214 ht15 hb215 ht16 hb216 ht17 hb217 ht18 hb218 H1 H2 H3 H4 H5 H6 H9 H10 H11 H12 H13 H14 H16 H17 H18 hd0 hd1 hr201 hr202 hr203 hr204 hr206 hr207 hr208 hr209 hr211 hr215
    go_wp2_with fail
    go_ret
    refine ⟨congrArg (fun z => Ending.returned (Value.bool z)) ?_, HFZ.out⟩
    rw [HE6.out]
    rfl
end Go.Proofs.Ytcnjlbbckdmifaa
