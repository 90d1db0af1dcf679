/- The walk of ValueOrder: the order is one; right values that are the same have one size and depth. -/
import Derived.Test.YtcnjlbbckdmifaaAlive13
import Derived.Test.YtcnjlbbckdmifaaOpenV
namespace Go.Proofs.Ytcnjlbbckdmifaa
open Go Go.RowKit
set_option linter.unusedVariables false
theorem box7 {w : World} {g : Nat} {T : TypeId} {k : Int} {n : Nat} {t r : List UInt8} {fs : List (Int × V)} {ls : List V} {ps : List (V × V)} {fa la pa : Option Addr} {fc lc pc : Nat} (h : CellsAt w g T #[.int .i64 k, .int .u64 (n : Int), .string (strB t), .slice fa fs.length fc, .string (strB r), .slice la ls.length lc, .slice pa ps.length pc]) :
    w.cell? ⟨g, 0, none⟩ = some (.int .i64 k) ∧ w.cell? ⟨g, 1, none⟩ = some (.int .u64 (n : Int)) ∧ w.cell? ⟨g, 2, none⟩ = some (.string (strB t)) ∧ w.cell? ⟨g, 3, none⟩ = some (.slice fa fs.length fc) ∧ w.cell? ⟨g, 4, none⟩ = some (.string (strB r)) ∧ w.cell? ⟨g, 5, none⟩ = some (.slice la ls.length lc) ∧ w.cell? ⟨g, 6, none⟩ = some (.slice pa ps.length pc) :=
  ⟨h.cell 0 rfl, h.cell 1 rfl, h.cell 2 rfl, h.cell 3 rfl, h.cell 4 rfl, h.cell 5 rfl, h.cell 6 rfl⟩
theorem orI_pm {a b : Int} (ha : -1 ≤ a ∧ a ≤ 1) (hb : -1 ≤ b ∧ b ≤ 1) : -1 ≤ orI a b ∧ orI a b ≤ 1 := by unfold orI; split <;> assumption
theorem sgnI_pm (a b : Int) : -1 ≤ sgnI a b ∧ sgnI a b ≤ 1 := by unfold sgnI; split <;> (try split) <;> omega
theorem cmpB_bd (a b : List UInt8) : -1 ≤ cmpB a b ∧ cmpB a b ≤ 1 := by rcases cmpB_pm a b with h | h | h <;> omega
mutual
theorem cmpV_pm : ∀ a b, -1 ≤ cmpV a b ∧ cmpV a b ≤ 1
  | .mk k n t fs r ls ps, .mk k' n' t' fs' r' ls' ps' => by
    simp only [cmpV]
    refine orI_pm (sgnI_pm _ _) ?_
    split
    · exact sgnI_pm _ _
    · split
      · exact cmpB_bd _ _
      · split
        · exact orI_pm (cmpF_pm fs fs') (cmpB_bd _ _)
        · split
          · exact cmpL_pm ls ls'
          · split
            · exact cmpP_pm ps ps'
            · omega
theorem cmpF_pm : ∀ a b, -1 ≤ cmpF a b ∧ cmpF a b ≤ 1
  | [], [] => by simp [cmpF]
  | [], (_, _) :: _ => by simp [cmpF]
  | (_, _) :: _, [] => by simp [cmpF]
  | (n, v) :: r, (n', v') :: r' => by simp only [cmpF]; exact orI_pm (orI_pm (sgnI_pm _ _) (cmpV_pm v v')) (cmpF_pm r r')
theorem cmpL_pm : ∀ a b, -1 ≤ cmpL a b ∧ cmpL a b ≤ 1
  | [], [] => by simp [cmpL]
  | [], _ :: _ => by simp [cmpL]
  | _ :: _, [] => by simp [cmpL]
  | v :: r, v' :: r' => by simp only [cmpL]; exact orI_pm (cmpV_pm v v') (cmpL_pm r r')
theorem cmpP_pm : ∀ a b, -1 ≤ cmpP a b ∧ cmpP a b ≤ 1
  | [], [] => by simp [cmpP]
  | [], (_, _) :: _ => by simp [cmpP]
  | (_, _) :: _, [] => by simp [cmpP]
  | (a, b) :: r, (a', b') :: r' => by simp only [cmpP]; exact orI_pm (orI_pm (cmpV_pm a a') (cmpV_pm b b')) (cmpP_pm r r')
end
theorem great_w {v : V} {m : Int} (hm : 0 ≤ m) (hm2 : m ≤ 1000) (h : ¬ greatV v m 30 < 0) : wV v ≤ 1000000 := by have := greatV_w v m 30 hm (by omega); have := greatV_bd v m 30 hm; omega
set_option maxRecDepth 100000 in
set_option maxHeartbeats 8000000 in
theorem walkValueOrder (w : World) (va : V) (aa : A3) (hra : Rep (fun _ => True) w va aa) (vb : V) (ab : A3) (hrb : Rep (fun _ => True) w vb ab) (vc : V) (ac : A3) (hrc : Rep (fun _ => True) w vc ac) :
    Calls Try.prog 4 #[vG (va, aa), vG (vb, ab), vG (vc, ac)] w fun e w' => e = .returned (.bool true) ∧ Below w.heap.size w w' := by
  obtain ⟨k, n, t, fs, r, ls, ps⟩ := va
  obtain ⟨fa, fc, la, lc, pa, pc⟩ := aa
  obtain ⟨k2, n2, t2, fs2, r2, ls2, ps2⟩ := vb
  obtain ⟨fa2, fc2, la2, lc2, pa2, pc2⟩ := ab
  obtain ⟨k3, n3, t3, fs3, r3, ls3, ps3⟩ := vc
  obtain ⟨fa3, fc3, la3, lc3, pa3, pc3⟩ := ac
  rw [vG_lit, vG_lit, vG_lit]
  obtain ⟨W0, hW0⟩ : ∃ W0, W0 = ((w.alloc (.cells #[.int .i64 k, .int .u64 (n : Int), .string (strB t), .slice fa fs.length fc, .string (strB r), .slice la ls.length lc, .slice pa ps.length pc] 27)).alloc (.cells #[.int .i64 k2, .int .u64 (n2 : Int), .string (strB t2), .slice fa2 fs2.length fc2, .string (strB r2), .slice la2 ls2.length lc2, .slice pa2 ps2.length pc2] 27)).alloc (.cells #[.int .i64 k3, .int .u64 (n3 : Int), .string (strB t3), .slice fa3 fs3.length fc3, .string (strB r3), .slice la3 ls3.length lc3, .slice pa3 ps3.length pc3] 27) := ⟨_, rfl⟩
  have HBA : Hid (Below w.heap.size w W0) := by rw [hW0]; exact (((Below.refl _ _).alloc (Nat.le_refl _) _).alloc (by simp) _).alloc (by simp; omega) _
  have hcx : CellsAt W0 w.heap.size 27 #[.int .i64 k, .int .u64 (n : Int), .string (strB t), .slice fa fs.length fc, .string (strB r), .slice la ls.length lc, .slice pa ps.length pc] := by rw [hW0]; exact (CellsAt.new w _ _).stays (((Below.refl _ _).alloc (Nat.le_refl _) _).alloc (by simp) _)
  have hcy : CellsAt W0 (w.heap.size + 1) 27 #[.int .i64 k2, .int .u64 (n2 : Int), .string (strB t2), .slice fa2 fs2.length fc2, .string (strB r2), .slice la2 ls2.length lc2, .slice pa2 ps2.length pc2] := by
    have := (CellsAt.new (w.alloc (.cells #[.int .i64 k, .int .u64 (n : Int), .string (strB t), .slice fa fs.length fc, .string (strB r), .slice la ls.length lc, .slice pa ps.length pc] 27)) #[.int .i64 k2, .int .u64 (n2 : Int), .string (strB t2), .slice fa2 fs2.length fc2, .string (strB r2), .slice la2 ls2.length lc2, .slice pa2 ps2.length pc2] 27).stays ((Below.refl _ _).alloc (Nat.le_refl _) (.cells #[.int .i64 k3, .int .u64 (n3 : Int), .string (strB t3), .slice fa3 fs3.length fc3, .string (strB r3), .slice la3 ls3.length lc3, .slice pa3 ps3.length pc3] 27))
    rw [show (w.alloc (.cells #[.int .i64 k, .int .u64 (n : Int), .string (strB t), .slice fa fs.length fc, .string (strB r), .slice la ls.length lc, .slice pa ps.length pc] 27)).heap.size = w.heap.size + 1 by simp] at this
    rw [hW0]; exact this
  have hcz : CellsAt W0 (w.heap.size + 1 + 1) 27 #[.int .i64 k3, .int .u64 (n3 : Int), .string (strB t3), .slice fa3 fs3.length fc3, .string (strB r3), .slice la3 ls3.length lc3, .slice pa3 ps3.length pc3] := by
    have := CellsAt.new ((w.alloc (.cells #[.int .i64 k, .int .u64 (n : Int), .string (strB t), .slice fa fs.length fc, .string (strB r), .slice la ls.length lc, .slice pa ps.length pc] 27)).alloc (.cells #[.int .i64 k2, .int .u64 (n2 : Int), .string (strB t2), .slice fa2 fs2.length fc2, .string (strB r2), .slice la2 ls2.length lc2, .slice pa2 ps2.length pc2] 27)) #[.int .i64 k3, .int .u64 (n3 : Int), .string (strB t3), .slice fa3 fs3.length fc3, .string (strB r3), .slice la3 ls3.length lc3, .slice pa3 ps3.length pc3] 27
    rw [show ((w.alloc (.cells #[.int .i64 k, .int .u64 (n : Int), .string (strB t), .slice fa fs.length fc, .string (strB r), .slice la ls.length lc, .slice pa ps.length pc] 27)).alloc (.cells #[.int .i64 k2, .int .u64 (n2 : Int), .string (strB t2), .slice fa2 fs2.length fc2, .string (strB r2), .slice la2 ls2.length lc2, .slice pa2 ps2.length pc2] 27)).heap.size = w.heap.size + 1 + 1 by simp] at this
    rw [hW0]; exact this
  obtain ⟨g, hg⟩ : ∃ g, g = w.heap.size := ⟨_, rfl⟩
  rw [← hg] at hcx hcy hcz
  have HG := Lib.hid hg
  have HX : Hid (∀ W, Below W0.heap.size W0 W → CellsAt W g 27 #[.int .i64 k, .int .u64 (n : Int), .string (strB t), .slice fa fs.length fc, .string (strB r), .slice la ls.length lc, .slice pa ps.length pc]) := fun W hb => hcx.stays hb
  have HY : Hid (∀ W, Below W0.heap.size W0 W → CellsAt W (g + 1) 27 #[.int .i64 k2, .int .u64 (n2 : Int), .string (strB t2), .slice fa2 fs2.length fc2, .string (strB r2), .slice la2 ls2.length lc2, .slice pa2 ps2.length pc2]) := fun W hb => hcy.stays hb
  have HZ : Hid (∀ W, Below W0.heap.size W0 W → CellsAt W (g + 1 + 1) 27 #[.int .i64 k3, .int .u64 (n3 : Int), .string (strB t3), .slice fa3 fs3.length fc3, .string (strB r3), .slice la3 ls3.length lc3, .slice pa3 ps3.length pc3]) := fun W hb => hcz.stays hb
  have HA : Hid (∀ W, Below W0.heap.size W0 W → Rep (fun _ => True) W (.mk k n t fs r ls ps) ⟨fa, fc, la, lc, pa, pc⟩) := fun W hb => hra.stays (HBA.out.trans (hb.mono HBA.out.size))
  have HB : Hid (∀ W, Below W0.heap.size W0 W → Rep (fun _ => True) W (.mk k2 n2 t2 fs2 r2 ls2 ps2) ⟨fa2, fc2, la2, lc2, pa2, pc2⟩) := fun W hb => hrb.stays (HBA.out.trans (hb.mono HBA.out.size))
  have HC : Hid (∀ W, Below W0.heap.size W0 W → Rep (fun _ => True) W (.mk k3 n3 t3 fs3 r3 ls3 ps3) ⟨fa3, fc3, la3, lc3, pa3, pc3⟩) := fun W hb => hrc.stays (HBA.out.trans (hb.mono HBA.out.size))
  have HF : Hid (∀ W, Below W0.heap.size W0 W → Below w.heap.size w W) := fun W hb => HBA.out.trans (hb.mono HBA.out.size)
  have HW := Lib.hid hW0
  clear hra hrb hrc hcx hcy hcz hW0 hg HBA
  go_enter Try.func4, Try.ntmps4
  go_wp2_with fail
  have hW0 := HW.out
  have hg := HG.out
  rw [← hW0, ← hg]
  clear hW0 hg HW HG
  refine (alive13 _).mono ?_
  rintro e w1 ⟨rfl, hb1⟩
  obtain ⟨x0, x1, x2, x3, x4, x5, x6⟩ := box7 (HX.out w1 hb1)
  go_wp2_with fail
  refine (Great_any (by omega) (by omega) (HA.out w1 hb1)).mono ?_
  rintro e w2 ⟨rfl, hb2⟩
  replace hb2 := hb1.trans (hb2.mono hb1.size)
  clear hb1 x0 x1 x2 x3 x4 x5 x6
  by_cases hga : greatV (.mk k n t fs r ls ps) 100 30 < 0
  · have HF2 := Lib.hid (HF.out w2 hb2)
    go_wp2_with fail
    go_ret
    exact ⟨rfl, HF2.out⟩
  · have HWA := Lib.hid (great_w (by omega) (by omega) hga)
    have e1 : decide (greatV (.mk k n t fs r ls ps) 100 30 < 0) = false := decide_eq_false hga
    generalize decide (greatV (.mk k n t fs r ls ps) 100 30 < 0) = b1 at e1 ⊢
    subst e1
    obtain ⟨x0, x1, x2, x3, x4, x5, x6⟩ := box7 (HY.out w2 hb2)
    clear hga
    go_wp2_with fail
    refine (Great_any (by omega) (by omega) (HB.out w2 hb2)).mono ?_
    rintro e w3 ⟨rfl, hb3⟩
    replace hb3 := hb2.trans (hb3.mono hb2.size)
    clear hb2 x0 x1 x2 x3 x4 x5 x6
    by_cases hgb : greatV (.mk k2 n2 t2 fs2 r2 ls2 ps2) 100 30 < 0
    · have HF2 := Lib.hid (HF.out w3 hb3)
      go_wp2_with fail
      go_ret
      exact ⟨rfl, HF2.out⟩
    · have HWB := Lib.hid (great_w (by omega) (by omega) hgb)
      have e1 : decide (greatV (.mk k2 n2 t2 fs2 r2 ls2 ps2) 100 30 < 0) = false := decide_eq_false hgb
      generalize decide (greatV (.mk k2 n2 t2 fs2 r2 ls2 ps2) 100 30 < 0) = b1 at e1 ⊢
      subst e1
      obtain ⟨x0, x1, x2, x3, x4, x5, x6⟩ := box7 (HZ.out w3 hb3)
      clear hgb
      go_wp2_with fail
      refine (Great_any (by omega) (by omega) (HC.out w3 hb3)).mono ?_
      rintro e w4 ⟨rfl, hb4⟩
      replace hb4 := hb3.trans (hb4.mono hb3.size)
      clear hb3 x0 x1 x2 x3 x4 x5 x6
      by_cases hgc : greatV (.mk k3 n3 t3 fs3 r3 ls3 ps3) 100 30 < 0
      · have HF2 := Lib.hid (HF.out w4 hb4)
        go_wp2_with fail
        go_ret
        exact ⟨rfl, HF2.out⟩
      · have e1 : decide (greatV (.mk k3 n3 t3 fs3 r3 ls3 ps3) 100 30 < 0) = false := decide_eq_false hgc
        generalize decide (greatV (.mk k3 n3 t3 fs3 r3 ls3 ps3) 100 30 < 0) = b1 at e1 ⊢
        subst e1
        clear hgc
        go_wp2_with fail
        have HS : Hid (∀ W, Below W0.heap.size W0 W → Below W0.heap.size W0 W ∧ W.cell? ⟨g, 0, none⟩ = some (.int .i64 k) ∧ W.cell? ⟨g, 1, none⟩ = some (.int .u64 (n : Int)) ∧ W.cell? ⟨g, 2, none⟩ = some (.string (strB t)) ∧ W.cell? ⟨g, 3, none⟩ = some (.slice fa fs.length fc) ∧ W.cell? ⟨g, 4, none⟩ = some (.string (strB r)) ∧ W.cell? ⟨g, 5, none⟩ = some (.slice la ls.length lc) ∧ W.cell? ⟨g, 6, none⟩ = some (.slice pa ps.length pc) ∧ W.cell? ⟨g + 1, 0, none⟩ = some (.int .i64 k2) ∧ W.cell? ⟨g + 1, 1, none⟩ = some (.int .u64 (n2 : Int)) ∧ W.cell? ⟨g + 1, 2, none⟩ = some (.string (strB t2)) ∧ W.cell? ⟨g + 1, 3, none⟩ = some (.slice fa2 fs2.length fc2) ∧ W.cell? ⟨g + 1, 4, none⟩ = some (.string (strB r2)) ∧ W.cell? ⟨g + 1, 5, none⟩ = some (.slice la2 ls2.length lc2) ∧ W.cell? ⟨g + 1, 6, none⟩ = some (.slice pa2 ps2.length pc2) ∧ W.cell? ⟨g + 1 + 1, 0, none⟩ = some (.int .i64 k3) ∧ W.cell? ⟨g + 1 + 1, 1, none⟩ = some (.int .u64 (n3 : Int)) ∧ W.cell? ⟨g + 1 + 1, 2, none⟩ = some (.string (strB t3)) ∧ W.cell? ⟨g + 1 + 1, 3, none⟩ = some (.slice fa3 fs3.length fc3) ∧ W.cell? ⟨g + 1 + 1, 4, none⟩ = some (.string (strB r3)) ∧ W.cell? ⟨g + 1 + 1, 5, none⟩ = some (.slice la3 ls3.length lc3) ∧ W.cell? ⟨g + 1 + 1, 6, none⟩ = some (.slice pa3 ps3.length pc3)) := fun W hb => by
          obtain ⟨a0, a1, a2, a3, a4, a5, a6⟩ := box7 (HX.out W hb)
          obtain ⟨b0, b1, b2, b3, b4, b5, b6⟩ := box7 (HY.out W hb)
          obtain ⟨c0, c1, c2, c3, c4, c5, c6⟩ := box7 (HZ.out W hb)
          exact ⟨hb, a0, a1, a2, a3, a4, a5, a6, b0, b1, b2, b3, b4, b5, b6, c0, c1, c2, c3, c4, c5, c6⟩
        have HC1 : Hid (∀ W, Below W0.heap.size W0 W → Calls _ _ _ W _) := fun W hb => compare_lit (HA.out W hb) (HB.out W hb)
        have HC2 : Hid (∀ W, Below W0.heap.size W0 W → Calls _ _ _ W _) := fun W hb => compare_lit (HB.out W hb) (HC.out W hb)
        have HC3 : Hid (∀ W, Below W0.heap.size W0 W → Calls _ _ _ W _) := fun W hb => compare_lit (HA.out W hb) (HC.out W hb)
        have HC4 : Hid (∀ W, Below W0.heap.size W0 W → Calls _ _ _ W _) := fun W hb => compare_lit (HB.out W hb) (HA.out W hb)
        have HC5 : Hid (∀ W, Below W0.heap.size W0 W → Calls _ _ _ W _) := fun W hb => compare_lit (HA.out W hb) (HA.out W hb)
        have ht := T3.val (.mk k n t fs r ls ps) (.mk k2 n2 t2 fs2 r2 ls2 ps2) (.mk k3 n3 t3 fs3 r3 ls3 ps3)
        have hx := cmpV_pm (.mk k n t fs r ls ps) (.mk k2 n2 t2 fs2 r2 ls2 ps2)
        have hEQ := right_eq (.mk k n t fs r ls ps) (.mk k2 n2 t2 fs2 r2 ls2 ps2)
        rw [cmpV_swap (.mk k n t fs r ls ps) (.mk k2 n2 t2 fs2 r2 ls2 ps2)] at HC4
        rw [cmpV_self] at HC5
        generalize cmpV (.mk k n t fs r ls ps) (.mk k2 n2 t2 fs2 r2 ls2 ps2) = X at HC1 HC4 ht hx hEQ
        generalize cmpV (.mk k2 n2 t2 fs2 r2 ls2 ps2) (.mk k3 n3 t3 fs3 r3 ls3 ps3) = Y at HC2 ht
        generalize cmpV (.mk k n t fs r ls ps) (.mk k3 n3 t3 fs3 r3 ls3 ps3) = Z at HC3 ht
        have HEQ := Lib.hid hEQ
        have HT := Lib.hid ht
        have hd0 : Below W0.heap.size W0 w4.drew := hb4.drew
        clear ht hEQ hb4
        go_region_held3 (fun W => Below W0.heap.size W0 W ∧ W.cell? ⟨g, 0, none⟩ = some (.int .i64 k) ∧ W.cell? ⟨g, 1, none⟩ = some (.int .u64 (n : Int)) ∧ W.cell? ⟨g, 2, none⟩ = some (.string (strB t)) ∧ W.cell? ⟨g, 3, none⟩ = some (.slice fa fs.length fc) ∧ W.cell? ⟨g, 4, none⟩ = some (.string (strB r)) ∧ W.cell? ⟨g, 5, none⟩ = some (.slice la ls.length lc) ∧ W.cell? ⟨g, 6, none⟩ = some (.slice pa ps.length pc) ∧ W.cell? ⟨g + 1, 0, none⟩ = some (.int .i64 k2) ∧ W.cell? ⟨g + 1, 1, none⟩ = some (.int .u64 (n2 : Int)) ∧ W.cell? ⟨g + 1, 2, none⟩ = some (.string (strB t2)) ∧ W.cell? ⟨g + 1, 3, none⟩ = some (.slice fa2 fs2.length fc2) ∧ W.cell? ⟨g + 1, 4, none⟩ = some (.string (strB r2)) ∧ W.cell? ⟨g + 1, 5, none⟩ = some (.slice la2 ls2.length lc2) ∧ W.cell? ⟨g + 1, 6, none⟩ = some (.slice pa2 ps2.length pc2) ∧ W.cell? ⟨g + 1 + 1, 0, none⟩ = some (.int .i64 k3) ∧ W.cell? ⟨g + 1 + 1, 1, none⟩ = some (.int .u64 (n3 : Int)) ∧ W.cell? ⟨g + 1 + 1, 2, none⟩ = some (.string (strB t3)) ∧ W.cell? ⟨g + 1 + 1, 3, none⟩ = some (.slice fa3 fs3.length fc3) ∧ W.cell? ⟨g + 1 + 1, 4, none⟩ = some (.string (strB r3)) ∧ W.cell? ⟨g + 1 + 1, 5, none⟩ = some (.slice la3 ls3.length lc3) ∧ W.cell? ⟨g + 1 + 1, 6, none⟩ = some (.slice pa3 ps3.length pc3))
          (exact HS.out _ (by assumption))
          ((first
            | (go_at_call 21; (with_reducible refine (HC1.out _ (by assumption)).mono ?_); rintro e w5 ⟨rfl, hb5⟩; have hb6 := hd0.trans (hb5.mono hd0.size))
            | (go_at_call 21; (with_reducible refine (HC2.out _ (by assumption)).mono ?_); rintro e w6 ⟨rfl, hb7⟩; have hb8 := hb6.trans (hb7.mono hb6.size))
            | (go_at_call 21; (with_reducible refine (HC3.out _ (by assumption)).mono ?_); rintro e w7 ⟨rfl, hb9⟩; have hb10 := hb8.trans (hb9.mono hb8.size))))
        clear hb5 hb6 hb7 hb8 hb9 hd0 HC1 HC2 HC3
        obtain ⟨-, a0, a1, a2, a3, a4, a5, a6, b0, b1, b2, b3, b4, b5, b6, -⟩ := HS.out w7 hb10
        have HB10 := Lib.hid hb10
        clear hb10
        go_wp2_with fail
        refine (HC4.out _ HB10.out).mono ?_
        rintro e w8 ⟨rfl, hb11⟩
        have HB11 := Lib.hid (HB10.out.trans (hb11.mono HB10.out.size))
        clear hb11 HB10 a0 a1 a2 a3 a4 a5 a6 b0 b1 b2 b3 b4 b5 b6 HC4
        obtain ⟨-, a0, a1, a2, a3, a4, a5, a6, b0, b1, b2, b3, b4, b5, b6, -⟩ := HS.out w8 HB11.out
        have q1 : (X != - -X) = false := by rw [Int.neg_neg]; simp
        have q2 : (X != X) = false := by simp
        go_wp2_with fail
        refine (HC5.out _ HB11.out).mono ?_
        rintro e w9 ⟨rfl, hb12⟩
        have HB12 := Lib.hid (HB11.out.trans (hb12.mono HB11.out.size))
        have HFF := Lib.hid (HF.out w9 HB12.out)
        clear hb12 HB11 a0 a1 a2 a3 a4 a5 a6 b0 b1 b2 b3 b4 b5 b6 HC5 q1 q2
        obtain rfl | rfl | rfl : X = -1 ∨ X = 0 ∨ X = 1 := by omega
        · by_cases hY : Y ≤ 0
          · have hZ : Z < 0 := HT.out.2.1 (by omega) hY
            go_wp2_with fail
            go_ret
            exact ⟨rfl, HFF.out⟩
          · go_wp2_with fail
            go_ret
            exact ⟨rfl, HFF.out⟩
        · have hYZ : Y ≤ 0 → Z ≤ 0 := HT.out.1 (by omega)
          have HD : (¬ Y ≤ 0) ∨ (Y ≤ 0 ∧ ¬ 0 < Z) := by omega
          clear hYZ
          obtain ⟨-, a0, a1, a2, a3, a4, a5, a6, b0, b1, b2, b3, b4, b5, b6, -⟩ := HS.out w9 HB12.out
          have HR1 : Hid (∀ W, Below W0.heap.size W0 W → Calls _ _ _ W _) := fun W hb => right_lit (HA.out W hb)
          have HR2 : Hid (∀ W, Below W0.heap.size W0 W → Calls _ _ _ W _) := fun W hb => right_lit (HB.out W hb)
          have HZ1 : Hid (∀ W, Below W0.heap.size W0 W → Calls _ _ _ W _) := fun W hb => size_lit (HA.out W hb) HWA.out
          have HZ2 : Hid (∀ W, Below W0.heap.size W0 W → Calls _ _ _ W _) := fun W hb => size_lit (HB.out W hb) HWB.out
          have HD1 : Hid (∀ W, Below W0.heap.size W0 W → Calls _ _ _ W _) := fun W hb => depth_lit (HA.out W hb) HWA.out
          have HD2 : Hid (∀ W, Below W0.heap.size W0 W → Calls _ _ _ W _) := fun W hb => depth_lit (HB.out W hb) HWB.out
          have hsz : rightV (.mk k n t fs r ls ps) = true → rightV (.mk k2 n2 t2 fs2 r2 ls2 ps2) = true → sizeV (.mk k2 n2 t2 fs2 r2 ls2 ps2) = sizeV (.mk k n t fs r ls ps) ∧ depthV (.mk k2 n2 t2 fs2 r2 ls2 ps2) = depthV (.mk k n t fs r ls ps) := fun h1 h2 => by
            have := HEQ.out h1 h2 rfl
            rw [this]; exact ⟨rfl, rfl⟩
          generalize rightV (.mk k n t fs r ls ps) = R1 at HR1 hsz
          generalize rightV (.mk k2 n2 t2 fs2 r2 ls2 ps2) = R2 at HR2 hsz
          generalize sizeV (.mk k n t fs r ls ps) = S1 at HZ1 hsz
          generalize sizeV (.mk k2 n2 t2 fs2 r2 ls2 ps2) = S2 at HZ2 hsz
          generalize depthV (.mk k n t fs r ls ps) = D1 at HD1 hsz
          generalize depthV (.mk k2 n2 t2 fs2 r2 ls2 ps2) = D2 at HD2 hsz
          have HSZ := Lib.hid hsz
          clear hsz HEQ HT
          rcases HD with hY | ⟨hY, hZ⟩
          all_goals
            go_wp2_with fail
            refine (HR1.out _ HB12.out).mono ?_
            rintro e w10 ⟨rfl, hb13⟩
            have HB13 := Lib.hid (HB12.out.trans (hb13.mono HB12.out.size))
            have HFG := Lib.hid (HF.out w10 HB13.out)
            clear hb13 a0 a1 a2 a3 a4 a5 a6 b0 b1 b2 b3 b4 b5 b6 HR1
            obtain ⟨-, a0, a1, a2, a3, a4, a5, a6, b0, b1, b2, b3, b4, b5, b6, -⟩ := HS.out w10 HB13.out
            cases R1 with
            | false =>
              go_wp2_with fail
              go_ret
              exact ⟨rfl, HFG.out⟩
            | true =>
              go_wp2_with fail
              refine (HR2.out _ HB13.out).mono ?_
              rintro e w11 ⟨rfl, hb14⟩
              have HB14 := Lib.hid (HB13.out.trans (hb14.mono HB13.out.size))
              have HFH := Lib.hid (HF.out w11 HB14.out)
              clear hb14 a0 a1 a2 a3 a4 a5 a6 b0 b1 b2 b3 b4 b5 b6 HR2 HB13
              cases R2 with
              | false =>
                go_wp2_with fail
                go_ret
                exact ⟨rfl, HFH.out⟩
              | true =>
                obtain ⟨rfl, rfl⟩ := HSZ.out (by trivial) (by trivial)
                go_wp2_with fail
                have hd0 : Below W0.heap.size W0 w11.drew := HB14.out.drew
                have hd1 : Below W0.heap.size W0 w11 := HB14.out
                have r1 : ((S2 : Int) == S2) = true := by simp
                go_region_held3 (fun W => Below W0.heap.size W0 W ∧ W.cell? ⟨g, 0, none⟩ = some (.int .i64 k) ∧ W.cell? ⟨g, 1, none⟩ = some (.int .u64 (n : Int)) ∧ W.cell? ⟨g, 2, none⟩ = some (.string (strB t)) ∧ W.cell? ⟨g, 3, none⟩ = some (.slice fa fs.length fc) ∧ W.cell? ⟨g, 4, none⟩ = some (.string (strB r)) ∧ W.cell? ⟨g, 5, none⟩ = some (.slice la ls.length lc) ∧ W.cell? ⟨g, 6, none⟩ = some (.slice pa ps.length pc) ∧ W.cell? ⟨g + 1, 0, none⟩ = some (.int .i64 k2) ∧ W.cell? ⟨g + 1, 1, none⟩ = some (.int .u64 (n2 : Int)) ∧ W.cell? ⟨g + 1, 2, none⟩ = some (.string (strB t2)) ∧ W.cell? ⟨g + 1, 3, none⟩ = some (.slice fa2 fs2.length fc2) ∧ W.cell? ⟨g + 1, 4, none⟩ = some (.string (strB r2)) ∧ W.cell? ⟨g + 1, 5, none⟩ = some (.slice la2 ls2.length lc2) ∧ W.cell? ⟨g + 1, 6, none⟩ = some (.slice pa2 ps2.length pc2) ∧ W.cell? ⟨g + 1 + 1, 0, none⟩ = some (.int .i64 k3) ∧ W.cell? ⟨g + 1 + 1, 1, none⟩ = some (.int .u64 (n3 : Int)) ∧ W.cell? ⟨g + 1 + 1, 2, none⟩ = some (.string (strB t3)) ∧ W.cell? ⟨g + 1 + 1, 3, none⟩ = some (.slice fa3 fs3.length fc3) ∧ W.cell? ⟨g + 1 + 1, 4, none⟩ = some (.string (strB r3)) ∧ W.cell? ⟨g + 1 + 1, 5, none⟩ = some (.slice la3 ls3.length lc3) ∧ W.cell? ⟨g + 1 + 1, 6, none⟩ = some (.slice pa3 ps3.length pc3))
                  (exact HS.out _ (by assumption))
                  ((first
                    | (go_at_call 17; (with_reducible refine (HZ1.out _ (by assumption)).mono ?_); rintro e w5 ⟨rfl, hb5⟩; have hb6 := hd0.trans (hb5.mono hd0.size))
                    | (go_at_call 17; (with_reducible refine (HZ2.out _ (by assumption)).mono ?_); rintro e w6 ⟨rfl, hb7⟩; have hb8 := hb6.trans (hb7.mono hb6.size))
                    | (go_at_call 19; (with_reducible refine (HD1.out _ (by assumption)).mono ?_); rintro e w7 ⟨rfl, hb9⟩; have hb10 := hb8.trans (hb9.mono hb8.size))
                    | (go_at_call 19; (with_reducible refine (HD2.out _ (by assumption)).mono ?_); rintro e w8 ⟨rfl, hb11⟩; have hb12 := hb10.trans (hb11.mono hb10.size))))
                have HFJ := Lib.hid (HF.out w8 hb12)
                clear hb5 hb6 hb7 hb8 hb9 hb10 hb11 hb12 hd0 hd1
                go_wp2_with fail
                go_ret
                exact ⟨rfl, HFJ.out⟩
        · go_wp2_with fail
          go_ret
          exact ⟨rfl, HFF.out⟩
end Go.Proofs.Ytcnjlbbckdmifaa
