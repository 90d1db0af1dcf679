/- The document's Choose, walked. -/
import Derived.Test.YtgehbabcpmkgaaaDoorDsA
import Derived.Deep.CutBlock
import Derived.Deep.DeepCutAuto
namespace Go.Proofs.YtgehbabcpmkgaaaDoor
open Go Go.RowKit
set_option linter.unusedVariables false
theorem supK_pos {bs : List UInt8} (h : supK bs = 0) : 1 ≤ supB bs 4 := by
  rw [supB_ok h]
  unfold supK at h
  split at h
  · cases h
  · split at h
    · cases h
    · split at h
      · rename_i hh
        obtain ⟨r1, r2, -⟩ := blkR_true hh.2
        omega
      · cases h
theorem Rd2.cell0 {w : World} {B h N : Nat} {d : Dm} (r : Rd2 w B h N d) : w.cell? ⟨h, 0, none⟩ = some (.int .i64 d.dur.length) := by
  obtain ⟨m, vd, vw, k, sim, h64⟩ := r
  have := k.cells.cell 0 (v := .int .i64 m.size) rfl
  rw [sim.size] at this
  exact this
theorem supB_zero {bs : List UInt8} {k : Nat} (h : supK bs ≠ 0) : supB bs k = 0 := supB_bad h
section
variable {d : Dm}
theorem best_00 (h0 : supK (getV d 0) ≠ 0) (h1 : supK (getV d 1) ≠ 0) : bestN d 2 = none := by
  have b1 : bestN d 1 = none := bestN_no (k := 0) (fun h => h0 h.1)
  rw [← b1]; exact bestN_no (k := 1) (fun h => h1 h.1)
theorem best_1 (h0 : supK (getV d 0) ≠ 0) (h1 : supK (getV d 1) = 0) : bestN d 2 = some 1 := by
  have b1 : bestN d 1 = none := bestN_no (k := 0) (fun h => h0 h.1)
  exact bestN_yes (k := 1) h1 (by rw [b1]; exact supK_pos h1)
theorem best_first (h0 : supK (getV d 0) = 0) : bestN d 1 = some 0 := bestN_yes (k := 0) h0 (supK_pos h0)
theorem best_0 (h0 : supK (getV d 0) = 0) (h1 : supK (getV d 1) ≠ 0) : bestN d 2 = some 0 := by
  rw [← best_first h0]; exact bestN_no (k := 1) (fun h => h1 h.1)
theorem best_both (h0 : supK (getV d 0) = 0) (h1 : supK (getV d 1) = 0) (hg : supB (getV d 0) 4 < supB (getV d 1) 4) : bestN d 2 = some 1 :=
  bestN_yes (k := 1) h1 (by rw [best_first h0]; exact hg)
theorem best_both0 (h0 : supK (getV d 0) = 0) (h1 : supK (getV d 1) = 0) (hg : ¬ supB (getV d 0) 4 < supB (getV d 1) 4) : bestN d 2 = some 0 := by
  rw [← best_first h0]; exact bestN_no (k := 1) (fun h => hg (by have := h.2; rw [best_first h0] at this; exact this))
end
set_option maxRecDepth 100000 in
set_option maxHeartbeats 8000000 in
theorem rschoose_any {w : World} {B h N : Nat} {d : Dm} (r : Rd2 w B h N d) (hok : d.Ok) :
    Calls Tryd.prog 70 #[.pointer (some ⟨h, 0, none⟩)] w (RChose d w) := by
  have hb0 : Below w.heap.size w (w.alloc (.cells #[.int .u32 0, .int .u32 0, .int .i64 0, .int .i64 0] 52)) := (Below.refl _ _).alloc (Nat.le_refl _) _
  have hc0 := CellsAt.new w #[.int .u32 0, .int .u32 0, .int .i64 0, .int .i64 0] 52
  have hr0 := r.stays hb0
  have q0 := hr0.cell0
  have HB0 := Lib.hid hb0
  have HC0 := Lib.hid hc0
  have hsz := hok.size
  by_cases hlen : d.dur.length < 8
  · have HK1 : Hid ((chK d : Int) = 1) := by show _ = _; unfold chK; rw [if_pos hlen]; rfl
    have hli : (d.dur.length : Int) < 8 := by omega
    clear r hr0 hb0 hc0 hlen
    go_enter Tryd.func70, Tryd.ntmps70
    go_wp2_with fail
    exact bodyPost_ret (v := .tuple #[.agg #[.int .u32 0, .int .u32 0, .int .i64 0, .int .i64 0], .int .i64 0, .int .i64 1]) (by simp [results, Tryd.results70, go_sem]) rfl (RChose.bad 1 HK1.out (by decide) HB0.out)
  · have hli : ¬ ((d.dur.length : Int) < 8) := by omega
    have hR0 := rread_any hr0 hok (x := 0) (by decide) (by decide)
    have hR1 := rread_any hr0 hok (x := 1) (by decide) (by decide)
    by_cases hf : d.fuse = 0
    · have HK17 : Hid ((chK d : Int) = 17) := by show _ = _; unfold chK; rw [if_neg hlen, if_pos hf]; rfl
      rw [readK_power ⟨by decide, by omega⟩ hf] at hR0
      have HR0 := Lib.hid hR0
      clear r hr0 hb0 hc0 hlen hR0 hR1 hf
      go_enter Tryd.func70, Tryd.ntmps70
      go_wp2_with fail
      refine HR0.out.mono ?_
      rintro e w1 ⟨rfl, rfl⟩
      go_wp2_with fail
      exact bodyPost_ret (v := .tuple #[.agg #[.int .u32 0, .int .u32 0, .int .i64 0, .int .i64 0], .int .i64 0, .int .i64 17]) (by simp [results, Tryd.results70, go_sem]) rfl (RChose.bad 17 HK17.out (by decide) HB0.out)
    · have k0 : readK d 0 = 0 := readK_of ⟨by decide, by omega⟩ hf
      have k1 : readK d 1 = 0 := readK_of ⟨by decide, by omega⟩ hf
      have v0 : readV d 0 = getV d 0 := by unfold readV; rw [if_pos k0]
      have v1 : readV d 1 = getV d 1 := by unfold readV; rw [if_pos k1]
      rw [k0, v0] at hR0
      rw [k1, v1] at hR1
      have hl0 := hok.get 0
      have hl1 := hok.get 1
      have HCK : Hid (∀ o, bestN d 2 = o → (chK d = if o = none then 14 else 0)) := fun o ho => by unfold chK; rw [if_neg hlen, if_neg hf, ho]
      have hb00 := fun a b => best_00 (d := d) a b
      have hbb1 := fun a b => best_1 (d := d) a b
      have hbb0 := fun a b => best_0 (d := d) a b
      have hbo := fun a b c => best_both (d := d) a b c
      have hbo0 := fun a b c => best_both0 (d := d) a b c
      have hgood := fun (W : World) (hk : chK d = 0) (j : Nat) (hj : bestN d 2 = some j) (hb : Below w.heap.size w W) (n0 n1 n2 n3 : Nat) => RChose.good (w' := W) hk j hj hb n0 n1 n2 n3
      have hX0 : ∀ k, supB (getV d ((0 : Nat) : Int)) k = supB (getV d 0) k := fun k => rfl
      have hX1 : ∀ k, supB (getV d ((1 : Nat) : Int)) k = supB (getV d 1) k := fun k => rfl
      obtain ⟨X, hX⟩ : ∃ X, X = getV d 0 := ⟨_, rfl⟩
      obtain ⟨Y, hY⟩ : ∃ Y, Y = getV d 1 := ⟨_, rfl⟩
      rw [← hX] at hR0 hl0
      rw [← hY] at hR1 hl1
      simp only [← hX, ← hY] at hb00 hbb1 hbb0 hbo hbo0 hX0 hX1
      have HR0 := Lib.hid hR0
      have HR1 := Lib.hid hR1
      have HPX : Hid (∀ W, Calls Tryd.prog 40 #[.string (strB X)] W fun e w' => e = .returned (.tuple #[.agg #[.int .u32 (supB X 4), .int .u32 (supB X 8), .int .i64 (supB X 12), .int .i64 (supB X 16)], .int .i64 (supK X)]) ∧ Below W.heap.size W w') := fun W => rsParse_any X W (by omega)
      have HPY : Hid (∀ W, Calls Tryd.prog 40 #[.string (strB Y)] W fun e w' => e = .returned (.tuple #[.agg #[.int .u32 (supB Y 4), .int .u32 (supB Y 8), .int .i64 (supB Y 12), .int .i64 (supB Y 16)], .int .i64 (supK Y)]) ∧ Below W.heap.size W w') := fun W => rsParse_any Y W (by omega)
      have lx := supB_le X 4
      have ly := supB_le Y 4
      obtain ⟨x0, e0⟩ : ∃ n, n = supB X 4 := ⟨_, rfl⟩
      obtain ⟨x1, e1⟩ : ∃ n, n = supB X 8 := ⟨_, rfl⟩
      obtain ⟨x2, e2⟩ : ∃ n, n = supB X 12 := ⟨_, rfl⟩
      obtain ⟨x3, e3⟩ : ∃ n, n = supB X 16 := ⟨_, rfl⟩
      obtain ⟨y0, f0⟩ : ∃ n, n = supB Y 4 := ⟨_, rfl⟩
      obtain ⟨y1, f1⟩ : ∃ n, n = supB Y 8 := ⟨_, rfl⟩
      obtain ⟨y2, f2⟩ : ∃ n, n = supB Y 12 := ⟨_, rfl⟩
      obtain ⟨y3, f3⟩ : ∃ n, n = supB Y 16 := ⟨_, rfl⟩
      obtain ⟨KX, g0⟩ : ∃ n, n = supK X := ⟨_, rfl⟩
      obtain ⟨KY, g1⟩ : ∃ n, n = supK Y := ⟨_, rfl⟩
      have HXE : Hid (∀ W, chK d = 0 → bestN d 2 = some 0 → Below w.heap.size w W → RChose d w (.returned (.tuple #[.agg #[.int .u32 x0, .int .u32 x1, .int .i64 x2, .int .i64 x3], .int .i64 0, .int .i64 0])) W) := fun W hk hj hb => hgood W hk 0 hj hb x0 x1 x2 x3 (by rw [hX0, e0]) (by rw [hX0, e1]) (by rw [hX0, e2]) (by rw [hX0, e3])
      have HYE : Hid (∀ W, chK d = 0 → bestN d 2 = some 1 → Below w.heap.size w W → RChose d w (.returned (.tuple #[.agg #[.int .u32 y0, .int .u32 y1, .int .i64 y2, .int .i64 y3], .int .i64 1, .int .i64 0])) W) := fun W hk hj hb => hgood W hk 1 hj hb y0 y1 y2 y3 (by rw [hX1, f0]) (by rw [hX1, f1]) (by rw [hX1, f2]) (by rw [hX1, f3])
      simp only [← e0, ← e1, ← e2, ← e3, ← g0] at HPX
      simp only [← f0, ← f1, ← f2, ← f3, ← g1] at HPY
      rw [← e0] at lx
      rw [← f0] at ly
      simp only [← e0, ← f0, ← g0, ← g1] at hb00 hbb1 hbb0 hbo hbo0
      have H00 := Lib.hid hb00
      have H10 := Lib.hid hbb1
      have H01 := Lib.hid hbb0
      have H11 := Lib.hid hbo
      have H110 := Lib.hid hbo0
      clear r hr0 hb0 hc0 hlen hR0 hR1 hf k0 k1 v0 v1 hl0 hl1 hb00 hbb1 hbb0 hbo hbo0 hgood hX0 hX1 hX hY e0 e1 e2 e3 f0 f1 f2 f3 g0 g1
      go_enter Tryd.func70, Tryd.ntmps70
      go_wp2_with fail
      refine HR0.out.mono ?_
      rintro e w1 ⟨rfl, rfl⟩
      go_wp2_with fail
      refine HR1.out.mono ?_
      rintro e w1 ⟨rfl, rfl⟩
      clear HR0 HR1 q0
      go_wp2_with fail
      refine (HPX.out _).mono ?_
      rintro e w1 ⟨rfl, hb1⟩
      have hbe1 := HB0.out.trans (hb1.mono HB0.out.size)
      have hc1 := HC0.out.stays hb1
      obtain ⟨W1, hW1⟩ : ∃ W, W = w1.alloc (.cells #[.int .u32 x0, .int .u32 x1, .int .i64 x2, .int .i64 x3] 52) := ⟨_, rfl⟩
      have hbA1 : Below w1.heap.size w1 W1 := by rw [hW1]; exact (Below.refl _ _).alloc (Nat.le_refl _) _
      have hcX : CellsAt W1 w1.heap.size 52 #[.int .u32 x0, .int .u32 x1, .int .i64 x2, .int .i64 x3] := by rw [hW1]; exact CellsAt.new w1 _ _
      have hP2 := HPY.out W1
      rw [hW1] at hP2
      have HP2 := Lib.hid hP2
      have HW1 := Lib.hid hW1
      have hbe1' := hbe1.trans (hbA1.mono hbe1.size)
      have hc1' := hc1.stays hbA1
      clear hb1 hbe1 hc1 hbA1 hW1 hP2 HPX HPY HB0 HC0
      go_wp2_with fail
      refine HP2.out.mono ?_
      rintro e w2 ⟨rfl, hb2⟩
      rw [← HW1.out] at hb2
      have hbe2 := hbe1'.trans (hb2.mono hbe1'.size)
      have hc2 := hc1'.stays hb2
      have hcX2 := hcX.stays hb2
      obtain ⟨W2, hW2⟩ : ∃ W, W = w2.alloc (.cells #[.int .u32 y0, .int .u32 y1, .int .i64 y2, .int .i64 y3] 52) := ⟨_, rfl⟩
      have hbA2 : Below w2.heap.size w2 W2 := by rw [hW2]; exact (Below.refl _ _).alloc (Nat.le_refl _) _
      have hcY : CellsAt W2 w2.heap.size 52 #[.int .u32 y0, .int .u32 y1, .int .i64 y2, .int .i64 y3] := by rw [hW2]; exact CellsAt.new w2 _ _
      have hbe3 := hbe2.trans (hbA2.mono hbe2.size)
      have hc3 := hc2.stays hbA2
      have hcX3 := hcX2.stays hbA2
      obtain ⟨PX, hPX⟩ : ∃ P, P = w1.heap.size := ⟨_, rfl⟩
      obtain ⟨PY, hPY⟩ : ∃ P, P = w2.heap.size := ⟨_, rfl⟩
      rw [← hPX] at hcX3
      rw [← hPY] at hcY
      have HPX := Lib.hid hPX
      have HPY := Lib.hid hPY
      have HW2 := Lib.hid hW2
      clear hb2 hbe2 hc2 hcX2 hbA2 hW2 hPX hPY HP2 HW1 hbe1' hc1' hcX
      go_upto_region 11 with (fail)
      rw [← HW2.out, ← HPX.out, ← HPY.out]
      clear HW2 HPX HPY
      have c0 := hc3.cell 0 (v := .int .u32 0) rfl
      have c1 := hc3.cell 1 (v := .int .u32 0) rfl
      have c2 := hc3.cell 2 (v := .int .i64 0) rfl
      have c3 := hc3.cell 3 (v := .int .i64 0) rfl
      have ff0 := hc3.free 0
      have ff1 := hc3.free 1
      have ff2 := hc3.free 2
      have ff3 := hc3.free 3
      have hlt3 := hc3.lt
      have x0c := hcX3.cell 0 (v := .int .u32 x0) rfl
      have x1c := hcX3.cell 1 (v := .int .u32 x1) rfl
      have x2c := hcX3.cell 2 (v := .int .i64 x2) rfl
      have x3c := hcX3.cell 3 (v := .int .i64 x3) rfl
      have y0c := hcY.cell 0 (v := .int .u32 y0) rfl
      have y1c := hcY.cell 1 (v := .int .u32 y1) rfl
      have y2c := hcY.cell 2 (v := .int .i64 y2) rfl
      have y3c := hcY.cell 3 (v := .int .i64 y3) rfl
      have HBF : Hid (∀ a0 a1 a2 a3 : Value, Below w.heap.size w ((((W2.setCell ⟨w.heap.size, 0, none⟩ a0).setCell ⟨w.heap.size, 1, none⟩ a1).setCell ⟨w.heap.size, 2, none⟩ a2).setCell ⟨w.heap.size, 3, none⟩ a3)) := fun a0 a1 a2 a3 => (((hbe3.setCell (Nat.le_refl _) _).setCell (Nat.le_refl _) _).setCell (Nat.le_refl _) _).setCell (Nat.le_refl _) _
      clear hc3 hcX3 hcY hbe3
      by_cases hx : KX = 0
      · have t1 : ((KX : Int) != 0) = false := by simpa using hx
        by_cases hy : KY = 0
        · have t2 : ((KY : Int) == 0) = true := by simpa using hy
          have t2' : ((KY : Int) != 0) = false := by simpa using hy
          by_cases hg : x0 < y0
          · have hgi : (y0 : Int) > x0 := by omega
            have hbst := H11.out hx hy hg
            have hck := HCK.out _ hbst
            have HPO : Hid (∀ W, Below w.heap.size w W → RChose d w (.returned (.tuple #[.agg #[.int .u32 y0, .int .u32 y1, .int .i64 y2, .int .i64 y3], .int .i64 1, .int .i64 0])) W) := fun W hW => HYE.out W (by rw [hck]; rfl) hbst hW
            clear hx hy hg hbst hck
            go_wp2_with fail
            exact bodyPost_ret (v := .tuple #[.agg #[.int .u32 y0, .int .u32 y1, .int .i64 y2, .int .i64 y3], .int .i64 1, .int .i64 0]) (by simp [results, Tryd.results70, go_sem, c0, c1, c2, c3]) rfl (HPO.out _ (HBF.out _ _ _ _))
          · have hgi : ¬ ((y0 : Int) > x0) := by omega
            have hbst := H110.out hx hy hg
            have hck := HCK.out _ hbst
            have HPO : Hid (∀ W, Below w.heap.size w W → RChose d w (.returned (.tuple #[.agg #[.int .u32 x0, .int .u32 x1, .int .i64 x2, .int .i64 x3], .int .i64 0, .int .i64 0])) W) := fun W hW => HXE.out W (by rw [hck]; rfl) hbst hW
            clear hx hy hg hbst hck
            go_wp2_with fail
            exact bodyPost_ret (v := .tuple #[.agg #[.int .u32 x0, .int .u32 x1, .int .i64 x2, .int .i64 x3], .int .i64 0, .int .i64 0]) (by simp [results, Tryd.results70, go_sem, c0, c1, c2, c3]) rfl (HPO.out _ (HBF.out _ _ _ _))
        · have t2 : ((KY : Int) == 0) = false := by simpa using hy
          have t2' : ((KY : Int) != 0) = true := by simpa using hy
          have hbst := H01.out hx hy
          have hck := HCK.out _ hbst
          have HPO : Hid (∀ W, Below w.heap.size w W → RChose d w (.returned (.tuple #[.agg #[.int .u32 x0, .int .u32 x1, .int .i64 x2, .int .i64 x3], .int .i64 0, .int .i64 0])) W) := fun W hW => HXE.out W (by rw [hck]; rfl) hbst hW
          clear hx hy hbst hck
          go_wp2_with fail
          exact bodyPost_ret (v := .tuple #[.agg #[.int .u32 x0, .int .u32 x1, .int .i64 x2, .int .i64 x3], .int .i64 0, .int .i64 0]) (by simp [results, Tryd.results70, go_sem, c0, c1, c2, c3]) rfl (HPO.out _ (HBF.out _ _ _ _))
      · have t1 : ((KX : Int) != 0) = true := by simpa using hx
        by_cases hy : KY = 0
        · have t2 : ((KY : Int) == 0) = true := by simpa using hy
          have t2' : ((KY : Int) != 0) = false := by simpa using hy
          have hbst := H10.out hx hy
          have hck := HCK.out _ hbst
          have HPO : Hid (∀ W, Below w.heap.size w W → RChose d w (.returned (.tuple #[.agg #[.int .u32 y0, .int .u32 y1, .int .i64 y2, .int .i64 y3], .int .i64 1, .int .i64 0])) W) := fun W hW => HYE.out W (by rw [hck]; rfl) hbst hW
          clear hx hy hbst hck
          go_wp2_with fail
          exact bodyPost_ret (v := .tuple #[.agg #[.int .u32 y0, .int .u32 y1, .int .i64 y2, .int .i64 y3], .int .i64 1, .int .i64 0]) (by simp [results, Tryd.results70, go_sem, c0, c1, c2, c3]) rfl (HPO.out _ (HBF.out _ _ _ _))
        · have t2' : ((KY : Int) != 0) = true := by simpa using hy
          have hbst := H00.out hx hy
          have hck := HCK.out _ hbst
          have HK14 : Hid ((chK d : Int) = 14) := by show _ = _; rw [hck]; rfl
          clear hx hy hbst hck
          go_wp2_with fail
          exact bodyPost_ret (v := .tuple #[.agg #[.int .u32 0, .int .u32 0, .int .i64 0, .int .i64 0], .int .i64 0, .int .i64 14]) (by simp [results, Tryd.results70, go_sem, c0, c1, c2, c3]) rfl (RChose.bad 14 HK14.out (by decide) (HBF.out _ _ _ _))
end Go.Proofs.YtgehbabcpmkgaaaDoor
