/- The walk of ValueTells: which values are right, how great and deep they are, and which one comes first. -/
import Derived.Test.YtcnjlbbckdmifaaAlive13
import Derived.Test.YtcnjlbbckdmifaaOpenV
import Derived.Test.YtcnjlbbckdmifaaVp
import Derived.Test.YtcnjlbbckdmifaaVu
import Derived.Test.YtcnjlbbckdmifaaVv
import Derived.Deep.Quiet
namespace Go.Proofs.Ytcnjlbbckdmifaa
open Go Go.RowKit
set_option linter.unusedVariables false
theorem Rep.setC {S : Nat → Prop} {w : World} {v : V} {a : A3} {b o : Nat} {u : Value} (h : Rep S w v a) (hb : ∀ k, S k → k ≠ b) : Rep S (w.setCell ⟨b, o, none⟩ u) v a := h.grew ((Grew.refl [b] w).setCell (.inl (by simp)) u) (fun k hk hm => hb k hk (by simpa using hm))
theorem Rep.allocC {S : Nat → Prop} {w : World} {v : V} {a : A3} {o : Obj} (h : Rep S w v a) : Rep S (w.alloc o) v a := h.stays ((Below.refl _ _).alloc (Nat.le_refl _) o)
theorem CellsAt.new' {w : World} {b : Nat} {cs : Array Value} {T : TypeId} (h : b = w.heap.size) : CellsAt (w.alloc (.cells cs T)) b T cs := by rw [h]; exact CellsAt.new w cs T
theorem CellsAt.allocC {w : World} {b : Nat} {cs : Array Value} {T : TypeId} {o : Obj} (h : CellsAt w b T cs) : CellsAt (w.alloc o) b T cs := h.stays ((Below.refl _ _).alloc (Nat.le_refl _) o)
theorem CellsAt.set7 {w : World} {g : Nat} {T : TypeId} {c0 c1 c2 c3 c4 c5 c6 v0 v1 v2 v3 v4 v5 v6 : Value} (h : CellsAt w g T #[c0, c1, c2, c3, c4, c5, c6]) :
    CellsAt (((((((w.setCell ⟨g, 0, none⟩ v0).setCell ⟨g, 1, none⟩ v1).setCell ⟨g, 2, none⟩ v2).setCell ⟨g, 3, none⟩ v3).setCell ⟨g, 4, none⟩ v4).setCell ⟨g, 5, none⟩ v5).setCell ⟨g, 6, none⟩ v6) g T #[v0, v1, v2, v3, v4, v5, v6] := by
  have h0 : CellsAt (w.setCell ⟨g, 0, none⟩ v0) g T #[v0, c1, c2, c3, c4, c5, c6] := by simpa using h.set 0 v0
  have h1 : CellsAt ((w.setCell ⟨g, 0, none⟩ v0).setCell ⟨g, 1, none⟩ v1) g T #[v0, v1, c2, c3, c4, c5, c6] := by simpa using h0.set 1 v1
  have h2 : CellsAt (((w.setCell ⟨g, 0, none⟩ v0).setCell ⟨g, 1, none⟩ v1).setCell ⟨g, 2, none⟩ v2) g T #[v0, v1, v2, c3, c4, c5, c6] := by simpa using h1.set 2 v2
  have h3 : CellsAt ((((w.setCell ⟨g, 0, none⟩ v0).setCell ⟨g, 1, none⟩ v1).setCell ⟨g, 2, none⟩ v2).setCell ⟨g, 3, none⟩ v3) g T #[v0, v1, v2, v3, c4, c5, c6] := by simpa using h2.set 3 v3
  have h4 : CellsAt (((((w.setCell ⟨g, 0, none⟩ v0).setCell ⟨g, 1, none⟩ v1).setCell ⟨g, 2, none⟩ v2).setCell ⟨g, 3, none⟩ v3).setCell ⟨g, 4, none⟩ v4) g T #[v0, v1, v2, v3, v4, c5, c6] := by simpa using h3.set 4 v4
  have h5 : CellsAt ((((((w.setCell ⟨g, 0, none⟩ v0).setCell ⟨g, 1, none⟩ v1).setCell ⟨g, 2, none⟩ v2).setCell ⟨g, 3, none⟩ v3).setCell ⟨g, 4, none⟩ v4).setCell ⟨g, 5, none⟩ v5) g T #[v0, v1, v2, v3, v4, v5, c6] := by simpa using h4.set 5 v5
  simpa using h5.set 6 v6
theorem CellsAt.other7 {w : World} {g g' : Nat} {T : TypeId} {cs : Array Value} {v0 v1 v2 v3 v4 v5 v6 : Value} (h : CellsAt w g T cs) (hne : g ≠ g') :
    CellsAt (((((((w.setCell ⟨g', 0, none⟩ v0).setCell ⟨g', 1, none⟩ v1).setCell ⟨g', 2, none⟩ v2).setCell ⟨g', 3, none⟩ v3).setCell ⟨g', 4, none⟩ v4).setCell ⟨g', 5, none⟩ v5).setCell ⟨g', 6, none⟩ v6) g T cs :=
  ((((((h.other ⟨g', 0, none⟩ hne v0).other ⟨g', 1, none⟩ hne v1).other ⟨g', 2, none⟩ hne v2).other ⟨g', 3, none⟩ hne v3).other ⟨g', 4, none⟩ hne v4).other ⟨g', 5, none⟩ hne v5).other ⟨g', 6, none⟩ hne v6
theorem Rep.setC7 {S : Nat → Prop} {w : World} {v : V} {a : A3} {b : Nat} {v0 v1 v2 v3 v4 v5 v6 : Value} (h : Rep S w v a) (hb : ∀ k, S k → k ≠ b) :
    Rep S (((((((w.setCell ⟨b, 0, none⟩ v0).setCell ⟨b, 1, none⟩ v1).setCell ⟨b, 2, none⟩ v2).setCell ⟨b, 3, none⟩ v3).setCell ⟨b, 4, none⟩ v4).setCell ⟨b, 5, none⟩ v5).setCell ⟨b, 6, none⟩ v6) v a := h.grew (grew_set7 (Grew.refl [b] w) (by simp) _ _ _ _ _ _ _) (fun k hk hm => hb k hk (by simpa using hm))
theorem below_call {w W w5 : World} (hb5 : Below W.heap.size W w5) (h : Below w.heap.size w W) : Below w.heap.size w w5 := h.trans (hb5.mono h.size)
set_option maxRecDepth 100000 in
set_option maxHeartbeats 16000000 in
theorem walkValueTells (w : World) (va : V) (aa : A3) (hra : Rep (fun _ => True) w va aa) (vb : V) (ab : A3) (hrb : Rep (fun _ => True) w vb ab) :
    Calls Try.prog 3 #[vG (va, aa), vG (vb, ab)] w fun e w' => e = .returned (.bool true) ∧ Below w.heap.size w w' := by
  obtain ⟨k, n, t, fs, r, ls, ps⟩ := va
  obtain ⟨fa, fc, la, lc, pa, pc⟩ := aa
  obtain ⟨k2, n2, t2, fs2, r2, ls2, ps2⟩ := vb
  obtain ⟨fa2, fc2, la2, lc2, pa2, pc2⟩ := ab
  rw [vG_lit, vG_lit]
  obtain ⟨W0, hW0⟩ : ∃ W0, W0 = (w.alloc (.cells #[.int .i64 k, .int .u64 (n : Int), .string (strB t), .slice fa fs.length fc, .string (strB r), .slice la ls.length lc, .slice pa ps.length pc] 27)).alloc (.cells #[.int .i64 k2, .int .u64 (n2 : Int), .string (strB t2), .slice fa2 fs2.length fc2, .string (strB r2), .slice la2 ls2.length lc2, .slice pa2 ps2.length pc2] 27) := ⟨_, rfl⟩
  obtain ⟨g, hg⟩ : ∃ g, g = w.heap.size := ⟨_, rfl⟩
  have HBA : Hid (Below w.heap.size w W0) := by rw [hW0]; exact ((Below.refl _ _).alloc (Nat.le_refl _) _).alloc (by simp) _
  have hcx : CellsAt W0 g 27 #[.int .i64 k, .int .u64 (n : Int), .string (strB t), .slice fa fs.length fc, .string (strB r), .slice la ls.length lc, .slice pa ps.length pc] := by rw [hW0, hg]; exact (CellsAt.new w _ _).stays ((Below.refl _ _).alloc (Nat.le_refl _) _)
  have hcy : CellsAt W0 (g + 1) 27 #[.int .i64 k2, .int .u64 (n2 : Int), .string (strB t2), .slice fa2 fs2.length fc2, .string (strB r2), .slice la2 ls2.length lc2, .slice pa2 ps2.length pc2] := by
    have := CellsAt.new (w.alloc (.cells #[.int .i64 k, .int .u64 (n : Int), .string (strB t), .slice fa fs.length fc, .string (strB r), .slice la ls.length lc, .slice pa ps.length pc] 27)) #[.int .i64 k2, .int .u64 (n2 : Int), .string (strB t2), .slice fa2 fs2.length fc2, .string (strB r2), .slice la2 ls2.length lc2, .slice pa2 ps2.length pc2] 27
    rw [show (w.alloc (.cells #[.int .i64 k, .int .u64 (n : Int), .string (strB t), .slice fa fs.length fc, .string (strB r), .slice la ls.length lc, .slice pa ps.length pc] 27)).heap.size = w.heap.size + 1 by simp] at this
    rw [hW0, hg]; exact this
  have HS : Hid (∀ W, Below W0.heap.size W0 W → Below W0.heap.size W0 W ∧ W.cell? ⟨g, 0, none⟩ = some (.int .i64 k) ∧ W.cell? ⟨g, 1, none⟩ = some (.int .u64 (n : Int)) ∧ W.cell? ⟨g, 2, none⟩ = some (.string (strB t)) ∧ W.cell? ⟨g, 3, none⟩ = some (.slice fa fs.length fc) ∧ W.cell? ⟨g, 4, none⟩ = some (.string (strB r)) ∧ W.cell? ⟨g, 5, none⟩ = some (.slice la ls.length lc) ∧ W.cell? ⟨g, 6, none⟩ = some (.slice pa ps.length pc) ∧ W.cell? ⟨g + 1, 0, none⟩ = some (.int .i64 k2) ∧ W.cell? ⟨g + 1, 1, none⟩ = some (.int .u64 (n2 : Int)) ∧ W.cell? ⟨g + 1, 2, none⟩ = some (.string (strB t2)) ∧ W.cell? ⟨g + 1, 3, none⟩ = some (.slice fa2 fs2.length fc2) ∧ W.cell? ⟨g + 1, 4, none⟩ = some (.string (strB r2)) ∧ W.cell? ⟨g + 1, 5, none⟩ = some (.slice la2 ls2.length lc2) ∧ W.cell? ⟨g + 1, 6, none⟩ = some (.slice pa2 ps2.length pc2)) := fun W hb => by
    obtain ⟨a0, a1, a2, a3, a4, a5, a6⟩ := box7 (hcx.stays hb)
    obtain ⟨b0, b1, b2, b3, b4, b5, b6⟩ := box7 (hcy.stays hb)
    exact ⟨hb, a0, a1, a2, a3, a4, a5, a6, b0, b1, b2, b3, b4, b5, b6⟩
  have HA : Hid (∀ W, Below W0.heap.size W0 W → Rep (fun _ => True) W (.mk k n t fs r ls ps) ⟨fa, fc, la, lc, pa, pc⟩) := fun W hb => hra.stays (HBA.out.trans (hb.mono HBA.out.size))
  have HB : Hid (∀ W, Below W0.heap.size W0 W → Rep (fun _ => True) W (.mk k2 n2 t2 fs2 r2 ls2 ps2) ⟨fa2, fc2, la2, lc2, pa2, pc2⟩) := fun W hb => hrb.stays (HBA.out.trans (hb.mono HBA.out.size))
  have HF : Hid (∀ W, Below W0.heap.size W0 W → Below w.heap.size w W) := fun W hb => HBA.out.trans (hb.mono HBA.out.size)
  have HW := Lib.hid hW0
  have HG := Lib.hid hg
  clear hra hrb hcx hcy hW0 hg HBA
  go_enter Try.func3, Try.ntmps3
  go_wp2_with fail
  have hW0 := HW.out
  have hg := HG.out
  rw [← hW0, ← hg]
  clear hW0 hg HW HG
  refine (alive13 _).mono ?_
  rintro e w1 ⟨rfl, hb1⟩
  obtain ⟨-, x0, x1, x2, x3, x4, x5, x6, y0, y1, y2, y3, y4, y5, y6⟩ := HS.out w1 hb1
  go_wp2_with fail
  refine (Great_any (by omega) (by omega) (HA.out w1 hb1)).mono ?_
  rintro e w2 ⟨rfl, hb2⟩
  replace hb2 := hb1.trans (hb2.mono hb1.size)
  clear hb1 x0 x1 x2 x3 x4 x5 x6 y0 y1 y2 y3 y4 y5 y6
  by_cases hga : greatV (.mk k n t fs r ls ps) 100 30 < 0
  · have HF2 := Lib.hid (HF.out w2 hb2)
    go_wp2_with fail
    go_ret
    exact ⟨rfl, HF2.out⟩
  have HWA := Lib.hid (great_w (by omega) (by omega) hga)
  have e1 : decide (greatV (.mk k n t fs r ls ps) 100 30 < 0) = false := decide_eq_false hga
  generalize decide (greatV (.mk k n t fs r ls ps) 100 30 < 0) = b1 at e1 ⊢
  subst e1
  obtain ⟨-, x0, x1, x2, x3, x4, x5, x6, y0, y1, y2, y3, y4, y5, y6⟩ := HS.out w2 hb2
  clear hga
  go_wp2_with fail
  refine (Great_any (by omega) (by omega) (HB.out w2 hb2)).mono ?_
  rintro e w3 ⟨rfl, hb3⟩
  replace hb3 := hb2.trans (hb3.mono hb2.size)
  clear hb2 x0 x1 x2 x3 x4 x5 x6 y0 y1 y2 y3 y4 y5 y6
  by_cases hgb : greatV (.mk k2 n2 t2 fs2 r2 ls2 ps2) 100 30 < 0
  · have HF2 := Lib.hid (HF.out w3 hb3)
    go_wp2_with fail
    go_ret
    exact ⟨rfl, HF2.out⟩
  have HWB := Lib.hid (great_w (by omega) (by omega) hgb)
  have e1 : decide (greatV (.mk k2 n2 t2 fs2 r2 ls2 ps2) 100 30 < 0) = false := decide_eq_false hgb
  generalize decide (greatV (.mk k2 n2 t2 fs2 r2 ls2 ps2) 100 30 < 0) = b1 at e1 ⊢
  subst e1
  clear hgb
  obtain ⟨-, x0, x1, x2, x3, x4, x5, x6, y0, y1, y2, y3, y4, y5, y6⟩ := HS.out w3 hb3
  have hd0 : Below w3.heap.size w3 w3 := Below.refl _ _
  have hd1 : Below w3.heap.size w3 w3.drew := hd0.drew
  have HB3 := Lib.hid hb3
  have HOA : Hid (∀ W, Below w3.heap.size w3 W → Calls Try.prog 14 #[.agg #[.int .i64 k, .int .u64 (n : Int), .string (strB t), .slice fa fs.length fc, .string (strB r), .slice la ls.length lc, .slice pa ps.length pc]] W fun e w' => ∃ (fa la pa : Option Addr) (fc lc pc : Nat), e = .returned (.agg #[.int .i64 k, .int .u64 (n : Int), .string (strB t), .slice fa fs.length fc, .string (strB r), .slice la ls.length lc, .slice pa ps.length pc]) ∧ (∃ S : Nat → Prop, (∀ k, S k → W.heap.size ≤ k ∧ k < w'.heap.size) ∧ Rep S w' (.mk k n t fs r ls ps) ⟨fa, fc, la, lc, pa, pc⟩) ∧ Below W.heap.size W w') := fun W hb => (OfC.lit (of_any _) (HA.out W (HB3.out.trans (hb.mono HB3.out.size))) HWA.out).mono fun e w' ⟨fa, la, pa, fc, lc, pc, h1, h2, h3⟩ => ⟨fa, la, pa, fc, lc, pc, h1, ⟨_, fun k hk => hk, h2.lt⟩, h3⟩
  have HOB : Hid (∀ W, Below w3.heap.size w3 W → Calls Try.prog 14 #[.agg #[.int .i64 k2, .int .u64 (n2 : Int), .string (strB t2), .slice fa2 fs2.length fc2, .string (strB r2), .slice la2 ls2.length lc2, .slice pa2 ps2.length pc2]] W fun e w' => ∃ (fa2 la2 pa2 : Option Addr) (fc2 lc2 pc2 : Nat), e = .returned (.agg #[.int .i64 k2, .int .u64 (n2 : Int), .string (strB t2), .slice fa2 fs2.length fc2, .string (strB r2), .slice la2 ls2.length lc2, .slice pa2 ps2.length pc2]) ∧ (∃ S : Nat → Prop, (∀ k, S k → W.heap.size ≤ k ∧ k < w'.heap.size) ∧ Rep S w' (.mk k2 n2 t2 fs2 r2 ls2 ps2) ⟨fa2, fc2, la2, lc2, pa2, pc2⟩) ∧ Below W.heap.size W w') := fun W hb => (OfC.lit (of_any _) (HB.out W (HB3.out.trans (hb.mono HB3.out.size))) HWB.out).mono fun e w' ⟨fa, la, pa, fc, lc, pc, h1, h2, h3⟩ => ⟨fa, la, pa, fc, lc, pc, h1, ⟨_, fun k hk => hk, h2.lt⟩, h3⟩
  have HS3 : Hid (∀ W, Below w3.heap.size w3 W → Below w3.heap.size w3 W ∧ W.cell? ⟨g, 0, none⟩ = some (.int .i64 k) ∧ W.cell? ⟨g, 1, none⟩ = some (.int .u64 (n : Int)) ∧ W.cell? ⟨g, 2, none⟩ = some (.string (strB t)) ∧ W.cell? ⟨g, 3, none⟩ = some (.slice fa fs.length fc) ∧ W.cell? ⟨g, 4, none⟩ = some (.string (strB r)) ∧ W.cell? ⟨g, 5, none⟩ = some (.slice la ls.length lc) ∧ W.cell? ⟨g, 6, none⟩ = some (.slice pa ps.length pc) ∧ W.cell? ⟨g + 1, 0, none⟩ = some (.int .i64 k2) ∧ W.cell? ⟨g + 1, 1, none⟩ = some (.int .u64 (n2 : Int)) ∧ W.cell? ⟨g + 1, 2, none⟩ = some (.string (strB t2)) ∧ W.cell? ⟨g + 1, 3, none⟩ = some (.slice fa2 fs2.length fc2) ∧ W.cell? ⟨g + 1, 4, none⟩ = some (.string (strB r2)) ∧ W.cell? ⟨g + 1, 5, none⟩ = some (.slice la2 ls2.length lc2) ∧ W.cell? ⟨g + 1, 6, none⟩ = some (.slice pa2 ps2.length pc2)) := fun W hb => ⟨hb, (HS.out W (HB3.out.trans (hb.mono HB3.out.size))).2⟩
  clear hb3
  go_upto_region 5 with fail
  go_cut [5, 6] from 15 to 18 (fun p5 p6 wx => ∃ (b5 b6 : Nat) (fa5 la5 pa5 : Option Addr) (fc5 lc5 pc5 : Nat) (fa6 la6 pa6 : Option Addr) (fc6 lc6 pc6 : Nat), p5 = .pointer (some ⟨b5, 0, none⟩) ∧ p6 = .pointer (some ⟨b6, 0, none⟩) ∧ CellsAt wx b5 34 #[.int .i64 k, .int .u64 (n : Int), .string (strB t), .slice fa5 fs.length fc5, .string (strB r), .slice la5 ls.length lc5, .slice pa5 ps.length pc5] ∧ CellsAt wx b6 34 #[.int .i64 k2, .int .u64 (n2 : Int), .string (strB t2), .slice fa6 fs2.length fc6, .string (strB r2), .slice la6 ls2.length lc6, .slice pa6 ps2.length pc6] ∧
    (Rep (fun _ => True) wx (.mk k n t fs r ls ps) ⟨fa5, fc5, la5, lc5, pa5, pc5⟩ ∧ Rep (fun _ => True) wx (.mk k2 n2 t2 fs2 r2 ls2 ps2) ⟨fa6, fc6, la6, lc6, pa6, pc6⟩) ∧ Below w3.heap.size w3 wx)
  case first =>
    go_region_held3 (fun W => Below w3.heap.size w3 W ∧ W.cell? ⟨g, 0, none⟩ = some (.int .i64 k) ∧ W.cell? ⟨g, 1, none⟩ = some (.int .u64 (n : Int)) ∧ W.cell? ⟨g, 2, none⟩ = some (.string (strB t)) ∧ W.cell? ⟨g, 3, none⟩ = some (.slice fa fs.length fc) ∧ W.cell? ⟨g, 4, none⟩ = some (.string (strB r)) ∧ W.cell? ⟨g, 5, none⟩ = some (.slice la ls.length lc) ∧ W.cell? ⟨g, 6, none⟩ = some (.slice pa ps.length pc) ∧ W.cell? ⟨g + 1, 0, none⟩ = some (.int .i64 k2) ∧ W.cell? ⟨g + 1, 1, none⟩ = some (.int .u64 (n2 : Int)) ∧ W.cell? ⟨g + 1, 2, none⟩ = some (.string (strB t2)) ∧ W.cell? ⟨g + 1, 3, none⟩ = some (.slice fa2 fs2.length fc2) ∧ W.cell? ⟨g + 1, 4, none⟩ = some (.string (strB r2)) ∧ W.cell? ⟨g + 1, 5, none⟩ = some (.slice la2 ls2.length lc2) ∧ W.cell? ⟨g + 1, 6, none⟩ = some (.slice pa2 ps2.length pc2))
      (exact HS3.out _ (by (repeat (first | (with_reducible assumption) | (with_reducible refine Below.setCell ?_ (by first | exact Nat.le_refl _ | (simp; done) | (simp; omega)) _) | (with_reducible refine below_al ?_ _) | (with_reducible refine Below.drew ?_) | (with_reducible exact Below.refl _ _)))))
      ((first
        | (go_at_call 14; (with_reducible refine (HOA.out _ (by (repeat (first | (with_reducible assumption) | (with_reducible refine Below.setCell ?_ (by first | exact Nat.le_refl _ | (simp; done) | (simp; omega)) _) | (with_reducible refine below_al ?_ _) | (with_reducible refine Below.drew ?_) | (with_reducible exact Below.refl _ _))))).mono ?_); rintro e w5 ⟨fa5, la5, pa5, fc5, lc5, pc5, rfl, ⟨S5, hS5, hr5⟩, hb5⟩; have hb6 : Below w3.heap.size w3 w5 := below_call hb5 (by (repeat (first | (with_reducible assumption) | (with_reducible refine Below.setCell ?_ (by first | exact Nat.le_refl _ | (simp; done) | (simp; omega)) _) | (with_reducible refine below_al ?_ _) | (with_reducible refine Below.drew ?_) | (with_reducible exact Below.refl _ _)))); have hs5 := hb5.size; (try simp at hs5); (try have l51 : w3.heap.size < w5.heap.size := by omega); (try have l52 : w3.heap.size + 1 < w5.heap.size := by omega); have hs6 := hb6.size; have cc5 := fun (b o : Nat) h => hb5.cell (p := ⟨b, o, none⟩) h; have ff5 := fun (b o : Nat) h => hb5.frozen (p := ⟨b, o, none⟩) h; (try simp only at cc5); (try simp only at ff5))
        | (go_at_call 14; (with_reducible refine (HOB.out _ (by (repeat (first | (with_reducible assumption) | (with_reducible refine Below.setCell ?_ (by first | exact Nat.le_refl _ | (simp; done) | (simp; omega)) _) | (with_reducible refine below_al ?_ _) | (with_reducible refine Below.drew ?_) | (with_reducible exact Below.refl _ _))))).mono ?_); rintro e w7 ⟨fa7, la7, pa7, fc7, lc7, pc7, rfl, ⟨S7, hS7, hr7⟩, hb7⟩; have hb8 : Below w3.heap.size w3 w7 := below_call hb7 (by (repeat (first | (with_reducible assumption) | (with_reducible refine Below.setCell ?_ (by first | exact Nat.le_refl _ | (simp; done) | (simp; omega)) _) | (with_reducible refine below_al ?_ _) | (with_reducible refine Below.drew ?_) | (with_reducible exact Below.refl _ _)))); have hs7 := hb7.size; (try simp at hs7); (try have l71 : w3.heap.size < w7.heap.size := by omega); (try have l72 : w3.heap.size + 1 < w7.heap.size := by omega); (try have l73 : w5.heap.size < w7.heap.size := by omega); (try have l74 : w5.heap.size + 1 < w7.heap.size := by omega); have hs8 := hb8.size; have cc7 := fun (b o : Nat) h => hb7.cell (p := ⟨b, o, none⟩) h; have ff7 := fun (b o : Nat) h => hb7.frozen (p := ⟨b, o, none⟩) h; (try simp only at cc7); (try simp only at ff7))))
    all_goals go_wp2_with fail
    all_goals go_meet
    all_goals refine ⟨_, _, fa5, la5, pa5, fc5, lc5, pc5, fa7, la7, pa7, fc7, lc7, pc7, rfl, rfl, ?_, ?_, ⟨?_, ?_⟩, ?_⟩
    all_goals rename_i hHH
    all_goals clear hHH HOA HOB HS3 HA HB HF HS HWA HWB HB3 x0 x1 x2 x3 x4 x5 x6 y0 y1 y2 y3 y4 y5 y6 cc5 ff5 cc7 ff7
    iterate 12
     (focus (repeat (first
        | (with_reducible refine CellsAt.set7 (c0 := .int .i64 0) (c1 := .int .u64 0) (c2 := .string ⟨#[]⟩) (c3 := .slice none 0 0) (c4 := .string ⟨#[]⟩) (c5 := .slice none 0 0) (c6 := .slice none 0 0) ?_)
        | (with_reducible refine CellsAt.other7 ?_ ?_; rotate_left; focus omega)
        | (with_reducible refine CellsAt.new' ?_; focus (first | (with_reducible rfl) | (simp; done)))
        | (with_reducible refine CellsAt.allocC ?_)
        | (with_reducible refine CellsAt.drew ?_)
        | (with_reducible refine CellsAt.stays ?_ hb7)
        | (with_reducible refine CellsAt.stays ?_ hb5)))
      focus (repeat (first
        | (with_reducible refine CellsAt.set7 (c0 := .int .i64 0) (c1 := .int .u64 0) (c2 := .string ⟨#[]⟩) (c3 := .slice none 0 0) (c4 := .string ⟨#[]⟩) (c5 := .slice none 0 0) (c6 := .slice none 0 0) ?_)
        | (with_reducible refine CellsAt.other7 ?_ ?_; rotate_left; focus omega)
        | (with_reducible refine CellsAt.new' ?_; focus (first | (with_reducible rfl) | (simp; done)))
        | (with_reducible refine CellsAt.allocC ?_)
        | (with_reducible refine CellsAt.drew ?_)
        | (with_reducible refine CellsAt.stays ?_ hb7)
        | (with_reducible refine CellsAt.stays ?_ hb5)))
      focus (refine Rep.any (S := S5) ?_; repeat (first
        | (with_reducible exact hr5)
        | (with_reducible refine Rep.setC7 ?_ ?_; rotate_left; focus (intro k hk; have := hS5 k hk; (try simp at this); omega))
        | (with_reducible refine Rep.allocC ?_)
        | (with_reducible refine Rep.stays ?_ hb7)))
      focus (refine Rep.any (S := S7) ?_; repeat (first
        | (with_reducible exact hr7)
        | (with_reducible refine Rep.setC7 ?_ ?_; rotate_left; focus (intro k hk; have := hS7 k hk; (try simp at this); omega))
        | (with_reducible refine Rep.allocC ?_)
        | (with_reducible refine Rep.stays ?_ hb7)))
      focus (repeat (first
        | (with_reducible assumption)
        | (with_reducible refine below_set7 ?_ ?_ _ _ _ _ _ _ _; rotate_left; focus (first | exact Nat.le_refl _ | omega))
        | (with_reducible refine below_al ?_ _)
        | (with_reducible refine Below.drew ?_)
        | (with_reducible exact Below.refl _ _))))
  case rest =>
    obtain ⟨b5, b6, fa5, la5, pa5, fc5, lc5, pc5, fa6, la6, pa6, fc6, lc6, pc6, rfl, rfl, hc5, hc6, ⟨hr5, hr6⟩, hbc⟩ := hcut
    have hBW : Below W0.heap.size W0 wc := HB3.out.trans (hbc.mono HB3.out.size)
    have HS6 : Hid (∀ W, Below wc.heap.size wc W → W.cell? ⟨g, 0, none⟩ = some (.int .i64 k) ∧ W.cell? ⟨g, 1, none⟩ = some (.int .u64 (n : Int)) ∧ W.cell? ⟨g, 2, none⟩ = some (.string (strB t)) ∧ W.cell? ⟨g, 3, none⟩ = some (.slice fa fs.length fc) ∧ W.cell? ⟨g, 4, none⟩ = some (.string (strB r)) ∧ W.cell? ⟨g, 5, none⟩ = some (.slice la ls.length lc) ∧ W.cell? ⟨g, 6, none⟩ = some (.slice pa ps.length pc) ∧ W.cell? ⟨g + 1, 0, none⟩ = some (.int .i64 k2) ∧ W.cell? ⟨g + 1, 1, none⟩ = some (.int .u64 (n2 : Int)) ∧ W.cell? ⟨g + 1, 2, none⟩ = some (.string (strB t2)) ∧ W.cell? ⟨g + 1, 3, none⟩ = some (.slice fa2 fs2.length fc2) ∧ W.cell? ⟨g + 1, 4, none⟩ = some (.string (strB r2)) ∧ W.cell? ⟨g + 1, 5, none⟩ = some (.slice la2 ls2.length lc2) ∧ W.cell? ⟨g + 1, 6, none⟩ = some (.slice pa2 ps2.length pc2) ∧ W.cell? ⟨b5, 0, none⟩ = some (.int .i64 k) ∧ W.cell? ⟨b5, 1, none⟩ = some (.int .u64 (n : Int)) ∧ W.cell? ⟨b5, 2, none⟩ = some (.string (strB t)) ∧ W.cell? ⟨b5, 3, none⟩ = some (.slice fa5 fs.length fc5) ∧ W.cell? ⟨b5, 4, none⟩ = some (.string (strB r)) ∧ W.cell? ⟨b5, 5, none⟩ = some (.slice la5 ls.length lc5) ∧ W.cell? ⟨b5, 6, none⟩ = some (.slice pa5 ps.length pc5) ∧ W.cell? ⟨b6, 0, none⟩ = some (.int .i64 k2) ∧ W.cell? ⟨b6, 1, none⟩ = some (.int .u64 (n2 : Int)) ∧ W.cell? ⟨b6, 2, none⟩ = some (.string (strB t2)) ∧ W.cell? ⟨b6, 3, none⟩ = some (.slice fa6 fs2.length fc6) ∧ W.cell? ⟨b6, 4, none⟩ = some (.string (strB r2)) ∧ W.cell? ⟨b6, 5, none⟩ = some (.slice la6 ls2.length lc6) ∧ W.cell? ⟨b6, 6, none⟩ = some (.slice pa6 ps2.length pc6)) := fun W hb => by
      obtain ⟨-, a0, a1, a2, a3, a4, a5, a6, b0, b1, b2, b3, b4, b5, b6⟩ := HS.out W (hBW.trans (hb.mono hBW.size))
      obtain ⟨c0, c1, c2, c3, c4, c5, c6⟩ := box7 (hc5.stays hb)
      obtain ⟨d0, d1, d2, d3, d4, d5, d6⟩ := box7 (hc6.stays hb)
      exact ⟨a0, a1, a2, a3, a4, a5, a6, b0, b1, b2, b3, b4, b5, b6, c0, c1, c2, c3, c4, c5, c6, d0, d1, d2, d3, d4, d5, d6⟩
    have HAW : Hid (∀ W, Below wc.heap.size wc W → Rep (fun _ => True) W (.mk k n t fs r ls ps) ⟨fa, fc, la, lc, pa, pc⟩) := fun W hb => HA.out W (hBW.trans (hb.mono hBW.size))
    have HBW : Hid (∀ W, Below wc.heap.size wc W → Rep (fun _ => True) W (.mk k2 n2 t2 fs2 r2 ls2 ps2) ⟨fa2, fc2, la2, lc2, pa2, pc2⟩) := fun W hb => HB.out W (hBW.trans (hb.mono hBW.size))
    have HAR : Hid (∀ W, Below wc.heap.size wc W → Rep (fun _ => True) W (.mk k n t fs r ls ps) ⟨fa5, fc5, la5, lc5, pa5, pc5⟩) := fun W hb => hr5.stays hb
    have HBR : Hid (∀ W, Below wc.heap.size wc W → Rep (fun _ => True) W (.mk k2 n2 t2 fs2 r2 ls2 ps2) ⟨fa6, fc6, la6, lc6, pa6, pc6⟩) := fun W hb => hr6.stays hb
    have HFW : Hid (∀ W, Below wc.heap.size wc W → Below w.heap.size w W) := fun W hb => HF.out W (hBW.trans (hb.mono hBW.size))
    have H1 : Hid (∀ W, Below wc.heap.size wc W → Calls _ _ _ W _) := fun W hb => right_lit (HAW.out W hb)
    have H2 : Hid (∀ W, Below wc.heap.size wc W → Calls _ _ _ W _) := fun W hb => RRightC.lit (rright_any _) (HAR.out W hb) HWA.out
    have H3 : Hid (∀ W, Below wc.heap.size wc W → Calls _ _ _ W _) := fun W hb => size_lit (HAW.out W hb) HWA.out
    have H4 : Hid (∀ W, Below wc.heap.size wc W → Calls _ _ _ W _) := fun W hb => RSizeC.lit (rsize_any _) (HAR.out W hb) HWA.out
    have H5 : Hid (∀ W, Below wc.heap.size wc W → Calls _ _ _ W _) := fun W hb => depth_lit (HAW.out W hb) HWA.out
    have H6 : Hid (∀ W, Below wc.heap.size wc W → Calls _ _ _ W _) := fun W hb => RDepthC.lit (rdepth_any _) (HAR.out W hb) HWA.out
    have H7 : Hid (∀ W, Below wc.heap.size wc W → Calls _ _ _ W _) := fun W hb => compare_lit (HAW.out W hb) (HBW.out W hb)
    have H8 : Hid (∀ W, Below wc.heap.size wc W → Calls _ _ _ W _) := fun W hb => rcompare_lit (HAR.out W hb) (HBR.out W hb)
    have H9 : Hid (∀ W, Below wc.heap.size wc W → Calls _ _ _ W _) := fun W hb => same_lit (HAW.out W hb) (HBW.out W hb)
    have H10 : Hid (∀ W, Below wc.heap.size wc W → Calls _ _ _ W _) := fun W hb => rsame_lit (HAR.out W hb) (HBR.out W hb)
    generalize rightV (.mk k n t fs r ls ps) = R1 at H1 H2
    generalize sizeV (.mk k n t fs r ls ps) = S1 at H3 H4
    generalize depthV (.mk k n t fs r ls ps) = D1 at H5 H6
    generalize cmpV (.mk k n t fs r ls ps) (.mk k2 n2 t2 fs2 r2 ls2 ps2) = X at H7 H8 H9 H10
    generalize (X == 0) = E at H9 H10
    have q1 : (R1 == R1) = true := by simp
    have q2 : ((S1 : Int) == (S1 : Int)) = true := by simp
    have q3 : ((D1 : Int) == (D1 : Int)) = true := by simp
    have q4 : (X == X) = true := by simp
    have q5 : (E == E) = true := by simp
    have hd2 : Below wc.heap.size wc wc := Below.refl _ _
    have hd3 : Below wc.heap.size wc wc.drew := hd2.drew
    clear hc5 hc6 hr5 hr6 hbc hBW HOA HOB HS3 HS HA HB HF HAW HBW HAR HBR hd0 hd1 HWA HWB HB3 x0 x1 x2 x3 x4 x5 x6 y0 y1 y2 y3 y4 y5 y6
    go_upto_region 6 with fail
    refine wp_region_quiet_in (C := fun W => Below wc.heap.size wc W) (by kernel_rfl) (by kernel_rfl) hd3 ?_
    repeat
      (first
         | go_big_quiet_skip
         | (go_big_quiet_want
            refine quiet_intro ?_ (fun wq hwq => ?_) ?_
            rotate_left
            focus
              (obtain ⟨a0, a1, a2, a3, a4, a5, a6, b0, b1, b2, b3, b4, b5, b6, c0, c1, c2, c3, c4, c5, c6, d0, d1, d2, d3, d4, d5, d6⟩ := HS6.out _ hwq
               go_simp
               try first
                 | with_reducible rfl
                 | (exact hwq)
                 | (go_at_call 15; (with_reducible refine (H1.out _ hwq).mono ?_); rintro e wA ⟨rfl, hbA⟩; refine ⟨?_, hwq.trans (hbA.mono hwq.size)⟩; with_reducible rfl)
                 | (go_at_call 16; (with_reducible refine (H2.out _ hwq).mono ?_); rintro e wA ⟨rfl, hbA⟩; refine ⟨?_, hwq.trans (hbA.mono hwq.size)⟩; with_reducible rfl)
                 | (go_at_call 17; (with_reducible refine (H3.out _ hwq).mono ?_); rintro e wA ⟨rfl, hbA⟩; refine ⟨?_, hwq.trans (hbA.mono hwq.size)⟩; with_reducible rfl)
                 | (go_at_call 18; (with_reducible refine (H4.out _ hwq).mono ?_); rintro e wA ⟨rfl, hbA⟩; refine ⟨?_, hwq.trans (hbA.mono hwq.size)⟩; with_reducible rfl)
                 | (go_at_call 19; (with_reducible refine (H5.out _ hwq).mono ?_); rintro e wA ⟨rfl, hbA⟩; refine ⟨?_, hwq.trans (hbA.mono hwq.size)⟩; with_reducible rfl)
                 | (go_at_call 20; (with_reducible refine (H6.out _ hwq).mono ?_); rintro e wA ⟨rfl, hbA⟩; refine ⟨?_, hwq.trans (hbA.mono hwq.size)⟩; with_reducible rfl)
                 | (go_at_call 21; (with_reducible refine (H7.out _ hwq).mono ?_); rintro e wA ⟨rfl, hbA⟩; refine ⟨?_, hwq.trans (hbA.mono hwq.size)⟩; with_reducible rfl)
                 | (go_at_call 22; (with_reducible refine (H8.out _ hwq).mono ?_); rintro e wA ⟨rfl, hbA⟩; refine ⟨?_, hwq.trans (hbA.mono hwq.size)⟩; with_reducible rfl)
                 | (go_at_call 23; (with_reducible refine (H9.out _ hwq).mono ?_); rintro e wA ⟨rfl, hbA⟩; refine ⟨?_, hwq.trans (hbA.mono hwq.size)⟩; with_reducible rfl)
                 | (go_at_call 24; (with_reducible refine (H10.out _ hwq).mono ?_); rintro e wA ⟨rfl, hbA⟩; refine ⟨?_, hwq.trans (hbA.mono hwq.size)⟩; with_reducible rfl))
            go_simp
            go_big_quiet_on))
    refine wpQuiet_nil ?_
    intro w6 hb6
    have HFZ := Lib.hid (HFW.out w6 hb6)
    go_wp2_with fail
    go_ret
    exact ⟨rfl, HFZ.out⟩
end Go.Proofs.Ytcnjlbbckdmifaa
