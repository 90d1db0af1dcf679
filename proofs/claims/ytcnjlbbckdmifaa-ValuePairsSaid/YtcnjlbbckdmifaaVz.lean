/- The program's Find, Put. -/
import Derived.Test.YtcnjlbbckdmifaaVy
import Derived.Deep.CutRange
import Derived.Deep.DeepCutAuto
namespace Go.Proofs.Ytcnjlbbckdmifaa
open Go Go.RowKit
set_option linter.unusedVariables false
section
variable {k : Int} {n : Nat} {t r : List UInt8} {fs : List (Int × V)} {ls : List V} {ps : List (V × V)} {fa la pa : Option Addr} {fc lc pc : Nat} {S : Nat → Prop} {w : World}
variable {k2 : Int} {n2 : Nat} {t2 r2 : List UInt8} {fs2 : List (Int × V)} {ls2 : List V} {ps2 : List (V × V)} {fa2 la2 pa2 : Option Addr} {fc2 lc2 pc2 : Nat} {S2 : Nat → Prop}
variable {k9 : Int} {n9 : Nat} {t9 r9 : List UInt8} {fs9 : List (Int × V)} {ls9 : List V} {ps9 : List (V × V)} {fa9 la9 pa9 : Option Addr} {fc9 lc9 pc9 : Nat} {S9 : Nat → Prop}
set_option maxRecDepth 100000 in
set_option maxHeartbeats 4000000 in
theorem find_any (hr : Rep S w (.mk k n t fs r ls ps) ⟨fa, fc, la, lc, pa, pc⟩) (hr9 : Rep S9 w (.mk k9 n9 t9 fs9 r9 ls9 ps9) ⟨fa9, fc9, la9, lc9, pa9, pc9⟩) (hR : rightV (.mk k n t fs r ls ps) = true) (hlen : ps.length ≤ 1000000) :
    Calls Try.prog 31 #[.agg #[.int .i64 k, .int .u64 (n : Int), .string (strB t), .slice fa fs.length fc, .string (strB r), .slice la ls.length lc, .slice pa ps.length pc], .agg #[.int .i64 k9, .int .u64 (n9 : Int), .string (strB t9), .slice fa9 fs9.length fc9, .string (strB r9), .slice la9 ls9.length lc9, .slice pa9 ps9.length pc9]] w (ValP (findV (.mk k n t fs r ls ps) (.mk k9 n9 t9 fs9 r9 ls9 ps9)) w) := by
  have hri : Rises (pairC (.mk k9 n9 t9 fs9 r9 ls9 ps9)) ps := pairs_rise (last := none) ((rightV_iff _).1 hR).2.2.2 (.mk k9 n9 t9 fs9 r9 ls9 ps9)
  obtain ⟨W0, hW0⟩ : ∃ W0, W0 = ((w.alloc (.cells #[.int .i64 k, .int .u64 (n : Int), .string (strB t), .slice fa fs.length fc, .string (strB r), .slice la ls.length lc, .slice pa ps.length pc] 27)).alloc (.cells #[.int .i64 k9, .int .u64 (n9 : Int), .string (strB t9), .slice fa9 fs9.length fc9, .string (strB r9), .slice la9 ls9.length lc9, .slice pa9 ps9.length pc9] 27)).alloc (.cells #[.int .i64 0, .int .u64 0, .string ⟨#[]⟩, .slice none 0 0, .string ⟨#[]⟩, .slice none 0 0, .slice none 0 0] 27) := ⟨_, rfl⟩
  obtain ⟨g, hg⟩ : ∃ g, g = w.heap.size := ⟨_, rfl⟩
  have hBA : Below w.heap.size w W0 := by rw [hW0]; exact (((Below.refl _ _).alloc (Nat.le_refl _) _).alloc (by simp) _).alloc (by simp; omega) _
  have hcx : CellsAt W0 g 27 #[.int .i64 k, .int .u64 (n : Int), .string (strB t), .slice fa fs.length fc, .string (strB r), .slice la ls.length lc, .slice pa ps.length pc] := by rw [hW0, hg]; exact (CellsAt.new w _ _).stays (((Below.refl _ _).alloc (Nat.le_refl _) _).alloc (by simp) _)
  have hcz : CellsAt W0 (g + 1 + 1) 27 #[.int .i64 0, .int .u64 0, .string ⟨#[]⟩, .slice none 0 0, .string ⟨#[]⟩, .slice none 0 0, .slice none 0 0] := by
    have := CellsAt.new ((w.alloc (.cells #[.int .i64 k, .int .u64 (n : Int), .string (strB t), .slice fa fs.length fc, .string (strB r), .slice la ls.length lc, .slice pa ps.length pc] 27)).alloc (.cells #[.int .i64 k9, .int .u64 (n9 : Int), .string (strB t9), .slice fa9 fs9.length fc9, .string (strB r9), .slice la9 ls9.length lc9, .slice pa9 ps9.length pc9] 27)) #[.int .i64 0, .int .u64 0, .string ⟨#[]⟩, .slice none 0 0, .string ⟨#[]⟩, .slice none 0 0, .slice none 0 0] 27
    rw [show ((w.alloc (.cells #[.int .i64 k, .int .u64 (n : Int), .string (strB t), .slice fa fs.length fc, .string (strB r), .slice la ls.length lc, .slice pa ps.length pc] 27)).alloc (.cells #[.int .i64 k9, .int .u64 (n9 : Int), .string (strB t9), .slice fa9 fs9.length fc9, .string (strB r9), .slice la9 ls9.length lc9, .slice pa9 ps9.length pc9] 27)).heap.size = w.heap.size + 1 + 1 by simp] at this
    rw [hW0, hg]; exact this
  have HX : Hid (∀ W, Below W0.heap.size W0 W → CellsAt W g 27 #[.int .i64 k, .int .u64 (n : Int), .string (strB t), .slice fa fs.length fc, .string (strB r), .slice la ls.length lc, .slice pa ps.length pc] ∧ CellsAt W (g + 1 + 1) 27 #[.int .i64 0, .int .u64 0, .string ⟨#[]⟩, .slice none 0 0, .string ⟨#[]⟩, .slice none 0 0, .slice none 0 0] ∧ Below w.heap.size w W) := fun W hb => ⟨hcx.stays hb, hcz.stays hb, hBA.trans (hb.mono hBA.size)⟩
  have HP := Lib.hid (spot_any (hr.stays hBA) (hr9.stays hBA) hri hlen)
  have HR0 := Lib.hid hr
  have HRI := Lib.hid hri
  have HW := Lib.hid hW0
  have HG := Lib.hid hg
  clear hr hr9 hR hri hcx hcz hW0 hg hBA
  go_enter Try.func31, Try.ntmps31
  go_wp2_with fail
  have hW0 := HW.out
  rw [← hW0]
  clear hW0 HW
  refine HP.out.mono ?_
  rintro e w1 ⟨i, hi, rfl, hb⟩
  have hg := HG.out
  rw [← hg]
  clear hg
  obtain ⟨hcx, hcz, hbe⟩ := HX.out w1 hb
  have d0 := hcx.cell 0 (v := .int .i64 k) rfl
  have d6 := hcx.cell 6 (v := .slice pa ps.length pc) rfl
  have z0 := hcz.cell 0 (v := .int .i64 0) rfl
  have z1 := hcz.cell 1 (v := .int .u64 0) rfl
  have z2 := hcz.cell 2 (v := .string ⟨#[]⟩) rfl
  have z3 := hcz.cell 3 (v := .slice none 0 0) rfl
  have z4 := hcz.cell 4 (v := .string ⟨#[]⟩) rfl
  have z5 := hcz.cell 5 (v := .slice none 0 0) rfl
  have z6 := hcz.cell 6 (v := .slice none 0 0) rfl
  have f0 := hcz.free 0
  have f1 := hcz.free 1
  have f2 := hcz.free 2
  have f3 := hcz.free 3
  have f4 := hcz.free 4
  have f5 := hcz.free 5
  have f6 := hcz.free 6
  have hly := hcz.lt
  have HF := Lib.hid (findA_at (f := Prod.snd) (d := V.none) ps i HRI.out hi)
  have HBE := Lib.hid hbe
  clear hb HP HRI hbe hcx hcz HX
  by_cases hk : k = 5
  · cases hT : thereB (pairC (.mk k9 n9 t9 fs9 r9 ls9 ps9)) ps i with
    | false =>
      have HV : Hid (findV (.mk k n t fs r ls ps) (.mk k9 n9 t9 fs9 r9 ls9 ps9) = V.none) := by
        show (if k = 5 then findA (pairC (.mk k9 n9 t9 fs9 r9 ls9 ps9)) Prod.snd V.none ps else V.none) = _
        rw [if_pos hk, HF.out]
        unfold thereB at hT
        cases hq : ps[i]? with
        | none => rfl
        | some y => rw [hq] at hT; simp only at hT ⊢; rw [if_neg (by simpa using hT)]
      subst hk
      clear HF hT
      go_wp2_with fail
      refine bodyPost_ret (v := .agg #[.int .i64 0, .int .u64 0, .string ⟨#[]⟩, .slice none 0 0, .string ⟨#[]⟩, .slice none 0 0, .slice none 0 0]) (by simp [results, Try.results31, go_sem, z0, z1, z2, z3, z4, z5, z6]) rfl ?_
      rw [HV.out]
      have hgw := HG.out
      exact ⟨A3.nil, rfl, rep_none, below_set7 HBE.out (by omega) _ _ _ _ _ _ _⟩
    | true =>
      obtain ⟨⟨⟨k', n', t', fs', r', ls', ps'⟩, ⟨k3, n3, t3, fs3, r3, ls3, ps3⟩⟩, hq⟩ : ∃ p, ps[i]? = some p := by
        unfold thereB at hT
        cases hq : ps[i]? with
        | none => rw [hq] at hT; cases hT
        | some y => exact ⟨y, rfl⟩
      have HV : Hid (findV (.mk k n t fs r ls ps) (.mk k9 n9 t9 fs9 r9 ls9 ps9) = .mk k3 n3 t3 fs3 r3 ls3 ps3) := by
        show (if k = 5 then findA (pairC (.mk k9 n9 t9 fs9 r9 ls9 ps9)) Prod.snd V.none ps else V.none) = _
        rw [if_pos hk, HF.out]
        unfold thereB at hT
        rw [hq] at hT ⊢
        simp only at hT ⊢
        rw [if_pos (by simpa using hT)]
      have hil : i < ps.length := (List.getElem?_eq_some_iff.1 hq).1
      obtain ⟨b, o, fa', la', pa', fc', lc', pc', fa3, la3, pa3, fc3, lc3, pc3, rfl, hrx, hry, c0, c1, c2, c3, c4, c5, c6, c7, c8, c9, c10, c11, c12, c13⟩ := HR0.out.pairAt hq
      have hlt0 : b < w.heap.size := World.block_lt_of_cell? w _ c0
      have hlt : b < w1.heap.size := Nat.lt_of_lt_of_le hlt0 HBE.out.size
      replace c7 := later1 c7 hlt0 HBE.out
      replace c8 := later1 c8 hlt0 HBE.out
      replace c9 := later1 c9 hlt0 HBE.out
      replace c10 := later1 c10 hlt0 HBE.out
      replace c11 := later1 c11 hlt0 HBE.out
      replace c12 := later1 c12 hlt0 HBE.out
      replace c13 := later1 c13 hlt0 HBE.out
      clear c0 c1 c2 c3 c4 c5 c6
      have HRX := Lib.hid hry
      subst hk
      clear HF hT hq hrx hry
      go_wp2_with fail
      refine bodyPost_ret (v := .agg #[.int .i64 k3, .int .u64 (n3 : Int), .string (strB t3), .slice fa3 fs3.length fc3, .string (strB r3), .slice la3 ls3.length lc3, .slice pa3 ps3.length pc3]) (by simp [results, Try.results31, go_sem, z0, z1, z2, z3, z4, z5, z6]) rfl ?_
      rw [HV.out]
      have hgw := HG.out
      have hb7 := below_set7 HBE.out (show w.heap.size ≤ g + 1 + 1 by omega) (.int .i64 k3) (.int .u64 (n3 : Int)) (.string (strB t3)) (.slice fa3 fs3.length fc3) (.string (strB r3)) (.slice la3 ls3.length lc3) (.slice pa3 ps3.length pc3)
      exact ⟨⟨fa3, fc3, la3, lc3, pa3, pc3⟩, rfl, (HRX.out.stays hb7).any, hb7⟩
  · have g3 : (k != 5) = true := by simpa using hk
    have HV : Hid (findV (.mk k n t fs r ls ps) (.mk k9 n9 t9 fs9 r9 ls9 ps9) = V.none) := by show (if k = 5 then _ else V.none) = _; rw [if_neg hk]
    clear hk HF
    go_wp2_with fail
    refine bodyPost_ret (v := .agg #[.int .i64 0, .int .u64 0, .string ⟨#[]⟩, .slice none 0 0, .string ⟨#[]⟩, .slice none 0 0, .slice none 0 0]) (by simp [results, Try.results31, go_sem, z0, z1, z2, z3, z4, z5, z6]) rfl ?_
    rw [HV.out]
    have hgw := HG.out
    exact ⟨A3.nil, rfl, rep_none, below_set7 HBE.out (by omega) _ _ _ _ _ _ _⟩
set_option maxRecDepth 100000 in
set_option maxHeartbeats 8000000 in
theorem put_any (hr : Rep S w (.mk k n t fs r ls ps) ⟨fa, fc, la, lc, pa, pc⟩) (hr9 : Rep S9 w (.mk k9 n9 t9 fs9 r9 ls9 ps9) ⟨fa9, fc9, la9, lc9, pa9, pc9⟩) (hx : Rep S2 w (.mk k2 n2 t2 fs2 r2 ls2 ps2) ⟨fa2, fc2, la2, lc2, pa2, pc2⟩) (hR : rightV (.mk k n t fs r ls ps) = true) (hlen : ps.length ≤ 1000000) :
    Calls Try.prog 29 #[.agg #[.int .i64 k, .int .u64 (n : Int), .string (strB t), .slice fa fs.length fc, .string (strB r), .slice la ls.length lc, .slice pa ps.length pc], .agg #[.int .i64 k9, .int .u64 (n9 : Int), .string (strB t9), .slice fa9 fs9.length fc9, .string (strB r9), .slice la9 ls9.length lc9, .slice pa9 ps9.length pc9], .agg #[.int .i64 k2, .int .u64 (n2 : Int), .string (strB t2), .slice fa2 fs2.length fc2, .string (strB r2), .slice la2 ls2.length lc2, .slice pa2 ps2.length pc2]] w (ValP (putV (.mk k n t fs r ls ps) (.mk k9 n9 t9 fs9 r9 ls9 ps9) (.mk k2 n2 t2 fs2 r2 ls2 ps2)) w) := by
  have hri : Rises (pairC (.mk k9 n9 t9 fs9 r9 ls9 ps9)) ps := pairs_rise (last := none) ((rightV_iff _).1 hR).2.2.2 (.mk k9 n9 t9 fs9 r9 ls9 ps9)
  obtain ⟨W0, hW0⟩ : ∃ W0, W0 = (((w.alloc (.cells #[.int .i64 k, .int .u64 (n : Int), .string (strB t), .slice fa fs.length fc, .string (strB r), .slice la ls.length lc, .slice pa ps.length pc] 27)).alloc (.cells #[.int .i64 k9, .int .u64 (n9 : Int), .string (strB t9), .slice fa9 fs9.length fc9, .string (strB r9), .slice la9 ls9.length lc9, .slice pa9 ps9.length pc9] 27)).alloc (.cells #[.int .i64 k2, .int .u64 (n2 : Int), .string (strB t2), .slice fa2 fs2.length fc2, .string (strB r2), .slice la2 ls2.length lc2, .slice pa2 ps2.length pc2] 27)).alloc (.cells #[.int .i64 0, .int .u64 0, .string ⟨#[]⟩, .slice none 0 0, .string ⟨#[]⟩, .slice none 0 0, .slice none 0 0] 27) := ⟨_, rfl⟩
  obtain ⟨g, hg⟩ : ∃ g, g = w.heap.size := ⟨_, rfl⟩
  have hBA : Below w.heap.size w W0 := by rw [hW0]; exact ((((Below.refl _ _).alloc (Nat.le_refl _) _).alloc (by simp) _).alloc (by simp; omega) _).alloc (by simp; omega) _
  have hcx : CellsAt W0 g 27 #[.int .i64 k, .int .u64 (n : Int), .string (strB t), .slice fa fs.length fc, .string (strB r), .slice la ls.length lc, .slice pa ps.length pc] := by rw [hW0, hg]; exact (((CellsAt.new w _ _).allocC).allocC).allocC
  have hck : CellsAt W0 (g + 1) 27 #[.int .i64 k9, .int .u64 (n9 : Int), .string (strB t9), .slice fa9 fs9.length fc9, .string (strB r9), .slice la9 ls9.length lc9, .slice pa9 ps9.length pc9] := by rw [hW0, hg]; exact ((CellsAt.new' (by simp)).allocC).allocC
  have hcy : CellsAt W0 (g + 1 + 1) 27 #[.int .i64 k2, .int .u64 (n2 : Int), .string (strB t2), .slice fa2 fs2.length fc2, .string (strB r2), .slice la2 ls2.length lc2, .slice pa2 ps2.length pc2] := by rw [hW0, hg]; exact (CellsAt.new' (by simp)).allocC
  have hcz : CellsAt W0 (g + 1 + 1 + 1) 27 #[.int .i64 0, .int .u64 0, .string ⟨#[]⟩, .slice none 0 0, .string ⟨#[]⟩, .slice none 0 0, .slice none 0 0] := by rw [hW0, hg]; exact CellsAt.new' (by simp)
  have HX : Hid (∀ W, Below W0.heap.size W0 W → Below W0.heap.size W0 W ∧ W.cell? ⟨g, 0, none⟩ = some (.int .i64 k) ∧ W.cell? ⟨g, 1, none⟩ = some (.int .u64 (n : Int)) ∧ W.cell? ⟨g, 2, none⟩ = some (.string (strB t)) ∧ W.cell? ⟨g, 3, none⟩ = some (.slice fa fs.length fc) ∧ W.cell? ⟨g, 4, none⟩ = some (.string (strB r)) ∧ W.cell? ⟨g, 5, none⟩ = some (.slice la ls.length lc) ∧ W.cell? ⟨g, 6, none⟩ = some (.slice pa ps.length pc) ∧ W.cell? ⟨g + 1, 0, none⟩ = some (.int .i64 k9) ∧ W.cell? ⟨g + 1, 1, none⟩ = some (.int .u64 (n9 : Int)) ∧ W.cell? ⟨g + 1, 2, none⟩ = some (.string (strB t9)) ∧ W.cell? ⟨g + 1, 3, none⟩ = some (.slice fa9 fs9.length fc9) ∧ W.cell? ⟨g + 1, 4, none⟩ = some (.string (strB r9)) ∧ W.cell? ⟨g + 1, 5, none⟩ = some (.slice la9 ls9.length lc9) ∧ W.cell? ⟨g + 1, 6, none⟩ = some (.slice pa9 ps9.length pc9) ∧ W.cell? ⟨g + 1 + 1, 0, none⟩ = some (.int .i64 k2) ∧ W.cell? ⟨g + 1 + 1, 1, none⟩ = some (.int .u64 (n2 : Int)) ∧ W.cell? ⟨g + 1 + 1, 2, none⟩ = some (.string (strB t2)) ∧ W.cell? ⟨g + 1 + 1, 3, none⟩ = some (.slice fa2 fs2.length fc2) ∧ W.cell? ⟨g + 1 + 1, 4, none⟩ = some (.string (strB r2)) ∧ W.cell? ⟨g + 1 + 1, 5, none⟩ = some (.slice la2 ls2.length lc2) ∧ W.cell? ⟨g + 1 + 1, 6, none⟩ = some (.slice pa2 ps2.length pc2)) := fun W hb => by
    obtain ⟨a0, a1, a2, a3, a4, a5, a6⟩ := box7 (hcx.stays hb)
    obtain ⟨b0, b1, b2, b3, b4, b5, b6⟩ := box7 (hck.stays hb)
    obtain ⟨c0, c1, c2, c3, c4, c5, c6⟩ := box7 (hcy.stays hb)
    exact ⟨hb, a0, a1, a2, a3, a4, a5, a6, b0, b1, b2, b3, b4, b5, b6, c0, c1, c2, c3, c4, c5, c6⟩
  have HZ : Hid (∀ W, Below W0.heap.size W0 W → CellsAt W (g + 1 + 1 + 1) 27 #[.int .i64 0, .int .u64 0, .string ⟨#[]⟩, .slice none 0 0, .string ⟨#[]⟩, .slice none 0 0, .slice none 0 0] ∧ Below w.heap.size w W) := fun W hb => ⟨hcz.stays hb, hBA.trans (hb.mono hBA.size)⟩
  have HR0 := Lib.hid hr
  have HR9 := Lib.hid hr9
  have HR2 := Lib.hid hx
  have HW := Lib.hid hW0
  have HG := Lib.hid hg
  by_cases hk : k = 5 ∨ k = 0
  · have HP := Lib.hid (spot_any (hr.stays hBA) (hr9.stays hBA) hri hlen)
    have HRI := Lib.hid hri
    obtain ⟨pl, hps, hrow, hpl⟩ := hr.pairsRow
    have hlpl : pl.length = ps.length := by rw [hps, List.length_map]
    have HPS := Lib.hid hps
    have HPL := Lib.hid hpl
    have HROW := Lib.hid hrow
    have HKK := Lib.hid hk
    have hg9 : (k != 5) = false ∨ ((k != 5) = true ∧ (k != 0) = false) := by
      rcases hk with h | h
      · exact .inl (by simp [h])
      · exact .inr ⟨by simp [h], by simp [h]⟩
    have HG9 := Lib.hid hg9
    clear hr hr9 hx hR hri hcx hck hcy hcz hW0 hg hBA hps hrow hpl hk hg9
    go_enter Try.func29, Try.ntmps29
    go_upto_region 1 with fail
    have hW0 := HW.out
    have hg := HG.out
    rw [← hW0, ← hg]
    clear hW0 hg HW
    go_cut [17] from 10 to 17 (fun v wx => v = .bool false ∧ wx = W0)
    case first =>
      obtain ⟨-, a0, -⟩ := HX.out W0 (Below.refl _ _)
      rcases HG9.out with h | ⟨h, h'⟩
      · go_wp2_with fail
        go_meet
        exact ⟨rfl, rfl⟩
      · go_wp2_with fail
        go_meet
        exact ⟨rfl, rfl⟩
    case rest =>
    obtain ⟨rfl, hwc⟩ := hcut
    subst hwc
    obtain ⟨-, a0, a1, a2, a3, a4, a5, a6, b0, b1, b2, b3, b4, b5, b6, -⟩ := HX.out wc (Below.refl _ _)
    go_wp2_with fail
    refine HP.out.mono ?_
    rintro e w1 ⟨i, hi, rfl, hb1⟩
    have hil := hi.le
    have HPUT : Hid (∀ put : Bool, put = (k2 != 0) → putV (.mk k n t fs r ls ps) (.mk k9 n9 t9 fs9 r9 ls9 ps9) (.mk k2 n2 t2 fs2 r2 ls2 ps2) = mapV (splice ps i (if thereB (pairC (.mk k9 n9 t9 fs9 r9 ls9 ps9)) ps i then 1 else 0) put (.mk k9 n9 t9 fs9 r9 ls9 ps9, .mk k2 n2 t2 fs2 r2 ls2 ps2))) := fun put hp => by
      show (if k ≠ 5 ∧ k ≠ 0 then _ else mapV (putA (pairC (.mk k9 n9 t9 fs9 r9 ls9 ps9)) (.mk k9 n9 t9 fs9 r9 ls9 ps9, .mk k2 n2 t2 fs2 r2 ls2 ps2) ps (k2 == 0))) = _
      rw [if_neg (by have := HKK.out; omega)]
      have := putA_splice (x := (.mk k9 n9 t9 fs9 r9 ls9 ps9, .mk k2 n2 t2 fs2 r2 ls2 ps2)) ps i put HRI.out hi
      rw [← this, hp]
      unfold bne
      rw [Bool.not_not]
    have hmm : i + (if thereB (pairC (.mk k9 n9 t9 fs9 r9 ls9 ps9)) ps i then 1 else 0) ≤ ps.length := by
      split
      · rename_i hT
        unfold thereB at hT
        cases hq : ps[i]? with
        | none => rw [hq] at hT; cases hT
        | some y => have := (List.getElem?_eq_some_iff.1 hq).1; omega
      · omega
    have HSP : Hid (∀ (put : Bool) (W : World), Below wc.heap.size wc W → Calls Try.prog 76 #[.slice pa ps.length pc, .int .i64 (i : Int), .int .i64 (if thereB (pairC (.mk k9 n9 t9 fs9 r9 ls9 ps9)) ps i then 1 else 0), .bool put, .agg #[.int .i64 k9, .int .u64 (n9 : Int), .string (strB t9), .slice fa9 fs9.length fc9, .string (strB r9), .slice la9 ls9.length lc9, .slice pa9 ps9.length pc9, .int .i64 k2, .int .u64 (n2 : Int), .string (strB t2), .slice fa2 fs2.length fc2, .string (strB r2), .slice la2 ls2.length lc2, .slice pa2 ps2.length pc2]] W
        fun e w' => ∃ (a6 : Option Addr) (L c6 : Nat), e = .returned (.slice a6 L c6) ∧ Hid (OwnS 87 14 pC W.heap.size w' (.slice a6 L c6) (splice pl i (if thereB (pairC (.mk k9 n9 t9 fs9 r9 ls9 ps9)) ps i then 1 else 0) put ((.mk k9 n9 t9 fs9 r9 ls9 ps9, ⟨fa9, fc9, la9, lc9, pa9, pc9⟩), (.mk k2 n2 t2 fs2 r2 ls2 ps2, ⟨fa2, fc2, la2, lc2, pa2, pc2⟩)))) ∧ Below W.heap.size W w') := fun put W hb => by
      have hbW := (HZ.out W hb).2
      have := splicedP_any pa pc pl i (if thereB (pairC (.mk k9 n9 t9 fs9 r9 ls9 ps9)) ps i then 1 else 0) put k9 n9 t9 r9 fs9 ls9 ps9 fa9 la9 pa9 fc9 lc9 pc9 k2 n2 t2 r2 fs2 ls2 ps2 fa2 la2 pa2 fc2 lc2 pc2 W (by rw [hlpl]; exact HROW.out.stays hbW) (by omega) (by rw [hlpl]; exact hmm)
      rw [hlpl] at this
      rw [show (((if thereB (pairC (.mk k9 n9 t9 fs9 r9 ls9 ps9)) ps i = true then 1 else 0 : Nat)) : Int) = (if thereB (pairC (.mk k9 n9 t9 fs9 r9 ls9 ps9)) ps i = true then 1 else 0) by split <;> rfl] at this
      refine this.mono ?_
      rintro e w' ⟨v', rfl, ho, hb'⟩
      obtain ⟨a6, c6, rfl, -, -⟩ := ho.row.shape pC_len
      exact ⟨a6, _, c6, rfl, ho, hb'⟩
    generalize thereB (pairC (.mk k9 n9 t9 fs9 r9 ls9 ps9)) ps i = T at HPUT HSP
    generalize (if T = true then 1 else 0 : Nat) = M at HPUT HSP
    obtain ⟨M', hM'⟩ : ∃ M' : Int, M' = (if T = true then 1 else 0) := ⟨_, rfl⟩
    have HCNT : Hid (∀ W, Calls Try.prog 74 #[.bool T] W fun e w' => e = .returned (.int .i64 M') ∧ W = w') := fun W => by rw [hM']; exact count_any T W
    rw [← hM'] at HSP
    have hd1 : Below wc.heap.size wc w1 := hb1
    have hd2 : Below wc.heap.size wc w1.drew := hd1.drew
    clear hM' hi hb1 HP hmm a0 a1 a2 a3 a4 a5 a6 b0 b1 b2 b3 b4 b5 b6 hil
    obtain ⟨wy, hwy⟩ : ∃ wy, wy = wc := ⟨_, rfl⟩
    rw [← hwy] at HX HZ HSP hd1 hd2
    clear hwy
    go_upto_region 4 with fail
    go_cut [9] from 25 to 36 (fun v wx => ∃ (a6 : Option Addr) (L6 c6 : Nat), v = .slice a6 L6 c6 ∧ Hid (∃ wb, wy.heap.size ≤ wb ∧ OwnS 87 14 pC wb wx (.slice a6 L6 c6) (splice pl i M (k2 != 0) ((.mk k9 n9 t9 fs9 r9 ls9 ps9, ⟨fa9, fc9, la9, lc9, pa9, pc9⟩), (.mk k2 n2 t2 fs2 r2 ls2 ps2, ⟨fa2, fc2, la2, lc2, pa2, pc2⟩)))) ∧ Below wy.heap.size wy wx)
    case first =>
      go_region_held3 (fun W => Below wy.heap.size wy W ∧ W.cell? ⟨g, 0, none⟩ = some (.int .i64 k) ∧ W.cell? ⟨g, 1, none⟩ = some (.int .u64 (n : Int)) ∧ W.cell? ⟨g, 2, none⟩ = some (.string (strB t)) ∧ W.cell? ⟨g, 3, none⟩ = some (.slice fa fs.length fc) ∧ W.cell? ⟨g, 4, none⟩ = some (.string (strB r)) ∧ W.cell? ⟨g, 5, none⟩ = some (.slice la ls.length lc) ∧ W.cell? ⟨g, 6, none⟩ = some (.slice pa ps.length pc) ∧ W.cell? ⟨g + 1, 0, none⟩ = some (.int .i64 k9) ∧ W.cell? ⟨g + 1, 1, none⟩ = some (.int .u64 (n9 : Int)) ∧ W.cell? ⟨g + 1, 2, none⟩ = some (.string (strB t9)) ∧ W.cell? ⟨g + 1, 3, none⟩ = some (.slice fa9 fs9.length fc9) ∧ W.cell? ⟨g + 1, 4, none⟩ = some (.string (strB r9)) ∧ W.cell? ⟨g + 1, 5, none⟩ = some (.slice la9 ls9.length lc9) ∧ W.cell? ⟨g + 1, 6, none⟩ = some (.slice pa9 ps9.length pc9) ∧ W.cell? ⟨g + 1 + 1, 0, none⟩ = some (.int .i64 k2) ∧ W.cell? ⟨g + 1 + 1, 1, none⟩ = some (.int .u64 (n2 : Int)) ∧ W.cell? ⟨g + 1 + 1, 2, none⟩ = some (.string (strB t2)) ∧ W.cell? ⟨g + 1 + 1, 3, none⟩ = some (.slice fa2 fs2.length fc2) ∧ W.cell? ⟨g + 1 + 1, 4, none⟩ = some (.string (strB r2)) ∧ W.cell? ⟨g + 1 + 1, 5, none⟩ = some (.slice la2 ls2.length lc2) ∧ W.cell? ⟨g + 1 + 1, 6, none⟩ = some (.slice pa2 ps2.length pc2))
        (exact HX.out _ (by assumption))
        ((first
          | (go_at_call 74; (with_reducible refine (HCNT.out _).mono ?_); rintro e w5 ⟨rfl, rfl⟩)
          | (go_at_call 76; (with_reducible refine (HSP.out _ _ (by assumption)).mono ?_); rintro e w6 ⟨a6, L6, c6, rfl, HO6, hb6⟩; have hb7 := below_call hb6 hd2)))
      all_goals (try (rename_i hHH; clear hHH))
      all_goals have HOB : Hid (∃ wb, wy.heap.size ≤ wb ∧ OwnS 87 14 pC wb w6 (.slice a6 L6 c6) (splice pl i M (k2 != 0) ((.mk k9 n9 t9 fs9 r9 ls9 ps9, ⟨fa9, fc9, la9, lc9, pa9, pc9⟩), (.mk k2 n2 t2 fs2 r2 ls2 ps2, ⟨fa2, fc2, la2, lc2, pa2, pc2⟩)))) := ⟨_, hd2.size, HO6.out⟩
      all_goals have HB7 := Lib.hid hb7
      all_goals clear HO6 hb6 hb7
      all_goals go_wp2_with fail
      all_goals go_meet
      all_goals exact ⟨a6, L6, c6, rfl, HOB, HB7.out⟩
    case rest =>
      obtain ⟨a6, L6, c6, rfl, HO6, hb6⟩ := hcut
      obtain ⟨hcz, hbe⟩ := HZ.out wc hb6
      have z0 := hcz.cell 0 (v := .int .i64 0) rfl
      have z1 := hcz.cell 1 (v := .int .u64 0) rfl
      have z2 := hcz.cell 2 (v := .string ⟨#[]⟩) rfl
      have z3 := hcz.cell 3 (v := .slice none 0 0) rfl
      have z4 := hcz.cell 4 (v := .string ⟨#[]⟩) rfl
      have z5 := hcz.cell 5 (v := .slice none 0 0) rfl
      have z6 := hcz.cell 6 (v := .slice none 0 0) rfl
      have f0 := hcz.free 0
      have f1 := hcz.free 1
      have f2 := hcz.free 2
      have f3 := hcz.free 3
      have f4 := hcz.free 4
      have f5 := hcz.free 5
      have f6 := hcz.free 6
      have hly := hcz.lt
      have HBE := Lib.hid hbe
      have HL : Hid (L6 = (splice ps i M (k2 != 0) (.mk k9 n9 t9 fs9 r9 ls9 ps9, .mk k2 n2 t2 fs2 r2 ls2 ps2)).length) := by
        obtain ⟨wb, -, ho⟩ := HO6.out
        obtain ⟨a7, c7, hv, -, -⟩ := ho.row.shape pC_len
        simp only [Value.slice.injEq] at hv
        show _ = _
        rw [hv.2.1, HPS.out, ← List.length_map (f := pE), splice_map]
        rfl
      have HLT : Hid (g + 1 + 1 + 1 < wy.heap.size) := (HZ.out wy (Below.refl _ _)).1.lt
      clear hb6 hbe hcz HX HZ HSP HCNT hd1 hd2 HROW
      by_cases hL : L6 = 0
      · have HE : Hid (putV (.mk k n t fs r ls ps) (.mk k9 n9 t9 fs9 r9 ls9 ps9) (.mk k2 n2 t2 fs2 r2 ls2 ps2) = V.none) := by
          rw [HPUT.out _ rfl]
          have : splice ps i M (k2 != 0) (.mk k9 n9 t9 fs9 r9 ls9 ps9, .mk k2 n2 t2 fs2 r2 ls2 ps2) = [] := List.length_eq_zero_iff.1 (by rw [← HL.out, hL])
          rw [this]; rfl
        subst hL
        go_wp2_with fail
        refine bodyPost_ret (v := .agg #[.int .i64 0, .int .u64 0, .string ⟨#[]⟩, .slice none 0 0, .string ⟨#[]⟩, .slice none 0 0, .slice none 0 0]) (by simp [results, Try.results29, go_sem, z0, z1, z2, z3, z4, z5, z6]) rfl ?_
        rw [HE.out]
        have hgw := HG.out
        exact ⟨A3.nil, rfl, rep_none, below_set7 HBE.out (by omega) _ _ _ _ _ _ _⟩
      · have hL' : ((L6 : Int) == 0) = false := by simpa using hL
        have HE : Hid (putV (.mk k n t fs r ls ps) (.mk k9 n9 t9 fs9 r9 ls9 ps9) (.mk k2 n2 t2 fs2 r2 ls2 ps2) = .mk 5 0 [] [] [] [] (splice ps i M (k2 != 0) (.mk k9 n9 t9 fs9 r9 ls9 ps9, .mk k2 n2 t2 fs2 r2 ls2 ps2))) := by
          rw [HPUT.out _ rfl]
          unfold mapV
          rw [if_neg (by intro h; have := HL.out; rw [List.isEmpty_iff] at h; rw [h] at this; exact hL this)]
          exact rfl
        clear hL
        go_wp2_with fail
        refine bodyPost_ret (v := .agg #[.int .i64 5, .int .u64 0, .string ⟨#[]⟩, .slice none 0 0, .string ⟨#[]⟩, .slice none 0 0, .slice a6 L6 c6]) (by simp [results, Try.results29, go_sem, z0, z1, z2, z3, z4, z5, z6]) rfl ?_
        rw [HE.out]
        have hgw := HG.out
        have hb7 := below_set7 HBE.out (show w.heap.size ≤ g + 1 + 1 + 1 by omega) (.int .i64 5) (.int .u64 0) (.string ⟨#[]⟩) (.slice none 0 0) (.string ⟨#[]⟩) (.slice none 0 0) (.slice a6 L6 c6)
        have hg7 := grew_set7 (g := g + 1 + 1 + 1) (Grew.refl [g + 1 + 1 + 1] wc) (by simp) (.int .i64 5) (.int .u64 0) (.string ⟨#[]⟩) (.slice none 0 0) (.string ⟨#[]⟩) (.slice none 0 0) (.slice a6 L6 c6)
        obtain ⟨wb, hwb, ho⟩ := HO6.out
        have hlt := HLT.out
        have hmap : (splice pl i M (k2 != 0) ((.mk k9 n9 t9 fs9 r9 ls9 ps9, ⟨fa9, fc9, la9, lc9, pa9, pc9⟩), (.mk k2 n2 t2 fs2 r2 ls2 ps2, ⟨fa2, fc2, la2, lc2, pa2, pc2⟩))).map pE = splice ps i M (k2 != 0) (.mk k9 n9 t9 fs9 r9 ls9 ps9, .mk k2 n2 t2 fs2 r2 ls2 ps2) := by rw [splice_map, HPS.out]; rfl
        have hLL : L6 = (splice pl i M (k2 != 0) ((.mk k9 n9 t9 fs9 r9 ls9 ps9, ⟨fa9, fc9, la9, lc9, pa9, pc9⟩), (.mk k2 n2 t2 fs2 r2 ls2 ps2, ⟨fa2, fc2, la2, lc2, pa2, pc2⟩))).length := by rw [HL.out, ← hmap, List.length_map]
        rw [hLL] at ho hg7 hb7 ⊢
        have hrow := ho.row.grew hg7 (fun _ k hk => by have := (ho.lt _ hk).1; simp only [List.mem_singleton]; omega)
        rw [← hmap]
        have hall : ∀ p ∈ splice pl i M (k2 != 0) ((.mk k9 n9 t9 fs9 r9 ls9 ps9, ⟨fa9, fc9, la9, lc9, pa9, pc9⟩), (.mk k2 n2 t2 fs2 r2 ls2 ps2, ⟨fa2, fc2, la2, lc2, pa2, pc2⟩)), Rep S w p.1.1 p.1.2 ∧ Rep S w p.2.1 p.2.2 ∨ Rep S9 w p.1.1 p.1.2 ∧ Rep S2 w p.2.1 p.2.2 := fun p hp => by
          unfold splice at hp
          rcases List.mem_append.1 hp with hp | hp
          · rcases List.mem_append.1 hp with hp | hp
            · exact .inl (HPL.out p (List.mem_of_mem_take hp))
            · cases hkb : (k2 != 0) with
              | true =>
                rw [hkb] at hp
                obtain rfl : p = ((.mk k9 n9 t9 fs9 r9 ls9 ps9, ⟨fa9, fc9, la9, lc9, pa9, pc9⟩), (.mk k2 n2 t2 fs2 r2 ls2 ps2, ⟨fa2, fc2, la2, lc2, pa2, pc2⟩)) := by simpa using hp
                exact .inr ⟨HR9.out, HR2.out⟩
              | false => rw [hkb] at hp; simp at hp
          · exact .inl (HPL.out p (List.mem_of_mem_drop hp))
        generalize splice pl i M (k2 != 0) ((.mk k9 n9 t9 fs9 r9 ls9 ps9, ⟨fa9, fc9, la9, lc9, pa9, pc9⟩), (.mk k2 n2 t2 fs2 r2 ls2 ps2, ⟨fa2, fc2, la2, lc2, pa2, pc2⟩)) = pl' at *
        have hrep := Rep.newPairs (S' := fun _ => True) pl' a6 c6 hrow (fun _ _ => trivial) (fun p hp => by
          rcases hall p hp with ⟨h1, h2⟩ | ⟨h1, h2⟩
          · exact ⟨(h1.stays hb7).any, (h2.stays hb7).any⟩
          · exact ⟨(h1.stays hb7).any, (h2.stays hb7).any⟩)
        exact ⟨⟨none, 0, none, 0, a6, c6⟩, by rw [vG_lit, List.length_map, strB_nil]; rfl, hrep, hb7⟩
  · have HV : Hid (putV (.mk k n t fs r ls ps) (.mk k9 n9 t9 fs9 r9 ls9 ps9) (.mk k2 n2 t2 fs2 r2 ls2 ps2) = .mk k n t fs r ls ps) := by show (if k ≠ 5 ∧ k ≠ 0 then _ else _) = _; rw [if_pos (by omega)]
    have g5 : (k != 5) = true := by simp; omega
    have g0 : (k != 0) = true := by simp; omega
    clear hr hr9 hx hR hri hcx hck hcy hcz hW0 hg hBA hk HX HZ
    go_enter Try.func29, Try.ntmps29
    go_wp2_with fail
    refine bodyPost_ret (v := .agg #[.int .i64 k, .int .u64 (n : Int), .string (strB t), .slice fa fs.length fc, .string (strB r), .slice la ls.length lc, .slice pa ps.length pc]) (by simp [results, Try.results29, go_sem]) rfl ?_
    rw [HV.out]
    have hb3 : Below w.heap.size w ((((w.alloc (.cells #[.int .i64 k, .int .u64 (n : Int), .string (strB t), .slice fa fs.length fc, .string (strB r), .slice la ls.length lc, .slice pa ps.length pc] 27)).alloc (.cells #[.int .i64 k9, .int .u64 (n9 : Int), .string (strB t9), .slice fa9 fs9.length fc9, .string (strB r9), .slice la9 ls9.length lc9, .slice pa9 ps9.length pc9] 27)).alloc (.cells #[.int .i64 k2, .int .u64 (n2 : Int), .string (strB t2), .slice fa2 fs2.length fc2, .string (strB r2), .slice la2 ls2.length lc2, .slice pa2 ps2.length pc2] 27)).alloc (.cells #[.int .i64 k, .int .u64 (n : Int), .string (strB t), .slice fa fs.length fc, .string (strB r), .slice la ls.length lc, .slice pa ps.length pc] 27)) := ((((Below.refl _ _).alloc (Nat.le_refl _) _).alloc (by simp) _).alloc (by simp; omega) _).alloc (by simp; omega) _
    exact ⟨⟨fa, fc, la, lc, pa, pc⟩, rfl, (HR0.out.stays hb3).any, hb3⟩
end
end Go.Proofs.Ytcnjlbbckdmifaa
