/- The program's Find, Put. -/
import Derived.Test.YtcjflglpkpkflaaGreatDoorVy
import Derived.Deep.CutRange
import Derived.Deep.DeepCutAuto
namespace Go.Proofs.YtcjflglpkpkflaaGreatDoor
open Go Go.RowKit
set_option linter.unusedVariables false
section
variable {k : Int} {n : Nat} {t r : List UInt8} {fs : List (Int × V)} {ls : List V} {ps : List (V × V)} {fa la pa : Option Addr} {fc lc pc : Nat} {S : Nat → Prop} {w : World}
variable {k2 : Int} {n2 : Nat} {t2 r2 : List UInt8} {fs2 : List (Int × V)} {ls2 : List V} {ps2 : List (V × V)} {fa2 la2 pa2 : Option Addr} {fc2 lc2 pc2 : Nat} {S2 : Nat → Prop}
variable {k9 : Int} {n9 : Nat} {t9 r9 : List UInt8} {fs9 : List (Int × V)} {ls9 : List V} {ps9 : List (V × V)} {fa9 la9 pa9 : Option Addr} {fc9 lc9 pc9 : Nat} {S9 : Nat → Prop}
set_option maxRecDepth 100000 in
set_option maxHeartbeats 4000000 in
theorem find_any (hr : Rep S w (.mk k n t fs r ls ps) ⟨fa, fc, la, lc, pa, pc⟩) (hr9 : Rep S9 w (.mk k9 n9 t9 fs9 r9 ls9 ps9) ⟨fa9, fc9, la9, lc9, pa9, pc9⟩) (hR : rightV (.mk k n t fs r ls ps) = true) (hlen : ps.length ≤ 1000000) :
    Calls Tryz.prog 61 #[.agg #[.int .i64 k, .int .u64 (n : Int), .string (strB t), .slice fa fs.length fc, .string (strB r), .slice la ls.length lc, .slice pa ps.length pc], .agg #[.int .i64 k9, .int .u64 (n9 : Int), .string (strB t9), .slice fa9 fs9.length fc9, .string (strB r9), .slice la9 ls9.length lc9, .slice pa9 ps9.length pc9]] w (ValP (findV (.mk k n t fs r ls ps) (.mk k9 n9 t9 fs9 r9 ls9 ps9)) w) := by
  have hri : Rises (pairC (.mk k9 n9 t9 fs9 r9 ls9 ps9)) ps := pairs_rise (last := none) ((rightV_iff _).1 hR).2.2.2 (.mk k9 n9 t9 fs9 r9 ls9 ps9)
  obtain ⟨W0, hW0⟩ : ∃ W0, W0 = ((w.alloc (.cells #[.int .i64 k, .int .u64 (n : Int), .string (strB t), .slice fa fs.length fc, .string (strB r), .slice la ls.length lc, .slice pa ps.length pc] 38)).alloc (.cells #[.int .i64 k9, .int .u64 (n9 : Int), .string (strB t9), .slice fa9 fs9.length fc9, .string (strB r9), .slice la9 ls9.length lc9, .slice pa9 ps9.length pc9] 38)).alloc (.cells #[.int .i64 0, .int .u64 0, .string ⟨#[]⟩, .slice none 0 0, .string ⟨#[]⟩, .slice none 0 0, .slice none 0 0] 38) := ⟨_, rfl⟩
  obtain ⟨g, hg⟩ : ∃ g, g = w.heap.size := ⟨_, rfl⟩
  have hBA : Below w.heap.size w W0 := by rw [hW0]; exact (((Below.refl _ _).alloc (Nat.le_refl _) _).alloc (by simp) _).alloc (by simp; omega) _
  have hcx : CellsAt W0 g 38 #[.int .i64 k, .int .u64 (n : Int), .string (strB t), .slice fa fs.length fc, .string (strB r), .slice la ls.length lc, .slice pa ps.length pc] := by rw [hW0, hg]; exact (CellsAt.new w _ _).stays (((Below.refl _ _).alloc (Nat.le_refl _) _).alloc (by simp) _)
  have hcz : CellsAt W0 (g + 1 + 1) 38 #[.int .i64 0, .int .u64 0, .string ⟨#[]⟩, .slice none 0 0, .string ⟨#[]⟩, .slice none 0 0, .slice none 0 0] := by
    have := CellsAt.new ((w.alloc (.cells #[.int .i64 k, .int .u64 (n : Int), .string (strB t), .slice fa fs.length fc, .string (strB r), .slice la ls.length lc, .slice pa ps.length pc] 38)).alloc (.cells #[.int .i64 k9, .int .u64 (n9 : Int), .string (strB t9), .slice fa9 fs9.length fc9, .string (strB r9), .slice la9 ls9.length lc9, .slice pa9 ps9.length pc9] 38)) #[.int .i64 0, .int .u64 0, .string ⟨#[]⟩, .slice none 0 0, .string ⟨#[]⟩, .slice none 0 0, .slice none 0 0] 38
    rw [show ((w.alloc (.cells #[.int .i64 k, .int .u64 (n : Int), .string (strB t), .slice fa fs.length fc, .string (strB r), .slice la ls.length lc, .slice pa ps.length pc] 38)).alloc (.cells #[.int .i64 k9, .int .u64 (n9 : Int), .string (strB t9), .slice fa9 fs9.length fc9, .string (strB r9), .slice la9 ls9.length lc9, .slice pa9 ps9.length pc9] 38)).heap.size = w.heap.size + 1 + 1 by simp] at this
    rw [hW0, hg]; exact this
  have HX : Hid (∀ W, Below W0.heap.size W0 W → CellsAt W g 38 #[.int .i64 k, .int .u64 (n : Int), .string (strB t), .slice fa fs.length fc, .string (strB r), .slice la ls.length lc, .slice pa ps.length pc] ∧ CellsAt W (g + 1 + 1) 38 #[.int .i64 0, .int .u64 0, .string ⟨#[]⟩, .slice none 0 0, .string ⟨#[]⟩, .slice none 0 0, .slice none 0 0] ∧ Below w.heap.size w W) := fun W hb => ⟨hcx.stays hb, hcz.stays hb, hBA.trans (hb.mono hBA.size)⟩
  have HP := Lib.hid (spot_any (hr.stays hBA) (hr9.stays hBA) hri hlen)
  have HR0 := Lib.hid hr
  have HRI := Lib.hid hri
  have HW := Lib.hid hW0
  have HG := Lib.hid hg
  clear hr hr9 hR hri hcx hcz hW0 hg hBA
  go_enter Tryz.func61, Tryz.ntmps61
  go_wp2_with fail
  have hW0 := HW.out
  rw [← hW0]
  clear hW0 HW
  refine HP.out.mono ?_
  rintro e w1 ⟨i, hi, rfl, hb⟩
  have hg := HG.out
  rw [← hg]
  clear hg
  obtain ⟨hcx, hcz, hbe⟩ := HX.out w1 hb
  have d0 := hcx.cell 0 (v := .int .i64 k) rfl
  have d6 := hcx.cell 6 (v := .slice pa ps.length pc) rfl
  have z0 := hcz.cell 0 (v := .int .i64 0) rfl
  have z1 := hcz.cell 1 (v := .int .u64 0) rfl
  have z2 := hcz.cell 2 (v := .string ⟨#[]⟩) rfl
  have z3 := hcz.cell 3 (v := .slice none 0 0) rfl
  have z4 := hcz.cell 4 (v := .string ⟨#[]⟩) rfl
  have z5 := hcz.cell 5 (v := .slice none 0 0) rfl
  have z6 := hcz.cell 6 (v := .slice none 0 0) rfl
  have f0 := hcz.free 0
  have f1 := hcz.free 1
  have f2 := hcz.free 2
  have f3 := hcz.free 3
  have f4 := hcz.free 4
  have f5 := hcz.free 5
  have f6 := hcz.free 6
  have hly := hcz.lt
  have HF := Lib.hid (findA_at (f := Prod.snd) (d := V.none) ps i HRI.out hi)
  have HBE := Lib.hid hbe
  clear hb HP HRI hbe hcx hcz HX
  by_cases hk : k = 5
  · cases hT : thereB (pairC (.mk k9 n9 t9 fs9 r9 ls9 ps9)) ps i with
    | false =>
      have HV : Hid (findV (.mk k n t fs r ls ps) (.mk k9 n9 t9 fs9 r9 ls9 ps9) = V.none) := by
        show (if k = 5 then findA (pairC (.mk k9 n9 t9 fs9 r9 ls9 ps9)) Prod.snd V.none ps else V.none) = _
        rw [if_pos hk, HF.out]
        unfold thereB at hT
        cases hq : ps[i]? with
        | none => rfl
        | some y => rw [hq] at hT; simp only at hT ⊢; rw [if_neg (by simpa using hT)]
      subst hk
      clear HF hT
      go_wp2_with fail
      refine bodyPost_ret (v := .agg #[.int .i64 0, .int .u64 0, .string ⟨#[]⟩, .slice none 0 0, .string ⟨#[]⟩, .slice none 0 0, .slice none 0 0]) (by simp [results, Tryz.results61, go_sem, z0, z1, z2, z3, z4, z5, z6]) rfl ?_
      rw [HV.out]
      have hgw := HG.out
      exact ⟨A3.nil, rfl, rep_none, below_set7 HBE.out (by omega) _ _ _ _ _ _ _⟩
    | true =>
      obtain ⟨⟨⟨k', n', t', fs', r', ls', ps'⟩, ⟨k3, n3, t3, fs3, r3, ls3, ps3⟩⟩, hq⟩ : ∃ p, ps[i]? = some p := by
        unfold thereB at hT
        cases hq : ps[i]? with
        | none => rw [hq] at hT; cases hT
        | some y => exact ⟨y, rfl⟩
      have HV : Hid (findV (.mk k n t fs r ls ps) (.mk k9 n9 t9 fs9 r9 ls9 ps9) = .mk k3 n3 t3 fs3 r3 ls3 ps3) := by
        show (if k = 5 then findA (pairC (.mk k9 n9 t9 fs9 r9 ls9 ps9)) Prod.snd V.none ps else V.none) = _
        rw [if_pos hk, HF.out]
        unfold thereB at hT
        rw [hq] at hT ⊢
        simp only at hT ⊢
        rw [if_pos (by simpa using hT)]
      have hil : i < ps.length := (List.getElem?_eq_some_iff.1 hq).1
      obtain ⟨b, o, fa', la', pa', fc', lc', pc', fa3, la3, pa3, fc3, lc3, pc3, rfl, hrx, hry, c0, c1, c2, c3, c4, c5, c6, c7, c8, c9, c10, c11, c12, c13⟩ := HR0.out.pairAt hq
      have hlt0 : b < w.heap.size := World.block_lt_of_cell? w _ c0
      have hlt : b < w1.heap.size := Nat.lt_of_lt_of_le hlt0 HBE.out.size
      replace c7 := later1 c7 hlt0 HBE.out
      replace c8 := later1 c8 hlt0 HBE.out
      replace c9 := later1 c9 hlt0 HBE.out
      replace c10 := later1 c10 hlt0 HBE.out
      replace c11 := later1 c11 hlt0 HBE.out
      replace c12 := later1 c12 hlt0 HBE.out
      replace c13 := later1 c13 hlt0 HBE.out
      clear c0 c1 c2 c3 c4 c5 c6
      have HRX := Lib.hid hry
      subst hk
      clear HF hT hq hrx hry
      go_wp2_with fail
      refine bodyPost_ret (v := .agg #[.int .i64 k3, .int .u64 (n3 : Int), .string (strB t3), .slice fa3 fs3.length fc3, .string (strB r3), .slice la3 ls3.length lc3, .slice pa3 ps3.length pc3]) (by simp [results, Tryz.results61, go_sem, z0, z1, z2, z3, z4, z5, z6]) rfl ?_
      rw [HV.out]
      have hgw := HG.out
      have hb7 := below_set7 HBE.out (show w.heap.size ≤ g + 1 + 1 by omega) (.int .i64 k3) (.int .u64 (n3 : Int)) (.string (strB t3)) (.slice fa3 fs3.length fc3) (.string (strB r3)) (.slice la3 ls3.length lc3) (.slice pa3 ps3.length pc3)
      exact ⟨⟨fa3, fc3, la3, lc3, pa3, pc3⟩, rfl, (HRX.out.stays hb7).any, hb7⟩
  · have g3 : (k != 5) = true := by simpa using hk
    have HV : Hid (findV (.mk k n t fs r ls ps) (.mk k9 n9 t9 fs9 r9 ls9 ps9) = V.none) := by show (if k = 5 then _ else V.none) = _; rw [if_neg hk]
    clear hk HF
    go_wp2_with fail
    refine bodyPost_ret (v := .agg #[.int .i64 0, .int .u64 0, .string ⟨#[]⟩, .slice none 0 0, .string ⟨#[]⟩, .slice none 0 0, .slice none 0 0]) (by simp [results, Tryz.results61, go_sem, z0, z1, z2, z3, z4, z5, z6]) rfl ?_
    rw [HV.out]
    have hgw := HG.out
    exact ⟨A3.nil, rfl, rep_none, below_set7 HBE.out (by omega) _ _ _ _ _ _ _⟩
end
end Go.Proofs.YtcjflglpkpkflaaGreatDoor
