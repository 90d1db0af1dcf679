/- The walk of DigestValues: the text of every value, and the kinds' words. No condition beyond those of the statement. -/
import Derived.Test.YtcjflglpkpkflaaDoorDgL
import Derived.Test.YtcjflglpkpkflaaDoorDgS
import Derived.Test.YtcjflglpkpkflaaDoorVp
import Derived.Test.YtcjflglpkpkflaaDoorVf
import Derived.Test.YtcjflglpkpkflaaDoorOpenS
import Derived.Test.YtcjflglpkpkflaaDoorOpenV
namespace Go.Proofs.YtcjflglpkpkflaaDoor
open Go Go.RowKit
set_option linter.unusedVariables false
theorem boxD {w : World} {g : Nat} {T : TypeId} {k : Int} {n : Nat} {t r : List UInt8} {fs : List (Int × V)} {ls : List V} {ps : List (V × V)} {fa la pa : Option Addr} {fc lc pc : Nat} (h : CellsAt w g T #[.int .i64 k, .int .u64 (n : Int), .string (strB t), .slice fa fs.length fc, .string (strB r), .slice la ls.length lc, .slice pa ps.length pc]) : w.cell? ⟨g, 0, none⟩ = some (.int .i64 k) ∧ w.cell? ⟨g, 1, none⟩ = some (.int .u64 (n : Int)) ∧ w.cell? ⟨g, 2, none⟩ = some (.string (strB t)) ∧ w.cell? ⟨g, 3, none⟩ = some (.slice fa fs.length fc) ∧ w.cell? ⟨g, 4, none⟩ = some (.string (strB r)) ∧ w.cell? ⟨g, 5, none⟩ = some (.slice la ls.length lc) ∧ w.cell? ⟨g, 6, none⟩ = some (.slice pa ps.length pc) :=
  ⟨h.cell 0 rfl, h.cell 1 rfl, h.cell 2 rfl, h.cell 3 rfl, h.cell 4 rfl, h.cell 5 rfl, h.cell 6 rfl⟩
theorem below_callD {w W w5 : World} (hb5 : Below W.heap.size W w5) (h : Below w.heap.size w W) : Below w.heap.size w w5 := h.trans (hb5.mono h.size)
theorem great_wD {v : V} (h : ¬ greatV v 100 30 < 0) : wV v ≤ 80400 := by have := greatV_w v 100 30 (by omega) (by omega); have := greatV_bd v 100 30 (by omega); omega
set_option maxRecDepth 100000 in
set_option maxHeartbeats 16000000 in
theorem walkDigestValues (w : World) (va : V) (aa : A3) (hra : Rep (fun _ => True) w va aa) (kd : Int) (hkd : -9223372036854775808 ≤ kd ∧ kd ≤ 9223372036854775807) (hP : PowU w) :
    Calls Tryd.prog 3 #[vG (va, aa), .int .i64 kd] w fun e w' => e = .returned (.bool true) ∧ Below w.heap.size w w' := by
  obtain ⟨k, n, t, fs, r, ls, ps⟩ := va
  obtain ⟨fa, fc, la, lc, pa, pc⟩ := aa
  rw [vG_lit]
  obtain ⟨W0, hW0⟩ : ∃ W0, W0 = w.alloc (.cells #[.int .i64 k, .int .u64 (n : Int), .string (strB t), .slice fa fs.length fc, .string (strB r), .slice la ls.length lc, .slice pa ps.length pc] 27) := ⟨_, rfl⟩
  obtain ⟨g, hg⟩ : ∃ g, g = w.heap.size := ⟨_, rfl⟩
  have hb0 : Below w.heap.size w W0 := by rw [hW0]; exact (Below.refl _ _).alloc (Nat.le_refl _) _
  have hcx : CellsAt W0 g 27 #[.int .i64 k, .int .u64 (n : Int), .string (strB t), .slice fa fs.length fc, .string (strB r), .slice la ls.length lc, .slice pa ps.length pc] := by rw [hW0, hg]; exact CellsAt.new w _ _
  have HF : Hid (∀ W, Below W0.heap.size W0 W → Below w.heap.size w W) := fun W hb => hb0.trans (hb.mono hb0.size)
  have HX : Hid (∀ W, Below W0.heap.size W0 W → CellsAt W g 27 #[.int .i64 k, .int .u64 (n : Int), .string (strB t), .slice fa fs.length fc, .string (strB r), .slice la ls.length lc, .slice pa ps.length pc]) := fun W hb => hcx.stays hb
  have HAL := Lib.hid (alive30 (hP.stays hb0))
  have HA : Hid (∀ W, Below W0.heap.size W0 W → Rep (fun _ => True) W (.mk k n t fs r ls ps) ⟨fa, fc, la, lc, pa, pc⟩) := fun W hb => hra.stays (HF.out W hb)
  have HPW : Hid (∀ W, Below W0.heap.size W0 W → PowU W) := fun W hb => hP.stays (HF.out W hb)
  have HW := Lib.hid hW0
  have HG := Lib.hid hg
  clear hP hra hcx hW0 hg hb0
  go_enter Tryd.func3, Tryd.ntmps3
  go_wp2_with fail
  have hW0 := HW.out
  have hg := HG.out
  rw [← hW0, ← hg]
  clear hW0 hg HW HG
  refine HAL.out.mono ?_
  rintro e w1 ⟨rfl, hb1⟩
  clear HAL
  obtain ⟨x0, x1, x2, x3, x4, x5, x6⟩ := boxD (HX.out w1 hb1)
  go_wp2_with fail
  refine (Great_any (by omega) (by omega) (HA.out w1 hb1)).mono ?_
  rintro e w2 ⟨rfl, hb2⟩
  replace hb2 := hb1.trans (hb2.mono hb1.size)
  clear hb1 x0 x1 x2 x3 x4 x5 x6
  by_cases hga : greatV (.mk k n t fs r ls ps) 100 30 < 0
  · have HF2 := Lib.hid (HF.out w2 hb2)
    go_wp2_with fail
    go_ret
    exact ⟨rfl, HF2.out⟩
  have hwa := great_wD hga
  have hw6 : wV (.mk k n t fs r ls ps) ≤ 1000000 := by omega
  have hw5 : wV (.mk k n t fs r ls ps) ≤ 100000 := by omega
  have e1 : decide (greatV (.mk k n t fs r ls ps) 100 30 < 0) = false := decide_eq_false hga
  generalize decide (greatV (.mk k n t fs r ls ps) 100 30 < 0) = b1 at e1 ⊢
  subst e1
  have HV : Hid (∀ W, Below w2.heap.size w2 W → Calls _ _ _ W _) := fun W h => TxtC.lit (txt_any _) (HA.out W (hb2.trans (h.mono hb2.size))) hw5 (HPW.out W (hb2.trans (h.mono hb2.size)))
  have HO : Hid (∀ W, Below w2.heap.size w2 W → Calls _ _ _ W _) := fun W h => OfC.lit (of_any _) (HA.out W (hb2.trans (h.mono hb2.size))) hw6
  have HRV : Hid (∀ (W : World) (fa7 la7 pa7 : Option Addr) (fc7 lc7 pc7 : Nat) (S : Nat → Prop), Rep S W (.mk k n t fs r ls ps) ⟨fa7, fc7, la7, lc7, pa7, pc7⟩ → Calls _ _ _ W _) := fun W fa7 la7 pa7 fc7 lc7 pc7 S hr => RTxtC.lit (w := W) (rtxt_any _) hr hw5
  generalize txtV (.mk k n t fs r ls ps) = TX at HV HRV
  have eT : ((strB TX).toList == (strB TX).toList) = true := by simp
  have HS : Hid (∀ W, Below w2.heap.size w2 W → W.cell? ⟨g, 0, none⟩ = some (.int .i64 k) ∧ W.cell? ⟨g, 1, none⟩ = some (.int .u64 (n : Int)) ∧ W.cell? ⟨g, 2, none⟩ = some (.string (strB t)) ∧ W.cell? ⟨g, 3, none⟩ = some (.slice fa fs.length fc) ∧ W.cell? ⟨g, 4, none⟩ = some (.string (strB r)) ∧ W.cell? ⟨g, 5, none⟩ = some (.slice la ls.length lc) ∧ W.cell? ⟨g, 6, none⟩ = some (.slice pa ps.length pc)) := fun W h => boxD (HX.out W (hb2.trans (h.mono hb2.size)))
  have HFF : Hid (∀ W, Below w2.heap.size w2 W → Below w.heap.size w W) := fun W h => HF.out W (hb2.trans (h.mono hb2.size))
  clear hga hwa hw6 hw5 HA HPW HX HF hb2
  by_cases hk1 : kd = 1
  · subst hk1
    have HWD : Hid (∀ W, Calls Tryd.prog 9 #[.int .i64 1] W fun e w' => e = .returned (.string ⟨#[97, 100, 100, 101, 100]⟩) ∧ Below W.heap.size W w') := fun W => wordD_any 1 W
    have eW : ((⟨#[97, 100, 100, 101, 100]⟩ : ByteArray).toList == (⟨#[97, 100, 100, 101, 100]⟩ : ByteArray).toList) = true := by simp
    go_upto_region 8 with fail
    have ht1 : Below w2.heap.size w2 (w2.alloc (.cells #[.string ⟨#[97, 100, 100, 101, 100]⟩, .string ⟨#[114, 101, 109, 111, 118, 101, 100]⟩, .string ⟨#[99, 104, 97, 110, 103, 101, 100]⟩] 9)).drew := ((Below.refl _ _).alloc (Nat.le_refl _) _).drew
    go_region_held3 (fun W => W.cell? ⟨g, 0, none⟩ = some (.int .i64 k) ∧ W.cell? ⟨g, 1, none⟩ = some (.int .u64 (n : Int)) ∧ W.cell? ⟨g, 2, none⟩ = some (.string (strB t)) ∧ W.cell? ⟨g, 3, none⟩ = some (.slice fa fs.length fc) ∧ W.cell? ⟨g, 4, none⟩ = some (.string (strB r)) ∧ W.cell? ⟨g, 5, none⟩ = some (.slice la ls.length lc) ∧ W.cell? ⟨g, 6, none⟩ = some (.slice pa ps.length pc))
      (exact HS.out _ (by assumption))
      ((first
        | (go_at_call 6; (with_reducible refine (HV.out _ (by assumption)).mono ?_); rintro e w11 ⟨rfl, hb11⟩; have ht11 : Below w2.heap.size w2 w11 := below_callD hb11 (by assumption))
        | (go_at_call 8; (with_reducible refine (HO.out _ (by assumption)).mono ?_); rintro e w12 ⟨fa12, la12, pa12, fc12, lc12, pc12, rfl, hr12, hb12⟩; have ht12 : Below w2.heap.size w2 w12 := below_callD hb12 (by assumption))
        | (go_at_call 7; (with_reducible refine (HRV.out _ _ _ _ _ _ _ _ (by first | with_reducible exact hr12 | with_reducible exact hr12.stays hb11)).mono ?_); rintro e w13 ⟨rfl, hb13⟩; have ht13 : Below w2.heap.size w2 w13 := below_callD hb13 (by assumption))
        | (go_at_call 9; (with_reducible refine (HWD.out _).mono ?_); rintro e w14 ⟨rfl, hb14⟩; have ht14 : Below w2.heap.size w2 w14 := below_callD hb14 (by assumption))))
    all_goals go_wp2_with fail
    all_goals go_ret
    all_goals exact ⟨rfl, HFF.out _ (by assumption)⟩
  by_cases hk2 : kd = 2
  · subst hk2
    have HWD : Hid (∀ W, Calls Tryd.prog 9 #[.int .i64 2] W fun e w' => e = .returned (.string ⟨#[114, 101, 109, 111, 118, 101, 100]⟩) ∧ Below W.heap.size W w') := fun W => wordD_any 2 W
    have eW : ((⟨#[114, 101, 109, 111, 118, 101, 100]⟩ : ByteArray).toList == (⟨#[114, 101, 109, 111, 118, 101, 100]⟩ : ByteArray).toList) = true := by simp
    go_upto_region 8 with fail
    have ht1 : Below w2.heap.size w2 (w2.alloc (.cells #[.string ⟨#[97, 100, 100, 101, 100]⟩, .string ⟨#[114, 101, 109, 111, 118, 101, 100]⟩, .string ⟨#[99, 104, 97, 110, 103, 101, 100]⟩] 9)).drew := ((Below.refl _ _).alloc (Nat.le_refl _) _).drew
    go_region_held3 (fun W => W.cell? ⟨g, 0, none⟩ = some (.int .i64 k) ∧ W.cell? ⟨g, 1, none⟩ = some (.int .u64 (n : Int)) ∧ W.cell? ⟨g, 2, none⟩ = some (.string (strB t)) ∧ W.cell? ⟨g, 3, none⟩ = some (.slice fa fs.length fc) ∧ W.cell? ⟨g, 4, none⟩ = some (.string (strB r)) ∧ W.cell? ⟨g, 5, none⟩ = some (.slice la ls.length lc) ∧ W.cell? ⟨g, 6, none⟩ = some (.slice pa ps.length pc))
      (exact HS.out _ (by assumption))
      ((first
        | (go_at_call 6; (with_reducible refine (HV.out _ (by assumption)).mono ?_); rintro e w11 ⟨rfl, hb11⟩; have ht11 : Below w2.heap.size w2 w11 := below_callD hb11 (by assumption))
        | (go_at_call 8; (with_reducible refine (HO.out _ (by assumption)).mono ?_); rintro e w12 ⟨fa12, la12, pa12, fc12, lc12, pc12, rfl, hr12, hb12⟩; have ht12 : Below w2.heap.size w2 w12 := below_callD hb12 (by assumption))
        | (go_at_call 7; (with_reducible refine (HRV.out _ _ _ _ _ _ _ _ (by first | with_reducible exact hr12 | with_reducible exact hr12.stays hb11)).mono ?_); rintro e w13 ⟨rfl, hb13⟩; have ht13 : Below w2.heap.size w2 w13 := below_callD hb13 (by assumption))
        | (go_at_call 9; (with_reducible refine (HWD.out _).mono ?_); rintro e w14 ⟨rfl, hb14⟩; have ht14 : Below w2.heap.size w2 w14 := below_callD hb14 (by assumption))))
    all_goals go_wp2_with fail
    all_goals go_ret
    all_goals exact ⟨rfl, HFF.out _ (by assumption)⟩
  by_cases hk3 : kd = 3
  · subst hk3
    have HWD : Hid (∀ W, Calls Tryd.prog 9 #[.int .i64 3] W fun e w' => e = .returned (.string ⟨#[99, 104, 97, 110, 103, 101, 100]⟩) ∧ Below W.heap.size W w') := fun W => wordD_any 3 W
    have eW : ((⟨#[99, 104, 97, 110, 103, 101, 100]⟩ : ByteArray).toList == (⟨#[99, 104, 97, 110, 103, 101, 100]⟩ : ByteArray).toList) = true := by simp
    go_upto_region 8 with fail
    have ht1 : Below w2.heap.size w2 (w2.alloc (.cells #[.string ⟨#[97, 100, 100, 101, 100]⟩, .string ⟨#[114, 101, 109, 111, 118, 101, 100]⟩, .string ⟨#[99, 104, 97, 110, 103, 101, 100]⟩] 9)).drew := ((Below.refl _ _).alloc (Nat.le_refl _) _).drew
    go_region_held3 (fun W => W.cell? ⟨g, 0, none⟩ = some (.int .i64 k) ∧ W.cell? ⟨g, 1, none⟩ = some (.int .u64 (n : Int)) ∧ W.cell? ⟨g, 2, none⟩ = some (.string (strB t)) ∧ W.cell? ⟨g, 3, none⟩ = some (.slice fa fs.length fc) ∧ W.cell? ⟨g, 4, none⟩ = some (.string (strB r)) ∧ W.cell? ⟨g, 5, none⟩ = some (.slice la ls.length lc) ∧ W.cell? ⟨g, 6, none⟩ = some (.slice pa ps.length pc))
      (exact HS.out _ (by assumption))
      ((first
        | (go_at_call 6; (with_reducible refine (HV.out _ (by assumption)).mono ?_); rintro e w11 ⟨rfl, hb11⟩; have ht11 : Below w2.heap.size w2 w11 := below_callD hb11 (by assumption))
        | (go_at_call 8; (with_reducible refine (HO.out _ (by assumption)).mono ?_); rintro e w12 ⟨fa12, la12, pa12, fc12, lc12, pc12, rfl, hr12, hb12⟩; have ht12 : Below w2.heap.size w2 w12 := below_callD hb12 (by assumption))
        | (go_at_call 7; (with_reducible refine (HRV.out _ _ _ _ _ _ _ _ (by first | with_reducible exact hr12 | with_reducible exact hr12.stays hb11)).mono ?_); rintro e w13 ⟨rfl, hb13⟩; have ht13 : Below w2.heap.size w2 w13 := below_callD hb13 (by assumption))
        | (go_at_call 9; (with_reducible refine (HWD.out _).mono ?_); rintro e w14 ⟨rfl, hb14⟩; have ht14 : Below w2.heap.size w2 w14 := below_callD hb14 (by assumption))))
    all_goals go_wp2_with fail
    all_goals go_ret
    all_goals exact ⟨rfl, HFF.out _ (by assumption)⟩
  have HWD : Hid (∀ W, Calls Tryd.prog 9 #[.int .i64 kd] W fun e w' => e = .returned (.string ⟨#[]⟩) ∧ Below W.heap.size W w') := fun W => by
    have h := wordD_any kd W
    rw [show wordD kd = [] from by unfold wordD; rw [if_neg hk1, if_neg hk2, if_neg hk3]] at h
    exact h
  have eW : ((⟨#[]⟩ : ByteArray).toList == (⟨#[]⟩ : ByteArray).toList) = true := by simp
  rcases (show kd ≤ 0 ∨ 4 ≤ kd from by omega) with hz | hz
  · have t0 : decide ((0 : Int) < kd) = false := decide_eq_false (by omega)
    have t1 : ¬ (0 : Int) < kd := by omega
    clear hk1 hk2 hk3
    go_upto_region 8 with fail
    have ht1 : Below w2.heap.size w2 (w2).drew := (Below.refl _ _).drew
    go_region_held3 (fun W => W.cell? ⟨g, 0, none⟩ = some (.int .i64 k) ∧ W.cell? ⟨g, 1, none⟩ = some (.int .u64 (n : Int)) ∧ W.cell? ⟨g, 2, none⟩ = some (.string (strB t)) ∧ W.cell? ⟨g, 3, none⟩ = some (.slice fa fs.length fc) ∧ W.cell? ⟨g, 4, none⟩ = some (.string (strB r)) ∧ W.cell? ⟨g, 5, none⟩ = some (.slice la ls.length lc) ∧ W.cell? ⟨g, 6, none⟩ = some (.slice pa ps.length pc))
      (exact HS.out _ (by assumption))
      ((first
        | (go_at_call 6; (with_reducible refine (HV.out _ (by assumption)).mono ?_); rintro e w11 ⟨rfl, hb11⟩; have ht11 : Below w2.heap.size w2 w11 := below_callD hb11 (by assumption))
        | (go_at_call 8; (with_reducible refine (HO.out _ (by assumption)).mono ?_); rintro e w12 ⟨fa12, la12, pa12, fc12, lc12, pc12, rfl, hr12, hb12⟩; have ht12 : Below w2.heap.size w2 w12 := below_callD hb12 (by assumption))
        | (go_at_call 7; (with_reducible refine (HRV.out _ _ _ _ _ _ _ _ (by first | with_reducible exact hr12 | with_reducible exact hr12.stays hb11)).mono ?_); rintro e w13 ⟨rfl, hb13⟩; have ht13 : Below w2.heap.size w2 w13 := below_callD hb13 (by assumption))
        | (go_at_call 9; (with_reducible refine (HWD.out _).mono ?_); rintro e w14 ⟨rfl, hb14⟩; have ht14 : Below w2.heap.size w2 w14 := below_callD hb14 (by assumption))))
    all_goals go_wp2_with fail
    all_goals go_ret
    all_goals exact ⟨rfl, HFF.out _ (by assumption)⟩
  · have t0 : decide ((0 : Int) < kd) = true := decide_eq_true (by omega)
    have t1 : decide (kd < 4) = false := decide_eq_false (by omega)
    have t2 : (0 : Int) < kd := by omega
    have t3 : ¬ kd < 4 := by omega
    clear hk1 hk2 hk3
    go_upto_region 8 with fail
    have ht1 : Below w2.heap.size w2 (w2).drew := (Below.refl _ _).drew
    go_region_held3 (fun W => W.cell? ⟨g, 0, none⟩ = some (.int .i64 k) ∧ W.cell? ⟨g, 1, none⟩ = some (.int .u64 (n : Int)) ∧ W.cell? ⟨g, 2, none⟩ = some (.string (strB t)) ∧ W.cell? ⟨g, 3, none⟩ = some (.slice fa fs.length fc) ∧ W.cell? ⟨g, 4, none⟩ = some (.string (strB r)) ∧ W.cell? ⟨g, 5, none⟩ = some (.slice la ls.length lc) ∧ W.cell? ⟨g, 6, none⟩ = some (.slice pa ps.length pc))
      (exact HS.out _ (by assumption))
      ((first
        | (go_at_call 6; (with_reducible refine (HV.out _ (by assumption)).mono ?_); rintro e w11 ⟨rfl, hb11⟩; have ht11 : Below w2.heap.size w2 w11 := below_callD hb11 (by assumption))
        | (go_at_call 8; (with_reducible refine (HO.out _ (by assumption)).mono ?_); rintro e w12 ⟨fa12, la12, pa12, fc12, lc12, pc12, rfl, hr12, hb12⟩; have ht12 : Below w2.heap.size w2 w12 := below_callD hb12 (by assumption))
        | (go_at_call 7; (with_reducible refine (HRV.out _ _ _ _ _ _ _ _ (by first | with_reducible exact hr12 | with_reducible exact hr12.stays hb11)).mono ?_); rintro e w13 ⟨rfl, hb13⟩; have ht13 : Below w2.heap.size w2 w13 := below_callD hb13 (by assumption))
        | (go_at_call 9; (with_reducible refine (HWD.out _).mono ?_); rintro e w14 ⟨rfl, hb14⟩; have ht14 : Below w2.heap.size w2 w14 := below_callD hb14 (by assumption))))
    all_goals go_wp2_with fail
    all_goals go_ret
    all_goals exact ⟨rfl, HFF.out _ (by assumption)⟩
end Go.Proofs.YtcjflglpkpkflaaDoor
