/- container/heap at the queue of trips: down. -/
import Derived.Test.YthabjnppmhlomaaDoorPnE
namespace Go.Proofs.YthabjnppmhlomaaDoor
open Go Go.RowKit
set_option linter.unusedVariables false
def DnP (B : Nat) (w : World) (g n c : Nat) (Q : List TM) (N : Nat) (e : Ending) (w' : World) : Prop := (∃ b, e = .returned (.bool b)) ∧ ∃ Q', Q'.Perm Q ∧ Hp leT Q' N ∧ Q'[N]? = Q[N]? ∧ OwnS 56 3 tC B w' (.slice (some ⟨g, 0, none⟩) n c) Q' ∧ w.grownBy w' (some g)
section
variable {B F g n c : Nat} {T : TypeId} {c0 c1 c2 : Value} {w : World} {Q : List TM}
set_option maxRecDepth 100000 in
set_option maxHeartbeats 1000000 in
theorem down_any (h : QAt B F T c0 c1 c2 w (.slice (some ⟨g, 0, none⟩) n c) Q) (hk : QOk F w (.slice (some ⟨g, 0, none⟩) n c) Q) (N : Nat) (hN : N ≤ Q.length) (hu : Dn leT Q 0 N) (hl : Q.length ≤ 100000) :
    Calls Tryd.prog 40 #[.iface 78 (.pointer (some ⟨F, 3, none⟩)), .int .i64 0, .int .i64 N] w (DnP B w g n c Q N) := by
  obtain ⟨h1, h2, h3, h4⟩ := h
  have H1 := Lib.hid h1
  have H2 := Lib.hid h2
  have HK := Lib.hid hk
  have HU := Lib.hid hu
  clear h1 h2 hk hu
  go_enter Tryd.func40, Tryd.ntmps40
  go_wp2_with fail
  go_loopw [7] (fun u wr => ∃ (m : Nat) (Q1 : List TM), u = .int .i64 m ∧ m ≤ N ∧ Hid (Q1.Perm Q) ∧ Hid (Q1[N]? = Q[N]?) ∧ Hid (Dn leT Q1 m N) ∧ Hid (OwnS 56 3 tC B wr (.slice (some ⟨g, 0, none⟩) n c) Q1) ∧ Hid (w.grownBy wr (some g))) (fun u _ => N - (intOf u).toNat)
  case atStart => exact ⟨0, Q, rfl, Nat.zero_le _, List.Perm.refl _, rfl, HU.out, H2.out, grownBy_refl _ _⟩
  case round =>
    obtain ⟨m, Q1, rfl, hm, HP, HE, HU1, HO, HG⟩ := hrel
    by_cases h1 : N ≤ 2 * m + 1
    · have HH : Hid (Hp leT Q1 N) := HU1.out.done (fun k a b k0 hk hp => by omega)
      go_wp2_with fail
      go_ret
      exact ⟨⟨_, rfl⟩, Q1, HP.out, HH.out, HE.out, HO.out, HG.out⟩
    · have hm1 : m < Q1.length := by have := HP.out.length_eq; omega
      have hj1 : 2 * m + 1 < Q1.length := by have := HP.out.length_eq; omega
      have hx := List.getElem?_eq_getElem hm1
      have hy := List.getElem?_eq_getElem hj1
      generalize Q1[m] = x at hx
      generalize Q1[2 * m + 1] = y at hy
      have hQ1 : Q1.length ≤ 100000 := by have := HP.out.length_eq; omega
      have hNl : N ≤ Q1.length := by have := HP.out.length_eq; omega
      have hO := HO.out
      have hgb := (hO.lt g rfl).1
      have HCF : Hid (CellsAt wr F T #[c0, c1, c2, .slice (some ⟨g, 0, none⟩) n c]) := CellsAt.grown H1.out HG.out (fun h => by cases h; omega)
      have HKR : Hid (QOk F wr (.slice (some ⟨g, 0, none⟩) n c) Q1) := (HK.out.grown rfl HG.out).perm HP.out
      have HX := Lib.hid hx
      have HY := Lib.hid hy
      clear hx hy hO
      by_cases h2 : 2 * m + 2 < N
      · have hj2 : 2 * m + 2 < Q1.length := by have := HP.out.length_eq; omega
        have hz := List.getElem?_eq_getElem hj2
        generalize Q1[2 * m + 2] = z at hz
        have HZ := Lib.hid hz
        clear hz
        have mLa := mLess ⟨F, 3, none⟩ wr (HCF.out.cell 3 rfl)
        have HLa : Hid (Calls _ _ _ wr _) := qLess_any _ HO.out (2 * m + 2) (2 * m + 1) z y HZ.out HY.out (HKR.out _ (List.mem_of_getElem? HZ.out)) (HKR.out _ (List.mem_of_getElem? HY.out)) hQ1
        by_cases hA : ordT z.1 y.1 < 0
        · have hAt : decide (ordT z.1 y.1 < 0) = true := decide_eq_true hA
          rw [hAt] at HLa
          have HS : Hid (∀ k d, k < N → 0 < k → (k - 1) / 2 = m → Q1[k]? = some d → leT z d) := fun k d hk k0 hp hd => by
            rcases (show k = 2 * m + 1 ∨ k = 2 * m + 2 by omega) with rfl | rfl
            · rw [HY.out] at hd; cases hd; exact leT_lt hA
            · rw [HZ.out] at hd; cases hd; exact leT_refl _
          clear hA hAt
          go_wp2_with fail
          refine HLa.out.mono ?_
          rintro e w1 ⟨rfl, hb1⟩
          have HB1 := Lib.hid hb1
          clear hb1 mLa HLa
          have HCFa : Hid (CellsAt w1 F T #[c0, c1, c2, .slice (some ⟨g, 0, none⟩) n c]) := HCF.out.stays HB1.out
          have mLb := mLess ⟨F, 3, none⟩ w1 (HCFa.out.cell 3 rfl)
          have HLb : Hid (Calls _ _ _ w1 _) := qLess_any _ (HO.out.stays HB1.out) (2 * m + 2) m z x HZ.out HX.out ((HKR.out _ (List.mem_of_getElem? HZ.out)).stays HB1.out) ((HKR.out _ (List.mem_of_getElem? HX.out)).stays HB1.out) hQ1
          by_cases hR : ordT z.1 x.1 < 0
          · have hRt : decide (ordT z.1 x.1 < 0) = true := decide_eq_true hR
            rw [hRt] at HLb
            have HR := Lib.hid hR
            clear hR hRt
            go_wp2_with fail
            refine HLb.out.mono ?_
            rintro e w2 ⟨rfl, hb2⟩
            have hcF2 : CellsAt w2 F T #[c0, c1, c2, .slice (some ⟨g, 0, none⟩) n c] := HCFa.out.stays hb2
            have mS := mSwap ⟨F, 3, none⟩ w2 (hcF2.cell 3 rfl)
            have HSW : Hid (Calls _ _ _ w2 _) := qSwap_any (OwnS.stays (HO.out.stays HB1.out) hb2) m (2 * m + 2) hm1 (by omega) hQ1
            have HB2 := Lib.hid hb2
            clear hcF2 hb2 mLb HLb
            go_wp2_with fail
            refine HSW.out.mono ?_
            rintro e w3 ⟨rfl, ho3, hg3⟩
            have HO3 := Lib.hid ho3
            have HG3 := Lib.hid hg3
            clear ho3 hg3 HSW mS
            go_wp2_with fail
            go_roundw
            case rel => exact ⟨2 * m + 2, swp Q1 m (2 * m + 2), by go_num, by omega, (swp_perm Q1 m (2 * m + 2)).trans HP.out, by show _ = _; rw [swp_get hm1 (by omega), if_neg (by omega), if_neg (by omega)]; exact HE.out, HU1.out.step leT_trans (by omega) (by omega) (by omega) (by omega) HX.out HZ.out (leT_lt HR.out) HS.out, HO3.out, grownBy_trans (grownBy_trans (grownBy_trans HG.out (grownBy_none (grown_of_below HB1.out))) (grownBy_none (grown_of_below HB2.out))) HG3.out⟩
            case measure => simp only [intOf]; omega
          · have hRt : decide (ordT z.1 x.1 < 0) = false := decide_eq_false hR
            rw [hRt] at HLb
            have HH : Hid (Hp leT Q1 N) := HU1.out.done (fun k a b k0 hk hp ha hb => by
              rw [HX.out] at ha
              cases ha
              exact leT_trans _ _ _ (leT_not hR) (HS.out k b hk k0 hp hb))
            clear hR hRt
            go_wp2_with fail
            refine HLb.out.mono ?_
            rintro e w2 ⟨rfl, hb2⟩
            have HB2 := Lib.hid hb2
            clear hb2 mLb HLb
            go_wp2_with fail
            go_ret
            exact ⟨⟨_, rfl⟩, Q1, HP.out, HH.out, HE.out, OwnS.stays (HO.out.stays HB1.out) HB2.out, grownBy_trans (grownBy_trans HG.out (grownBy_none (grown_of_below HB1.out))) (grownBy_none (grown_of_below HB2.out))⟩
        · have hAt : decide (ordT z.1 y.1 < 0) = false := decide_eq_false hA
          rw [hAt] at HLa
          have HS : Hid (∀ k d, k < N → 0 < k → (k - 1) / 2 = m → Q1[k]? = some d → leT y d) := fun k d hk k0 hp hd => by
            rcases (show k = 2 * m + 1 ∨ k = 2 * m + 2 by omega) with rfl | rfl
            · rw [HY.out] at hd; cases hd; exact leT_refl _
            · rw [HZ.out] at hd; cases hd; exact leT_not hA
          clear hA hAt
          go_wp2_with fail
          refine HLa.out.mono ?_
          rintro e w1 ⟨rfl, hb1⟩
          have HB1 := Lib.hid hb1
          clear hb1 mLa HLa
          have HCFa : Hid (CellsAt w1 F T #[c0, c1, c2, .slice (some ⟨g, 0, none⟩) n c]) := HCF.out.stays HB1.out
          have mLb := mLess ⟨F, 3, none⟩ w1 (HCFa.out.cell 3 rfl)
          have HLb : Hid (Calls _ _ _ w1 _) := qLess_any _ (HO.out.stays HB1.out) (2 * m + 1) m y x HY.out HX.out ((HKR.out _ (List.mem_of_getElem? HY.out)).stays HB1.out) ((HKR.out _ (List.mem_of_getElem? HX.out)).stays HB1.out) hQ1
          by_cases hR : ordT y.1 x.1 < 0
          · have hRt : decide (ordT y.1 x.1 < 0) = true := decide_eq_true hR
            rw [hRt] at HLb
            have HR := Lib.hid hR
            clear hR hRt
            go_wp2_with fail
            refine HLb.out.mono ?_
            rintro e w2 ⟨rfl, hb2⟩
            have hcF2 : CellsAt w2 F T #[c0, c1, c2, .slice (some ⟨g, 0, none⟩) n c] := HCFa.out.stays hb2
            have mS := mSwap ⟨F, 3, none⟩ w2 (hcF2.cell 3 rfl)
            have HSW : Hid (Calls _ _ _ w2 _) := qSwap_any (OwnS.stays (HO.out.stays HB1.out) hb2) m (2 * m + 1) hm1 (by omega) hQ1
            have HB2 := Lib.hid hb2
            clear hcF2 hb2 mLb HLb
            go_wp2_with fail
            refine HSW.out.mono ?_
            rintro e w3 ⟨rfl, ho3, hg3⟩
            have HO3 := Lib.hid ho3
            have HG3 := Lib.hid hg3
            clear ho3 hg3 HSW mS
            go_wp2_with fail
            go_roundw
            case rel => exact ⟨2 * m + 1, swp Q1 m (2 * m + 1), by go_num, by omega, (swp_perm Q1 m (2 * m + 1)).trans HP.out, by show _ = _; rw [swp_get hm1 (by omega), if_neg (by omega), if_neg (by omega)]; exact HE.out, HU1.out.step leT_trans (by omega) (by omega) (by omega) (by omega) HX.out HY.out (leT_lt HR.out) HS.out, HO3.out, grownBy_trans (grownBy_trans (grownBy_trans HG.out (grownBy_none (grown_of_below HB1.out))) (grownBy_none (grown_of_below HB2.out))) HG3.out⟩
            case measure => simp only [intOf]; omega
          · have hRt : decide (ordT y.1 x.1 < 0) = false := decide_eq_false hR
            rw [hRt] at HLb
            have HH : Hid (Hp leT Q1 N) := HU1.out.done (fun k a b k0 hk hp ha hb => by
              rw [HX.out] at ha
              cases ha
              exact leT_trans _ _ _ (leT_not hR) (HS.out k b hk k0 hp hb))
            clear hR hRt
            go_wp2_with fail
            refine HLb.out.mono ?_
            rintro e w2 ⟨rfl, hb2⟩
            have HB2 := Lib.hid hb2
            clear hb2 mLb HLb
            go_wp2_with fail
            go_ret
            exact ⟨⟨_, rfl⟩, Q1, HP.out, HH.out, HE.out, OwnS.stays (HO.out.stays HB1.out) HB2.out, grownBy_trans (grownBy_trans HG.out (grownBy_none (grown_of_below HB1.out))) (grownBy_none (grown_of_below HB2.out))⟩
      · have HS : Hid (∀ k d, k < N → 0 < k → (k - 1) / 2 = m → Q1[k]? = some d → leT y d) := fun k d hk k0 hp hd => by
          obtain rfl : k = 2 * m + 1 := by omega
          rw [HY.out] at hd; cases hd; exact leT_refl _
        have HCFa : Hid (CellsAt wr F T #[c0, c1, c2, .slice (some ⟨g, 0, none⟩) n c]) := HCF.out
        have mLb := mLess ⟨F, 3, none⟩ wr (HCFa.out.cell 3 rfl)
        have HLb : Hid (Calls _ _ _ wr _) := qLess_any _ (HO.out) (2 * m + 1) m y x HY.out HX.out (HKR.out _ (List.mem_of_getElem? HY.out)) (HKR.out _ (List.mem_of_getElem? HX.out)) hQ1
        by_cases hR : ordT y.1 x.1 < 0
        · have hRt : decide (ordT y.1 x.1 < 0) = true := decide_eq_true hR
          rw [hRt] at HLb
          have HR := Lib.hid hR
          clear hR hRt
          go_wp2_with fail
          refine HLb.out.mono ?_
          rintro e w2 ⟨rfl, hb2⟩
          have hcF2 : CellsAt w2 F T #[c0, c1, c2, .slice (some ⟨g, 0, none⟩) n c] := HCFa.out.stays hb2
          have mS := mSwap ⟨F, 3, none⟩ w2 (hcF2.cell 3 rfl)
          have HSW : Hid (Calls _ _ _ w2 _) := qSwap_any (OwnS.stays (HO.out) hb2) m (2 * m + 1) hm1 (by omega) hQ1
          have HB2 := Lib.hid hb2
          clear hcF2 hb2 mLb HLb
          go_wp2_with fail
          refine HSW.out.mono ?_
          rintro e w3 ⟨rfl, ho3, hg3⟩
          have HO3 := Lib.hid ho3
          have HG3 := Lib.hid hg3
          clear ho3 hg3 HSW mS
          go_wp2_with fail
          go_roundw
          case rel => exact ⟨2 * m + 1, swp Q1 m (2 * m + 1), by go_num, by omega, (swp_perm Q1 m (2 * m + 1)).trans HP.out, by show _ = _; rw [swp_get hm1 (by omega), if_neg (by omega), if_neg (by omega)]; exact HE.out, HU1.out.step leT_trans (by omega) (by omega) (by omega) (by omega) HX.out HY.out (leT_lt HR.out) HS.out, HO3.out, grownBy_trans (grownBy_trans HG.out (grownBy_none (grown_of_below HB2.out))) HG3.out⟩
          case measure => simp only [intOf]; omega
        · have hRt : decide (ordT y.1 x.1 < 0) = false := decide_eq_false hR
          rw [hRt] at HLb
          have HH : Hid (Hp leT Q1 N) := HU1.out.done (fun k a b k0 hk hp ha hb => by
            rw [HX.out] at ha
            cases ha
            exact leT_trans _ _ _ (leT_not hR) (HS.out k b hk k0 hp hb))
          clear hR hRt
          go_wp2_with fail
          refine HLb.out.mono ?_
          rintro e w2 ⟨rfl, hb2⟩
          have HB2 := Lib.hid hb2
          clear hb2 mLb HLb
          go_wp2_with fail
          go_ret
          exact ⟨⟨_, rfl⟩, Q1, HP.out, HH.out, HE.out, OwnS.stays (HO.out) HB2.out, grownBy_trans HG.out (grownBy_none (grown_of_below HB2.out))⟩
end
end Go.Proofs.YthabjnppmhlomaaDoor
