/- The walks of myers' Align, Common. -/
import Derived.Test.YtidfjemblidjkaaMyG
namespace Go.Proofs.Ytidfjemblidjkaa
open Go Go.RowKit
set_option linter.unusedVariables false
theorem OwnP_stays {B : Nat} {w w' : World} {v : Value} {rs : List Rn} (h : OwnP B w v rs) (hb : Below w.heap.size w w') : OwnP B w' v rs := OwnS.stays h hb
section
variable {a b : List Int} {x y : Nat}
theorem tab_dec (hx : x < a.length) (hy : y < b.length) (h : ¬ a[x] = b[y]) (h2 : tab a b (x + 1) y ≤ tab a b x (y + 1)) : tab a b x y = tab a b (x + 1) y + 1 := by
  rw [tab_other hx hy h, Nat.min_eq_left h2]
theorem tab_dec' (hx : x < a.length) (hy : y < b.length) (h : ¬ a[x] = b[y]) (h2 : ¬ tab a b (x + 1) y ≤ tab a b x (y + 1)) : tab a b x y = tab a b x (y + 1) + 1 := by
  rw [tab_other hx hy h, Nat.min_eq_right (by omega)]
theorem edV_leq (hla : a.length ≤ 400) (hlb : b.length ≤ 400) (hx : x < a.length) (hy : y < b.length) (h : ¬ a[x] = b[y]) (hD : tab a b x y ≤ dist a b) : edV a b (x + 1) y ≤ edV a b x (y + 1) ↔ tab a b (x + 1) y ≤ tab a b x (y + 1) := by
  have h1 := tab_le a b (x + 1) y
  have h2 := tab_le a b x (y + 1)
  have h3 := tab_other hx hy h
  have hu := unr_def
  unfold edV
  rcases Nat.le_total (tab a b (x + 1) y) (tab a b x (y + 1)) with h4 | h4
  · rw [Nat.min_eq_left h4] at h3
    rw [if_pos (by omega)]
    split <;> omega
  · rw [Nat.min_eq_right h4] at h3
    rw [if_pos (show tab a b x (y + 1) ≤ dist a b by omega)]
    split <;> omega
theorem edV_bd (a b : List Int) (hla : a.length ≤ 400) (hlb : b.length ≤ 400) (x y : Nat) : 0 ≤ edV a b x y ∧ edV a b x y ≤ 1073741824 := by
  have h1 := tab_le a b x y
  have hu := unr_def
  unfold edV
  split <;> omega
end
set_option maxRecDepth 100000 in
set_option maxHeartbeats 4000000 in
theorem align_any (va vb : Value) (a b : List Int) (w : World) (hra : RowZ w va a) (hrb : RowZ w vb b) (hla : a.length ≤ 400) (hlb : b.length ≤ 400) :
    Calls Try.prog 13 #[va, vb] w fun e w' => ∃ v', e = .returned v' ∧ OwnP w.heap.size w' v' (alignV a b) ∧ Below w.heap.size w w' := by
  have HF := Lib.hid (from_any va vb a b w hla hlb hra hrb)
  by_cases hd : 400 < dist a b
  · have HN := Lib.hid (nearB_no hd)
    have HV : Hid (alignV a b = runsV (stepsF a b)) := by show _ = _; unfold alignV stepsV; rw [if_pos hd]
    have HP : Hid (∀ w', Below w.heap.size w w' → _) := fun w' hbe => plain_any va vb a b w' (hra.stays hbe) (hrb.stays hbe) (by omega) (by omega)
    clear hra hrb hd
    go_enter Try.func13, Try.ntmps13
    go_wp2_with fail
    refine HF.out.mono ?_
    rintro x w1 ⟨rfl, h1, h2, h3⟩
    rw [HN.out]
    clear h1 h2
    go_wp2_with fail
    refine (HP.out w1 h3).mono ?_
    rintro x w2 ⟨v', rfl, ho, hb⟩
    go_wp2_with fail
    go_ret
    exact ⟨_, rfl, by rw [HV.out]; exact OwnS.mono ho h3.size, h3.trans (hb.mono h3.size)⟩
  · have hD : dist a b ≤ 400 := by omega
    have HN := Lib.hid (nearB_yes hD)
    have HV : Hid (alignV a b = runsV (stepsT a b)) := by show _ = _; unfold alignV stepsV; rw [if_neg hd]
    obtain ⟨aa, ca, rfl, -, hia⟩ := hra.gen.shape
    obtain ⟨ab, cb, rfl, -, hib⟩ := hrb.gen.shape
    have HIA := Lib.hid hia
    have HIB := Lib.hid hib
    clear hra hrb hd hia hib
    go_enter Try.func13, Try.ntmps13
    go_wp2_with fail
    refine HF.out.mono ?_
    rintro x w1 ⟨rfl, h1, h2, h3⟩
    rw [HN.out]
    obtain ⟨gr, cap, hR⟩ := h2 HN.out
    have HB := Lib.hid h1
    have HR := Lib.hid hR
    have HB3 := Lib.hid h3
    obtain ⟨g, hg⟩ : ∃ g, g = w.heap.size := ⟨_, rfl⟩
    rw [← hg] at HB HR ⊢
    have hs1 := h3.size
    clear h1 h2 h3 hR
    have hs1' := Lib.hid hs1
    have hg' := Lib.hid hg
    clear hg hs1
    go_wp2_with fail
    go_loopw [7, 8, 9] (fun v xx yy wr => ∃ (x y : Nat) (ss : List Int), x ≤ a.length ∧ y ≤ b.length ∧ xx = .int .i64 x ∧ yy = .int .i64 y ∧ OwnP w1.heap.size wr v (runsV ss) ∧ ss.length ≤ x + y ∧ tab a b x y ≤ dist a b ∧ Hid (ss ++ stepsAt a b x y = stepsT a b) ∧ Below w1.heap.size w1 wr) (fun _ xx yy _ => (a.length - (intOf xx).toNat) + (b.length - (intOf yy).toNat))
    case atStart => exact ⟨0, 0, [], Nat.zero_le _, Nat.zero_le _, rfl, rfl, OwnS.nil _ _, Nat.le_refl _, by unfold tab; exact Nat.le_refl _, by show _ = _; unfold stepsAt; simp, Below.refl _ _⟩
    case round =>
      obtain ⟨x, y, ss, hx, hy, rfl, rfl, how, hsl, htD, HO, hbe⟩ := hrel
      have hgd := runsV_good ss
      have HGD := Lib.hid hgd
      have hsz := hbe.size
      have HAD : Hid (∀ k wq, Below wr.heap.size wr wq → _) := fun k wq hq => add_any w1.heap.size u7 (runsV ss) k 1 wq ss.length (OwnP_stays how hq) (Nat.le_trans hsz hq.size) (by have := HGD.out.2; omega) HGD.out.1 (by omega) (by omega) (by omega)
      have HOW := Lib.hid how
      have HED : Hid (∀ wq, Below wr.heap.size wr wq → ∀ x y : Nat, x ≤ a.length → y ≤ b.length → _) := fun wq hq x y hx hy => edits_any _ _ a b wq hla hlb g gr cap (HB.out.below (hbe.trans (hq.mono hsz))) (HR.out.below (hbe.trans (hq.mono hsz))) hD x y hx hy
      clear hgd how
      by_cases h1 : x < a.length
      · have e1 : decide ((x : Int) < a.length) = true := by simp; omega
        by_cases h2 : y < b.length
        · have e2 : decide ((y : Int) < b.length) = true := by simp; omega
          have e2' : ((y : Int) == b.length) = false := by simp; omega
          obtain ⟨gb, ob, rfl, hcb⟩ := HIB.out y _ (List.getElem?_eq_getElem h2)
          obtain ⟨ga, oa, rfl, hca⟩ := HIA.out x _ (List.getElem?_eq_getElem h1)
          have hb0 := HB3.out.trans (hbe.mono hs1'.out)
          have d3 : wr.cell? ⟨ga, oa + x, none⟩ = some (.int .i64 a[x]) := cell_below hb0 hca
          have d4 : wr.cell? ⟨gb, ob + y, none⟩ = some (.int .i64 b[y]) := cell_below hb0 hcb
          clear hca hcb hb0
          by_cases h3 : a[x] = b[y]
          · have e3 : (a[x] == b[y]) = true := by simp [h3]
            have HS := Lib.hid (stepsAt_same h1 h2 h3)
            have hT2 : tab a b (x + 1) (y + 1) ≤ dist a b := by rw [← tab_same h1 h2 h3]; exact htD
            clear h3
            go_wp2_with fail
            go_region
            all_goals go_wp2_with fail
            refine (HAD.out 1 _ ((Below.refl wr.heap.size wr).drew)).mono ?_
            rintro z w2 ⟨v2, rfl, o2, g2, n2⟩
            have hb2 : Below w1.heap.size w1 w2 := OwnS.below (OwnP_stays HOW.out ((Below.refl wr.heap.size wr).drew)) (hbe.trans (Below.mono ((Below.refl wr.heap.size wr).drew) hsz)) g2 (Nat.le_trans hsz (Below.size ((Below.refl wr.heap.size wr).drew)))
            clear g2 n2
            go_wp2_with fail
            go_roundw
            case rel => exact ⟨x + 1, y + 1, ss ++ [1], by omega, by omega, by go_num, by go_num, by rw [runsV_snoc]; exact o2, by simp; omega, hT2, by show _ = _; rw [← HO.out, HS.out, List.append_assoc]; rfl, hb2⟩
            case measure => simp only [intOf]; omega
          · have e3 : (a[x] == b[y]) = false := by simp [h3]
            by_cases h4 : tab a b (x + 1) y ≤ tab a b x (y + 1)
            · have e4 : decide (edV a b (x + 1) y ≤ edV a b x (y + 1)) = true := by simpa using (edV_leq hla hlb h1 h2 h3 htD).2 h4
              have HS := Lib.hid (stepsAt_drop h1 h2 h3 h4)
              have hT2 : tab a b (x + 1) y ≤ dist a b := by have := tab_dec h1 h2 h3 h4; omega
              clear h3 h4
              go_wp2_with fail
              go_region
              all_goals go_wp2_with fail
              have hq0 : Below wr.heap.size wr wr.drew := (Below.refl wr.heap.size wr).drew
              have hc1 := HED.out _ hq0 (x + 1) y (by omega) hy
              rw [show ((x + 1 : Nat) : Int) = (x : Int) + 1 from rfl] at hc1
              refine hc1.mono ?_
              rintro z wq1 ⟨rfl, hq1⟩
              have hq2 := hq0.trans (hq1.mono hq0.size)
              clear hq0 hq1 hc1
              go_wp2_with fail
              have hc1 := HED.out _ hq2 x (y + 1) hx (by omega)
              rw [show ((y + 1 : Nat) : Int) = (y : Int) + 1 from rfl] at hc1
              refine hc1.mono ?_
              rintro z wq3 ⟨rfl, hq3⟩
              have hq4 := hq2.trans (hq3.mono hq2.size)
              clear hq2 hq3 hc1
              go_wp2_with fail
              refine (HAD.out 2 _ hq4).mono ?_
              rintro z w2 ⟨v2, rfl, o2, g2, n2⟩
              have hb2 : Below w1.heap.size w1 w2 := OwnS.below (OwnP_stays HOW.out hq4) (hbe.trans (Below.mono hq4 hsz)) g2 (Nat.le_trans hsz (Below.size hq4))
              clear g2 n2
              go_wp2_with fail
              go_roundw
              case rel => exact ⟨x + 1, y, ss ++ [2], by omega, by omega, by go_num, by go_num, by rw [runsV_snoc]; exact o2, by simp; omega, hT2, by show _ = _; rw [← HO.out, HS.out, List.append_assoc]; rfl, hb2⟩
              case measure => simp only [intOf]; omega
            · have e4 : decide (edV a b (x + 1) y ≤ edV a b x (y + 1)) = false := by simpa using (fun h => h4 ((edV_leq hla hlb h1 h2 h3 htD).1 h))
              have HS := Lib.hid (stepsAt_put h1 h2 h3 h4)
              have hT2 : tab a b x (y + 1) ≤ dist a b := by have := tab_dec' h1 h2 h3 h4; omega
              clear h3 h4
              go_wp2_with fail
              go_region
              all_goals go_wp2_with fail
              have hq0 : Below wr.heap.size wr wr.drew := (Below.refl wr.heap.size wr).drew
              have hc1 := HED.out _ hq0 (x + 1) y (by omega) hy
              rw [show ((x + 1 : Nat) : Int) = (x : Int) + 1 from rfl] at hc1
              refine hc1.mono ?_
              rintro z wq1 ⟨rfl, hq1⟩
              have hq2 := hq0.trans (hq1.mono hq0.size)
              clear hq0 hq1 hc1
              go_wp2_with fail
              have hc1 := HED.out _ hq2 x (y + 1) hx (by omega)
              rw [show ((y + 1 : Nat) : Int) = (y : Int) + 1 from rfl] at hc1
              refine hc1.mono ?_
              rintro z wq3 ⟨rfl, hq3⟩
              have hq4 := hq2.trans (hq3.mono hq2.size)
              clear hq2 hq3 hc1
              go_wp2_with fail
              refine (HAD.out 3 _ hq4).mono ?_
              rintro z w2 ⟨v2, rfl, o2, g2, n2⟩
              have hb2 : Below w1.heap.size w1 w2 := OwnS.below (OwnP_stays HOW.out hq4) (hbe.trans (Below.mono hq4 hsz)) g2 (Nat.le_trans hsz (Below.size hq4))
              clear g2 n2
              go_wp2_with fail
              go_roundw
              case rel => exact ⟨x, y + 1, ss ++ [3], by omega, by omega, by go_num, by go_num, by rw [runsV_snoc]; exact o2, by simp; omega, hT2, by show _ = _; rw [← HO.out, HS.out, List.append_assoc]; rfl, hb2⟩
              case measure => simp only [intOf]; omega
        · have e2 : decide ((y : Int) < b.length) = false := by simp; omega
          have e2' : ((y : Int) == b.length) = true := by simp; omega
          have HS := Lib.hid (stepsAt_drop' (b := b) (y := y) h1 (by omega))
          have hT2 : tab a b (x + 1) y ≤ dist a b := by rw [tab_end' (by omega)]; rw [tab_end' (by omega)] at htD; omega
          go_wp2_with fail
          go_region
          all_goals go_wp2_with fail
          refine (HAD.out 2 _ ((Below.refl wr.heap.size wr).drew)).mono ?_
          rintro z w2 ⟨v2, rfl, o2, g2, n2⟩
          have hb2 : Below w1.heap.size w1 w2 := OwnS.below (OwnP_stays HOW.out ((Below.refl wr.heap.size wr).drew)) (hbe.trans (Below.mono ((Below.refl wr.heap.size wr).drew) hsz)) g2 (Nat.le_trans hsz (Below.size ((Below.refl wr.heap.size wr).drew)))
          clear g2 n2
          go_wp2_with fail
          go_roundw
          case rel => exact ⟨x + 1, y, ss ++ [2], by omega, by omega, by go_num, by go_num, by rw [runsV_snoc]; exact o2, by simp; omega, hT2, by show _ = _; rw [← HO.out, HS.out, List.append_assoc]; rfl, hb2⟩
          case measure => simp only [intOf]; omega
      · by_cases h2 : y < b.length
        · have e1 : decide ((x : Int) < a.length) = false := by simp; omega
          have e2 : decide ((y : Int) < b.length) = true := by simp; omega
          have e2' : ((y : Int) == b.length) = false := by simp; omega
          have HS := Lib.hid (stepsAt_put' (a := a) (x := x) (by omega) h2)
          have hT2 : tab a b x (y + 1) ≤ dist a b := by rw [tab_end (by omega)]; rw [tab_end (by omega)] at htD; omega
          go_wp2_with fail
          go_region
          all_goals go_wp2_with fail
          refine (HAD.out 3 _ ((Below.refl wr.heap.size wr).drew)).mono ?_
          rintro z w2 ⟨v2, rfl, o2, g2, n2⟩
          have hb2 : Below w1.heap.size w1 w2 := OwnS.below (OwnP_stays HOW.out ((Below.refl wr.heap.size wr).drew)) (hbe.trans (Below.mono ((Below.refl wr.heap.size wr).drew) hsz)) g2 (Nat.le_trans hsz (Below.size ((Below.refl wr.heap.size wr).drew)))
          clear g2 n2
          go_wp2_with fail
          go_roundw
          case rel => exact ⟨x, y + 1, ss ++ [3], by omega, by omega, by go_num, by go_num, by rw [runsV_snoc]; exact o2, by simp; omega, hT2, by show _ = _; rw [← HO.out, HS.out, List.append_assoc]; rfl, hb2⟩
          case measure => simp only [intOf]; omega
        · obtain rfl : a.length = x := by omega
          obtain rfl : b.length = y := by omega
          clear h1 h2 HED HAD
          go_wp2_with fail
          go_ret
          exact ⟨_, rfl, by rw [HV.out, ← HO.out, stepsAt_end (Nat.le_refl _) (Nat.le_refl _), List.append_nil]; exact OwnS.mono HOW.out hs1'.out, HB3.out.trans (hbe.mono hs1'.out)⟩
end Go.Proofs.Ytidfjemblidjkaa
