/- The walk of MyersLeast: what aligns is a way with the least edits. -/
import Derived.Test.YtidfjemblidjkaaWMyersAligns
import Derived.Test.YtidfjemblidjkaaMyQ
import Derived.Test.YtidfjemblidjkaaMyO
import Derived.Test.YtidfjemblidjkaaOpenR
namespace Go.Proofs.Ytidfjemblidjkaa
open Go Go.RowKit
set_option linter.unusedVariables false
set_option maxRecDepth 100000 in
set_option maxHeartbeats 8000000 in
theorem walkMyersLeast (w : World) (va : Value) (a : List Int) (hra : RowZ w va a) (hxa : ∀ n ∈ a, -9223372036854775808 ≤ n ∧ n ≤ 9223372036854775807) (vb : Value) (b : List Int) (hrb : RowZ w vb b) (hxb : ∀ n ∈ b, -9223372036854775808 ≤ n ∧ n ≤ 9223372036854775807)
    (vr : Value) (rs : List Rn) (hr : RowS rnC w vr rs) (hxr : ∀ r ∈ rs, (-9223372036854775808 ≤ r.1 ∧ r.1 ≤ 9223372036854775807) ∧ (-9223372036854775808 ≤ r.2 ∧ r.2 ≤ 9223372036854775807)) (hreach : rs.length * 16 ≤ 140737488351232) :
    Calls Try.prog 5 #[va, vb, vr] w fun e w' => e = .returned (.bool true) ∧ Below w.heap.size w w' := by
  clear hxa hxb
  have HA := Lib.hid (alive19 w)
  have HOF : Hid (∀ w', Below w.heap.size w w' → _) := fun w' hb => of_any vr rs w' (RowS.stays hr hb) (fun r h => (hxr r h).2) hreach
  obtain ⟨aa, ca, rfl, hma, -⟩ := hra.gen.shape
  obtain ⟨ab, cb, rfl, hmb, -⟩ := hrb.gen.shape
  unfold maxLen at hma hmb
  have HRA : Hid (∀ w', Below w.heap.size w w' → RowZ w' _ a) := fun w' hb => hra.gen.stays hb
  have HRB : Hid (∀ w', Below w.heap.size w w' → RowZ w' _ b) := fun w' hb => hrb.gen.stays hb
  have HRR : Hid (∀ w', Below w.heap.size w w' → RowS rnC w' vr rs) := fun w' hb => RowS.stays hr hb
  clear hra hrb hr hxr hreach
  go_enter Try.func5, Try.ntmps5
  go_wp2_with fail
  refine HA.out.mono ?_
  rintro e w1 ⟨rfl, hb1⟩
  go_wp2_with fail
  refine (HOF.out w1 hb1).mono ?_
  rintro e w2 ⟨v', B, rfl, hof, hb2⟩
  have hbe2 := hb1.trans (hb2.mono hb1.size)
  clear hb1 hb2 HOF
  cases B with
  | false =>
    clear hof
    go_wp2_with fail
    go_ret
    exact ⟨rfl, hbe2⟩
  | true =>
    have hrl := (hof rfl).2.1
    have HRN := Lib.hid (hof rfl).2.2
    clear hof
    by_cases hl : 60 < a.length
    · go_wp2_with fail
      go_ret
      exact ⟨rfl, hbe2⟩
    · by_cases hl2 : 60 < b.length
      · go_wp2_with fail
        go_ret
        exact ⟨rfl, hbe2⟩
      · have hla : a.length ≤ 60 := by omega
        have hlb : b.length ≤ 60 := by omega
        have hdl := dist_le _ a b (Nat.le_refl _)
        have hkf := kept_far (a := a) (b := b) (by omega)
        have hsl := stepsV_len a b
        have hgd := runsV_good (stepsV a b)
        have hkl := keptV_le a b
        have haw := align_way (a := a) (b := b) (by omega)
        have HAL := Lib.hid (align_any _ _ a b w2 (HRA.out _ hbe2) (HRB.out _ hbe2) (by omega) (by omega))
        have hN : ∀ r ∈ alignV a b, 1 ≤ r.2 ∧ r.2 ≤ 120 := fun r h => by have := hgd.1 r h; omega
        have hnl : (alignV a b).length ≤ 120 := Nat.le_trans hgd.2 (by omega)
        have hpt := runsV_parted (stepsV a b)
        have HPT : Hid (parted (alignV a b)) := hpt
        have HW := Lib.hid haw.1
        have HED := Lib.hid haw.2
        have HKF := Lib.hid hkf
        have HN := Lib.hid hN
        obtain ⟨al, hal⟩ : ∃ al, al = alignV a b := ⟨_, rfl⟩
        rw [← hal] at HAL HN hnl HPT HW HED
        have hdl2 : dist a b ≤ 120 := by omega
        have hdi1 : (dist a b : Int) ≤ 120 := by omega
        have hkl2 : (keptV a b : Int) ≤ 120 := by omega
        clear hl hl2 hdl hkf hsl hgd hkl haw hN hpt hal
        go_wp2_with fail
        refine HAL.out.mono ?_
        rintro e w3 ⟨v9, rfl, ho9, hb3⟩
        have hbe3 := hbe2.trans (hb3.mono hbe2.size)
        have HO9 : Hid (∀ w', Below w3.heap.size w3 w' → RowS rnC w' v9 al) := fun w' hb => RowS.stays ho9.row hb
        obtain ⟨a9, c9, hv9, -, -⟩ := ho9.row.shape rnC_len
        subst hv9
        have hed := editsR_any _ al w3 ho9.row (fun r h => by have := HN.out r h; omega) (by omega)
        rw [HED.out] at hed
        have HE1 := Lib.hid hed
        clear ho9 hb3 hbe2 hed
        go_wp2_with fail
        refine HE1.out.mono ?_
        rintro e w4 ⟨rfl, hb4⟩
        have hbe4 := hbe3.trans (hb4.mono hbe3.size)
        have hwp := wayProg_any _ _ _ al a b w4 (HO9.out _ hb4) (HRA.out _ hbe4) (HRB.out _ hbe4) (fun r h => by have := HN.out r h; omega) (by omega) (by omega) (by omega)
        rw [HW.out] at hwp
        have HWP := Lib.hid hwp
        clear hwp
        go_wp2_with fail
        refine HWP.out.mono ?_
        rintro e w5 ⟨rfl, hb5⟩
        have hb35 := hb4.trans (hb5.mono hb4.size)
        have hbe5 := hbe4.trans (hb5.mono hbe4.size)
        have hd1 := distance_any _ _ a b w5 (by omega) (by omega) (HRA.out _ hbe5) (HRB.out _ hbe5)
        rw [show farV a b = dist a b from by unfold farV; omega] at hd1
        have HD1 := Lib.hid hd1
        clear hd1 hb4 hb5 hbe4
        go_wp2_with fail
        refine HD1.out.mono ?_
        rintro e w6 ⟨rfl, hb6⟩
        have hb36 := hb35.trans (hb6.mono hb35.size)
        have hbe6 := hbe5.trans (hb6.mono hbe5.size)
        have hd2 := distance_any _ _ b a w6 (by omega) (by omega) (HRB.out _ hbe6) (HRA.out _ hbe6)
        rw [show farV b a = dist a b from by unfold farV; rw [dist_comm]; omega] at hd2
        have HD2 := Lib.hid hd2
        clear hd2 hb6 hb35 hbe5
        go_wp2_with fail
        refine HD2.out.mono ?_
        rintro e w7 ⟨rfl, hb7⟩
        have hb37 := hb36.trans (hb7.mono hb36.size)
        have hbe7 := hbe6.trans (hb7.mono hbe6.size)
        have HCO := Lib.hid (common_any _ _ a b w7 (HRA.out _ hbe7) (HRB.out _ hbe7) (by omega) (by omega))
        clear hb7 hb36 hbe6
        go_wp2_with fail
        refine HCO.out.mono ?_
        rintro e w8 ⟨rfl, hb8⟩
        have hb38 := hb37.trans (hb8.mono hb37.size)
        have hbe8 := hbe7.trans (hb8.mono hbe7.size)
        have e9 : ((dist a b : Int) != (a.length : Int) + b.length - 2 * (keptV a b : Nat)) = false := by have := HKF.out; simp; omega
        have hin := (HO9.out _ hb38).shape rnC_len
        obtain ⟨a9', c9', hv, -, hin⟩ := hin
        cases hv
        have HIN := Lib.hid hin
        have hs8 := hbe8.size
        clear hb8 hb37 hbe7 hin
        go_wp2_with fail
        go_loopw [73] (fun i wr => ∃ m : Nat, m ≤ al.length ∧ i = .int .i64 m ∧ Below w8.heap.size w8 wr) (fun i _ => al.length - (intOf i).toNat)
        case atStart => exact ⟨0, Nat.zero_le _, rfl, Below.refl _ _⟩
        case round =>
          obtain ⟨m, hm, rfl, hbi⟩ := hrel
          by_cases h1 : m < al.length
          · obtain ⟨⟨k, c⟩, hx⟩ : ∃ r, al[m]? = some r := ⟨_, List.getElem?_eq_getElem h1⟩
            have hc1 : 1 ≤ c := (HN.out (k, c) (List.mem_of_getElem? hx)).1
            have hc2 : c ≤ 120 := (HN.out (k, c) (List.mem_of_getElem? hx)).2
            obtain ⟨gb, ob, rfl, hc⟩ := HIN.out m _ hx
            have d0 := cell_below hbi (hc 0 (.int .i64 k) rfl)
            have d1 := cell_below hbi (hc 1 (.int .i64 c) rfl)
            rw [Nat.add_zero] at d0
            rw [← Nat.add_assoc] at d1
            have hbA : Below wr.heap.size wr (wr.alloc (.cells #[.int .i64 k, .int .i64 c] 41)) := (Below.refl _ _).alloc (Nat.le_refl _) _
            have hbW := hbi.alloc hbi.size (.cells #[.int .i64 k, .int .i64 c] 41)
            have e1 : decide (c < 1) = false := by simp; omega
            cases m with
            | zero =>
              rw [show ((0 : Nat) : Int) = 0 from rfl]
              rw [Nat.zero_mul, Nat.add_zero] at d0
              rw [Nat.zero_mul, Nat.add_zero] at d1
              clear hc hx hbi hbA
              go_wp2_with fail
              go_quiet (fail)
              go_wp2_with fail
              go_roundw
              case rel => exact ⟨1, by omega, by go_num, below_drewN hbW⟩
              case measure => simp only [intOf]; omega
            | succ j =>
              obtain ⟨⟨k', c'⟩, hx'⟩ : ∃ r, al[j]? = some r := ⟨_, List.getElem?_eq_getElem (by omega)⟩
              have hne := parted_at al j _ _ HPT.out hx' hx
              simp only [] at hne
              obtain ⟨gb', ob', hh, hc'⟩ := HIN.out j _ hx'
              cases hh
              have d2 := cell_below hbA (cell_below hbi (hc' 0 (.int .i64 k') rfl))
              rw [Nat.add_zero] at d2
              have q1 : ((j + 1 : Nat) : Int) - 1 = (j : Int) := by omega
              have e3 : (k' == k) = false := by simpa using hne
              have hji : (j : Int) + 1 ≤ 120 := by omega
              obtain ⟨J, hJ⟩ : ∃ J : Nat, J = j + 1 := ⟨_, rfl⟩
              have HJ := Lib.hid hJ
              have e2 : decide ((J : Int) > 0) = true := by simp; omega
              have e2' : decide (0 < J) = true := by simp; omega
              have hJ0 : 0 < J := by omega
              have q2 : (J : Int) - 1 = (j : Int) := by omega
              have hJ1 : (J : Int) ≤ 120 := by omega
              rw [← hJ] at d0 d1 h1 hm ⊢
              clear hc hx hbi hbA hc' hx' hne q1 hJ
              go_wp2_with fail
              go_quiet (fail)
              go_wp2_with fail
              go_roundw
              case rel => exact ⟨J + 1, by omega, by go_num, below_drewN hbW⟩
              case measure => simp only [intOf]; omega
          · obtain rfl : al.length = m := by omega
            have hbe9 := hbe8.trans (hbi.mono hs8)
            have has := align_self a
            have HOW := Lib.hid (align_any _ _ a a wr (HRA.out _ hbe9) (HRA.out _ hbe9) (by omega) (by omega))
            have HAS := Lib.hid has
            clear h1 has hbi
            have HEND : Hid (∀ wq, Below w.heap.size w wq → Calls Try.prog 20 #[vr, .slice aa a.length ca, .slice ab b.length cb] wq fun e w' => e = .returned (.bool (wayB rs a b)) ∧ Below wq.heap.size wq w') := fun wq hq => wayProg_any _ _ _ rs a b wq (HRR.out _ hq) (HRA.out _ hq) (HRB.out _ hq) (fun r h => by have := HRN.out r h; omega) (by omega) (by omega) (by omega)
            have HEDR : Hid (∀ wq, Below w.heap.size w wq → Calls Try.prog 19 #[vr] wq fun e w' => e = .returned (.int .i64 (editsV rs)) ∧ Below wq.heap.size wq w') := fun wq hq => editsR_any _ rs wq (HRR.out _ hq) (fun r h => by have := HRN.out r h; omega) (by omega)
            have HLE : Hid (wayB rs a b = true → (dist a b : Int) ≤ editsV rs) := fun h => way_least h
            have hes := editsV_take (rs := rs) (fun r h => by have := HRN.out r h; omega) rs.length
            rw [List.take_length] at hes
            have hes1 : 0 ≤ editsV rs := hes.1
            have hes2 : editsV rs ≤ 40000 := by have := hes.2; omega
            clear hes
            go_wp2_with fail
            refine HOW.out.mono ?_
            rintro e w10 ⟨v13, rfl, ho13, hb10⟩
            have hbe10 := hbe9.trans (hb10.mono hbe9.size)
            clear hb10 hbe9
            by_cases h0 : a.length = 0
            · have HA0 := Lib.hid (HAS.out.trans (if_pos h0))
              have ho := ho13
              rw [HA0.out] at ho
              obtain ⟨a13, c13, hv13, -, -⟩ := ho.row.shape rnC_len
              subst hv13
              have e1 : decide ((a.length : Int) > 0) = false := decide_eq_false (by omega)
              have e1' : decide (0 < a.length) = false := decide_eq_false (by omega)
              have e2 : ((a.length : Int) == 0) = true := by rw [beq_iff_eq]; omega
              have e2' : (a.length == 0) = true := by rw [beq_iff_eq]; omega
              clear ho ho13 h0
              go_wp2_with fail
              refine (HEND.out _ hbe10).mono ?_
              rintro e w20 ⟨rfl, hb20⟩
              have hbe20 := Below.trans hbe10 (hb20.mono (Below.size hbe10))
              cases hwb : wayB rs a b with
              | false =>
                clear hwb
                go_wp2_with fail
                go_ret
                exact ⟨rfl, hbe20⟩
              | true =>
                have hle := HLE.out hwb
                have e5 : decide (editsV rs ≥ (dist a b : Int)) = true := by simpa using hle
                clear hwb hle
                go_wp2_with fail
                refine (HEDR.out _ hbe20).mono ?_
                rintro e w21 ⟨rfl, hb21⟩
                have hbe21 := hbe20.trans (hb21.mono hbe20.size)
                go_wp2_with fail
                go_ret
                exact ⟨rfl, hbe21⟩
            · have HA0 := Lib.hid (HAS.out.trans (if_neg h0))
              have ho := ho13.row
              rw [HA0.out] at ho
              have e1 : decide ((a.length : Int) > 0) = true := decide_eq_true (by omega)
              have e1' : decide (0 < a.length) = true := decide_eq_true (by omega)
              have e2 : ((a.length : Int) == 0) = false := by rw [beq_eq_false_iff_ne]; omega
              have e2' : (a.length == 0) = false := by rw [beq_eq_false_iff_ne]; omega
              have hlp : 0 < a.length := by omega
              have r1 := RowS.stays ho ((Below.refl w10.heap.size w10).alloc (Nat.le_refl _) (.cells #[.int .i64 1, .int .i64 a.length] 42))
              have r2 : RowS rnC (w10.alloc (.cells #[.int .i64 1, .int .i64 a.length] 42)) (.slice (some ⟨w10.heap.size, 0, none⟩) 1 1) [(1, (a.length : Int))] := RowS.new w10 _ _ _ 1 rfl rfl (by decide)
              have HSM := Lib.hid (same_any v13 _ _ _ r1 r2 (by simp))
              have hbe11 := hbe10.alloc hbe10.size (.cells #[.int .i64 1, .int .i64 a.length] 42)
              clear ho ho13 h0 r1 r2 hbe10
              go_wp2_with fail
              refine HSM.out.mono ?_
              rintro e w12 ⟨rfl, hb12⟩
              have hbe12 := hbe11.trans (hb12.mono hbe11.size)
              clear hbe11 hb12
              go_wp2_with fail
              refine (HEND.out _ hbe12).mono ?_
              rintro e w20 ⟨rfl, hb20⟩
              have hbe20 := Below.trans hbe12 (hb20.mono (Below.size hbe12))
              cases hwb : wayB rs a b with
              | false =>
                clear hwb
                go_wp2_with fail
                go_ret
                exact ⟨rfl, hbe20⟩
              | true =>
                have hle := HLE.out hwb
                have e5 : decide (editsV rs ≥ (dist a b : Int)) = true := by simpa using hle
                clear hwb hle
                go_wp2_with fail
                refine (HEDR.out _ hbe20).mono ?_
                rintro e w21 ⟨rfl, hb21⟩
                have hbe21 := hbe20.trans (hb21.mono hbe20.size)
                go_wp2_with fail
                go_ret
                exact ⟨rfl, hbe21⟩
end Go.Proofs.Ytidfjemblidjkaa
