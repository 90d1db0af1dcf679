/- frame.check, frame.Write, walked. -/
import Derived.Test.YtgehbabcpmkgaaaDoorDkI
import Derived.Test.YtgehbabcpmkgaaaDoorDkF
namespace Go.Proofs.YtgehbabcpmkgaaaDoor
open Go Go.RowKit
set_option linter.unusedVariables false
/-- the errors that a disk, a frame and a block answer -/
structure ErrsFew (ea : Nat → Addr) (w : World) : Prop where
  e1 : ErrAt w 2 (ea 1)
  e2 : ErrAt w 3 (ea 2)
  e3 : ErrAt w 0 (ea 3)
  e14 : ErrAt w 5 (ea 14)
  e15 : ErrAt w 6 (ea 15)
  e17 : ErrAt w 7 (ea 17)
  e18 : ErrAt w 8 (ea 18)
theorem ErrsAll.few {ea : Nat → Addr} {w : World} (h : ErrsAll ea w) : ErrsFew ea w := ⟨h.e1, h.e2, h.e3, h.e14, h.e15, h.e17, h.e18⟩
theorem ErrsFew.stays {ea : Nat → Addr} {w w' : World} (h : ErrsFew ea w) (hb : Below w.heap.size w w') : ErrsFew ea w' := ⟨h.e1.stays hb, h.e2.stays hb, h.e3.stays hb, h.e14.stays hb, h.e15.stays hb, h.e17.stays hb, h.e18.stays hb⟩
theorem check_ok {w : World} {g gd gm : Nat} {d : Dm} (h : Dk w g gd gm d) {a e : Int} (h1 : 0 ≤ a) (h2 : e ≤ d.dur.length) :
    Calls Tryd.prog 95 #[.pointer (some ⟨g, 0, none⟩), .int .i64 a, .int .i64 e] w fun e' w' => e' = .returned .nilIface ∧ w = w' := by
  have HS := Lib.hid (sectors_get h)
  have t1 : decide ((d.dur.length : Int) < e) = false := decide_eq_false (by omega)
  clear h
  go_enter Tryd.func95, Tryd.ntmps95
  go_wp2_with fail
  refine HS.out.mono ?_
  rintro e' w1 ⟨rfl, rfl⟩
  go_wp2_with fail
  go_ret
  exact ⟨rfl, rfl⟩
theorem check_bad (ea : Nat → Addr) {w : World} {g gd gm : Nat} {d : Dm} (h : Dk w g gd gm d) {a e : Int} (h1 : a < 0 ∨ (d.dur.length : Int) < e) (he1 : ErrAt w 2 (ea 1)) :
    Calls Tryd.prog 95 #[.pointer (some ⟨g, 0, none⟩), .int .i64 a, .int .i64 e] w fun e' w' => e' = .returned (EV ea 1) ∧ w = w' := by
  have HS := Lib.hid (sectors_get h)
  unfold ErrAt at he1
  clear h
  by_cases ha : a < 0
  · clear h1
    go_enter Tryd.func95, Tryd.ntmps95
    go_wp2_with fail
    go_ret
    exact ⟨rfl, rfl⟩
  · have t1 : decide ((d.dur.length : Int) < e) = true := decide_eq_true (by omega)
    have h2 : (d.dur.length : Int) < e := by omega
    clear h1
    go_enter Tryd.func95, Tryd.ntmps95
    go_wp2_with fail
    refine HS.out.mono ?_
    rintro e' w1 ⟨rfl, rfl⟩
    go_wp2_with fail
    go_ret
    exact ⟨rfl, rfl⟩
theorem part_eq (b : List UInt8) (k m : Nat) (hm : m = min (64 * k + 64) b.length) : (b.take m).drop (64 * k) = partV b k := by
  subst hm
  unfold partV
  rw [List.drop_take]
  by_cases h : 64 * k + 64 ≤ b.length
  · rw [Nat.min_eq_left h, show 64 * k + 64 - 64 * k = 64 from by omega]
  · rw [Nat.min_eq_right (by omega), List.take_of_length_le (by simp), List.take_of_length_le (by simp; omega)]
theorem frameV_len {gen : Nat} {bs : List UInt8} (h : ¬ 8192 < bs.length) : (frameV gen bs).length = bs.length + 12 := by
  rw [(frameV_ok h).1, sealed_len, frameH_len]
set_option maxRecDepth 100000 in
set_option maxHeartbeats 8000000 in
theorem fwrite_any (ea : Nat → Addr) {w : World} {g gd gm : Nat} {d : Dm} (hk : Dk w g gd gm d) {a e : Int} (ha1 : -9223372036854775808 ≤ a) (ha2 : a ≤ 9223372036854775807) (he1 : -9223372036854775808 ≤ e) (he2 : e ≤ 9223372036854775807) (gen : Nat) (hgen : gen < 4294967296) (v : Value) (bs : List UInt8) (hr : RowB w v bs) (hl : bs.length ≤ 100000) (hs : d.writes + 130 ≤ 1000000)
    (hEA : ∀ W, Grew [g, gd, gm] w W → ErrsFew ea W) :
    Calls Tryd.prog 49 #[.pointer (some ⟨g, 0, none⟩), .int .i64 a, .int .i64 e, .int .u32 gen, v] w fun e' w' => e' = .returned (.tuple #[.int .i64 (frameW d a e gen bs).2.1, EV ea (frameW d a e gen bs).2.2]) ∧ Dk w' g gd gm (frameW d a e gen bs).1 ∧ Grew [g, gd, gm] w w' := by
  obtain ⟨av, cv, rfl, -, -⟩ := hr.gen.shape
  have HB := Lib.hid (frameBytes_any ea gen _ bs w hr hgen hl (hEA w (Grew.refl _ _)).e3)
  have HKW := Lib.hid hk
  have hgi : (gen : Int) ≤ 4294967295 := by omega
  have HGN := Lib.hid hgen
  have HE1 : Hid (∀ w', Below w.heap.size w w' → ErrAt w' 2 (ea 1)) := fun w' hb => (hEA w' (Grew.ofBelow hb)).e1
  have HE3 : Hid (∀ w', Below w.heap.size w w' → ErrAt w' 0 (ea 3)) := fun w' hb => (hEA w' (Grew.ofBelow hb)).e3
  have HE17 : Hid (∀ w', Below w.heap.size w w' → ErrAt w' 7 (ea 17)) := fun w' hb => (hEA w' (Grew.ofBelow hb)).e17
  have HE15 : Hid (∀ w', Below w.heap.size w w' → ErrAt w' 6 (ea 15)) := fun w' hb => (hEA w' (Grew.ofBelow hb)).e15
  have HEA := Lib.hid hEA
  have HLT := Lib.hid hk.lt
  clear hk hr hgen hEA
  by_cases hlong : 8192 < bs.length
  · rw [(frameV_long (gen := gen) hlong).2, (frameV_long (gen := gen) hlong).1, EV_pos ea (by decide)] at HB
    have HW := Lib.hid (frameW_long (d := d) (a := a) (e := e) (gen := gen) hlong)
    go_enter Tryd.func49, Tryd.ntmps49
    go_wp2_with fail
    refine HB.out.mono ?_
    rintro e' w1 ⟨v1, rfl, -, hb1⟩
    go_wp2_with fail
    go_ret2
    exact ⟨ret2 (by rw [HW.out]; rfl) (by rw [HW.out]; rfl), by rw [HW.out]; exact HKW.out.stays hb1, Grew.ofBelow hb1⟩
  · rw [(frameV_ok (gen := gen) hlong).2, EV_zero] at HB
    by_cases hrange : a < 0 ∨ (d.dur.length : Int) < e
    · have HW := Lib.hid (frameW_range (gen := gen) hlong hrange)
      have HC : Hid (∀ w', Below w.heap.size w w' → Calls Tryd.prog 95 #[.pointer (some ⟨g, 0, none⟩), .int .i64 a, .int .i64 e] w' fun e' w'' => e' = .returned (.iface 248 (.pointer (some (ea 1)))) ∧ w' = w'') := fun w' hb => check_bad ea (HKW.out.stays hb) hrange (HE1.out w' hb)
      clear hrange
      go_enter Tryd.func49, Tryd.ntmps49
      go_wp2_with fail
      refine HB.out.mono ?_
      rintro e' w1 ⟨v1, rfl, -, hb1⟩
      have HC1 := Lib.hid (HC.out w1 hb1)
      go_wp2_with fail
      refine HC1.out.mono ?_
      rintro e' w2 ⟨rfl, rfl⟩
      go_wp2_with fail
      go_ret2
      exact ⟨ret2 (by rw [HW.out]; rfl) (by rw [HW.out]; rfl), by rw [HW.out]; exact HKW.out.stays hb1, Grew.ofBelow hb1⟩
    · have hn1 : 0 ≤ a := by omega
      have hn2 : e ≤ d.dur.length := by omega
      have HC : Hid (∀ w', Below w.heap.size w w' → Calls Tryd.prog 95 #[.pointer (some ⟨g, 0, none⟩), .int .i64 a, .int .i64 e] w' fun e' w'' => e' = .returned .nilIface ∧ w' = w'') := fun w' hb => check_ok (HKW.out.stays hb) hn1 hn2
      have HSC : Hid (∀ w', Calls Tryd.prog 20 #[.int .i64 bs.length] w' fun e' w'' => e' = .returned (.int .i64 (((bs.length + 75) / 64 : Nat) : Int)) ∧ w' = w'') := fun w' => by
        have := sectors_any (bs.length : Int) w' (by omega) (by omega)
        rw [sectorsV_small hlong] at this
        exact this
      obtain ⟨n, hn⟩ : ∃ n, n = (bs.length + 75) / 64 := ⟨_, rfl⟩
      rw [← hn] at HSC
      have hdl := HKW.out.ok.size
      by_cases hfull : e ≤ a ∨ e - a < sectorsV bs.length
      · have HW := Lib.hid (frameW_full (gen := gen) hlong hrange hfull)
        rw [sectorsV_small hlong, ← hn] at hfull
        clear hrange hn
        by_cases hea : e ≤ a
        · have hea' : ¬ a < e := by omega
          clear hfull
          go_enter Tryd.func49, Tryd.ntmps49
          go_wp2_with fail
          refine HB.out.mono ?_
          rintro e' w1 ⟨v1, rfl, -, hb1⟩
          have HC1 := Lib.hid (HC.out w1 hb1)
          have hE := HE15.out w1 hb1
          unfold ErrAt at hE
          go_wp2_with fail
          refine HC1.out.mono ?_
          rintro e' w2 ⟨rfl, rfl⟩
          go_wp2_with fail
          refine (HSC.out w1).mono ?_
          rintro e' w2 ⟨rfl, rfl⟩
          go_wp2_with fail
          go_quiet (fail)
          go_wp2_with fail
          go_ret2
          exact ⟨ret2 (by rw [HW.out]; rfl) (by rw [HW.out]; rfl), by rw [HW.out]; exact (HKW.out.stays hb1).stays (below_drewQ (Below.refl _ _)), Grew.ofBelow (below_drewQ hb1)⟩
        · have hlt : (n : Int) > e - a := by omega
          have ht : decide ((n : Int) > e - a) = true := decide_eq_true hlt
          clear hfull
          go_enter Tryd.func49, Tryd.ntmps49
          go_wp2_with fail
          refine HB.out.mono ?_
          rintro e' w1 ⟨v1, rfl, -, hb1⟩
          have HC1 := Lib.hid (HC.out w1 hb1)
          have hE := HE15.out w1 hb1
          unfold ErrAt at hE
          go_wp2_with fail
          refine HC1.out.mono ?_
          rintro e' w2 ⟨rfl, rfl⟩
          go_wp2_with fail
          refine (HSC.out w1).mono ?_
          rintro e' w2 ⟨rfl, rfl⟩
          go_wp2_with fail
          go_quiet (fail)
          go_wp2_with fail
          go_ret2
          exact ⟨ret2 (by rw [HW.out]; rfl) (by rw [HW.out]; rfl), by rw [HW.out]; exact (HKW.out.stays hb1).stays (below_drewQ (Below.refl _ _)), Grew.ofBelow (below_drewQ hb1)⟩
      · have HNF := Lib.hid hfull
        obtain ⟨d', K, hwall⟩ : ∃ d' K, wAll (frameV gen bs) a n 0 d = (d', K) := ⟨_, _, rfl⟩
        have HW : Hid (frameW d a e gen bs = (d', if K = 0 then sectorsV bs.length else 0, K)) := Lib.hid (frameW_go hlong hrange hfull (by rw [← hn]; exact hwall))
        have hKle : K ≤ 19 := by have := wAll_le (frameV gen bs) a n 0 d; rw [hwall] at this; exact this
        have hXl := frameV_len (gen := gen) hlong
        have hsec := sectorsV_small hlong
        rw [hsec, ← hn] at hfull
        have hea : ¬ e ≤ a := fun h => hfull (.inl h)
        have hge : ¬ ((n : Int) > e - a) := fun h => hfull (.inr h)
        have hnl : 64 * n < bs.length + 12 + 64 := by omega
        obtain ⟨X, hX⟩ : ∃ X, X = frameV gen bs := ⟨_, rfl⟩
        rw [← hX] at HB hwall hXl
        have hns : sectorsV (bs.length : Int) = (n : Int) := by rw [hsec, ← hn]
        rw [hns] at HW
        have HWA : Hid (wAll X a (n - 0) 0 d = (d', K)) := hwall
        have hn130 : n ≤ 130 := by omega
        have HN := Lib.hid hnl
        have HXL := Lib.hid hXl
        have hXs : X.length ≤ 100000 := by omega
        clear hX hn hns hsec hXl hnl hwall hfull hrange HNF hlong
        go_enter Tryd.func49, Tryd.ntmps49
        go_wp2_with fail
        refine HB.out.mono ?_
        rintro e' w1 ⟨v1, rfl, ho1, hb1⟩
        have HC1 := Lib.hid (HC.out w1 hb1)
        have hr1 := ho1.row
        obtain ⟨a1, c1, rfl, -, -⟩ := hr1.gen.shape
        have HV1 : Hid (∀ W, Grew [g, gd, gm] w1 W → RowB W (.slice a1 X.length c1) X) := fun W hW => hW.rowB hr1 (fun _ q hq => by
          have h1 := HLT.out
          have h2 := (World.ownsRow.lt ho1 q hq).1
          simp; omega)
        have HG1 : Hid (∀ W, Grew [g, gd, gm] w1 W → Grew [g, gd, gm] w W) := fun W hW => (Grew.ofBelow hb1).trans hW
        have hk1 := HKW.out.stays hb1
        clear ho1 hr1 HB hb1 HE1 HE3 HE17 HE15 HC
        go_wp2_with fail
        refine HC1.out.mono ?_
        rintro e' w2 ⟨rfl, rfl⟩
        go_wp2_with fail
        refine (HSC.out w1).mono ?_
        rintro e' w2 ⟨rfl, rfl⟩
        go_wp2_with fail
        go_loopw [53] (fun i wr => ∃ (k : Nat) (D : Dm), k ≤ n ∧ i = .int .i64 k ∧ Dk wr g gd gm D ∧ Hid (wAll X a (n - k) k D = (d', K)) ∧ D.dur.length = d.dur.length ∧ D.writes ≤ d.writes + k ∧ Grew [g, gd, gm] w1 wr) (fun i _ => n - (intOf i).toNat)
        case atStart => exact ⟨0, d, Nat.zero_le _, rfl, hk1, HWA, rfl, Nat.le_refl _, Grew.refl _ _⟩
        case round =>
          clear hk1 HWA HC1 HSC HKW
          obtain ⟨k, D, hkn, rfl, hkd, hwa, hDl, hDw, hgr⟩ := hrel
          by_cases hlt : k < n
          · have hrow := (HV1.out wr hgr).gen
            have hk64 : 64 * k ≤ X.length := by have := HN.out; have := HXL.out; omega
            obtain ⟨j, hj⟩ : ∃ j, n - k = j + 1 := ⟨n - k - 1, by omega⟩
            have hj' : n - (k + 1) = j := by omega
            rw [hj] at hwa
            have hpl := partV_len X k
            have HErr := HEA.out wr (HG1.out wr hgr)
            have HNK : Hid (n - (k + 1) = j) := hj'
            have HGR := Lib.hid hgr
            have HKD := Lib.hid hkd
            have HDL := Lib.hid hDl
            have HROW := Lib.hid hrow
            have HP : Hid (∀ m : Nat, m = min (64 * k + 64) X.length → (X.take m).drop (k * 64) = partV X k) := fun m hm => by rw [Nat.mul_comm]; exact part_eq X k m hm
            have HWC : Hid (∀ v', RowB wr v' (partV X k) → Calls Tryd.prog 55 #[.pointer (some ⟨g, 0, none⟩), .int .i64 (a + k), v'] wr fun e w' => e = .returned (EV ea (writeK D (a + k) (partV X k))) ∧ Dk w' g gd gm (writeM D (a + k) (partV X k)) ∧ Grew [g, gd, gm] wr w') := fun v' hr' => write_any ea hkd (x := a + k) (by omega) (by omega) v' (partV X k) hr' (by omega) (by omega) HErr.e1 HErr.e3 HErr.e17
            have hkw := writeM_writes D (a + k) (partV X k)
            clear hgr hkd hDl hrow HErr hj hj' hpl
            by_cases hw0 : writeK D (a + k) (partV X k) = 0
            · rw [hw0, EV_zero] at HWC
              have HWA2 : Hid (wAll X a (n - (k + 1)) (k + 1) (writeM D (a + k) (partV X k)) = (d', K)) := by show _ = _; rw [HNK.out, ← wAll_go hw0]; exact hwa.out
              clear hw0 hwa
              by_cases hm : (k : Int) * 64 + 64 ≤ X.length
              · go_wp2_with (refine wpList_slicePart (o := ⟨some 69, _, _, _, _, _⟩) (f := BV) HROW.out (k * 64) (k * 64 + 64) (by omega) (by omega) Tryd.underlying23 infoB rfl _ _ _ rfl rfl .i64 _ rfl (by simp) .i64 _ rfl (by first | (split <;> omega) | (simp; done) | (simp; omega)) ?_)
                intro v69 hr69
                rw [HP.out (k * 64 + 64) (by omega)] at hr69
                have HC69 := Lib.hid (HWC.out v69 hr69)
                clear hr69
                go_wp2_with fail
                refine HC69.out.mono ?_
                rintro e' w3 ⟨rfl, hk3, hg3⟩
                have hg13 := HGR.out.trans hg3
                clear hg3 HC69 HWC HGR HKD HROW HP
                go_wp2_with fail
                go_roundw
                case rel => exact ⟨k + 1, _, by omega, by go_num, hk3, HWA2, by rw [writeM_dur]; exact HDL.out, by omega, hg13⟩
                case measure => simp [intOf]; omega
              · go_wp2_with (refine wpList_slicePart (o := ⟨some 69, _, _, _, _, _⟩) (f := BV) HROW.out (k * 64) X.length (by omega) (by omega) Tryd.underlying23 infoB rfl _ _ _ rfl rfl .i64 _ rfl (by simp) .i64 _ rfl (by first | (split <;> omega) | (simp; done) | (simp; omega)) ?_)
                intro v69 hr69
                have hpx := HP.out X.length (by omega)
                rw [List.take_length] at hpx
                rw [hpx] at hr69
                clear hpx
                have HC69 := Lib.hid (HWC.out v69 hr69)
                clear hr69
                go_wp2_with fail
                refine HC69.out.mono ?_
                rintro e' w3 ⟨rfl, hk3, hg3⟩
                have hg13 := HGR.out.trans hg3
                clear hg3 HC69 HWC HGR HKD HROW HP
                go_wp2_with fail
                go_roundw
                case rel => exact ⟨k + 1, _, by omega, by go_num, hk3, HWA2, by rw [writeM_dur]; exact HDL.out, by omega, hg13⟩
                case measure => simp [intOf]; omega
            · have HWX : Hid (d' = D ∧ K = writeK D (a + k) (partV X k)) := by
                have h1 := hwa.out
                rw [wAll_stop hw0] at h1
                exact ⟨(Prod.mk.inj h1).1.symm, (Prod.mk.inj h1).2.symm⟩
              have HK0 := Lib.hid hw0
              have HWM := Lib.hid (writeM_bad hw0)
              rw [EV_pos ea hw0] at HWC
              clear hw0 hwa
              by_cases hm : (k : Int) * 64 + 64 ≤ X.length
              · go_wp2_with (refine wpList_slicePart (o := ⟨some 69, _, _, _, _, _⟩) (f := BV) HROW.out (k * 64) (k * 64 + 64) (by omega) (by omega) Tryd.underlying23 infoB rfl _ _ _ rfl rfl .i64 _ rfl (by simp) .i64 _ rfl (by first | (split <;> omega) | (simp; done) | (simp; omega)) ?_)
                intro v69 hr69
                rw [HP.out (k * 64 + 64) (by omega)] at hr69
                have HC69 := Lib.hid (HWC.out v69 hr69)
                clear hr69
                go_wp2_with fail
                refine HC69.out.mono ?_
                rintro e' w3 ⟨rfl, hk3, hg3⟩
                have hg13 := HG1.out _ (HGR.out.trans hg3)
                clear hg3 HC69 HWC HGR HKD HROW HP
                go_wp2_with fail
                go_ret2
                obtain ⟨rfl, hKK⟩ := HWX.out
                exact ⟨ret2 (by rw [HW.out]; show _ = Value.int .i64 (if K = 0 then _ else _); rw [if_neg (by rw [hKK]; exact HK0.out)]; rfl) (by rw [HW.out]; show _ = EV ea K; rw [hKK, EV_pos ea HK0.out]; rfl), by rw [HW.out]; rw [HWM.out] at hk3; exact hk3, hg13⟩
              · go_wp2_with (refine wpList_slicePart (o := ⟨some 69, _, _, _, _, _⟩) (f := BV) HROW.out (k * 64) X.length (by omega) (by omega) Tryd.underlying23 infoB rfl _ _ _ rfl rfl .i64 _ rfl (by simp) .i64 _ rfl (by first | (split <;> omega) | (simp; done) | (simp; omega)) ?_)
                intro v69 hr69
                have hpx := HP.out X.length (by omega)
                rw [List.take_length] at hpx
                rw [hpx] at hr69
                clear hpx
                have HC69 := Lib.hid (HWC.out v69 hr69)
                clear hr69
                go_wp2_with fail
                refine HC69.out.mono ?_
                rintro e' w3 ⟨rfl, hk3, hg3⟩
                have hg13 := HG1.out _ (HGR.out.trans hg3)
                clear hg3 HC69 HWC HGR HKD HROW HP
                go_wp2_with fail
                go_ret2
                obtain ⟨rfl, hKK⟩ := HWX.out
                exact ⟨ret2 (by rw [HW.out]; show _ = Value.int .i64 (if K = 0 then _ else _); rw [if_neg (by rw [hKK]; exact HK0.out)]; rfl) (by rw [HW.out]; show _ = EV ea K; rw [hKK, EV_pos ea HK0.out]; rfl), by rw [HW.out]; rw [HWM.out] at hk3; exact hk3, hg13⟩
          · obtain rfl : k = n := by omega
            have HWX : Hid (D = d' ∧ 0 = K) := by
              have h1 := hwa.out
              rw [Nat.sub_self] at h1
              exact ⟨(Prod.mk.inj h1).1, (Prod.mk.inj h1).2⟩
            have hg13 := HG1.out _ hgr
            have HKD := Lib.hid hkd
            clear hwa hgr hkd
            go_wp2_with fail
            go_ret2
            obtain ⟨rfl, rfl⟩ := HWX.out
            exact ⟨ret2 (by rw [HW.out]; rfl) (by rw [HW.out]; rfl), by rw [HW.out]; exact HKD.out, hg13⟩
theorem fwrite_nil (ea : Nat → Addr) (w : World) (a e : Int) (gen : Int) (v : Value) (h14 : ErrAt w 5 (ea 14)) :
    Calls Tryd.prog 49 #[.pointer none, .int .i64 a, .int .i64 e, .int .u32 gen, v] w fun e' w' => e' = .returned (.tuple #[.int .i64 0, EV ea 14]) ∧ Below w.heap.size w w' := by
  unfold ErrAt at h14
  go_enter Tryd.func49, Tryd.ntmps49
  go_wp2_with fail
  go_quiet (fail)
  go_wp2_with fail
  go_ret2
  exact ⟨ret2 rfl rfl, below_drewQ (Below.refl _ _)⟩
end Go.Proofs.YtgehbabcpmkgaaaDoor
