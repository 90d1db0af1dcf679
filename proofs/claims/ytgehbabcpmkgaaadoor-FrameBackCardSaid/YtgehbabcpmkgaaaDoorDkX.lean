/- The document's frame.Write, walked. -/
import Derived.Test.YtgehbabcpmkgaaaDoorDkW
namespace Go.Proofs.YtgehbabcpmkgaaaDoor
open Go Go.RowKit
set_option linter.unusedVariables false
theorem strB_drop (bs : List UInt8) (n : Nat) : (strB bs).extract n bs.length = strB (bs.drop n) := by
  apply ByteArray.ext
  simp [strB, ByteArray.data_extract]
  rw [List.take_of_length_le (by simp)]
set_option maxRecDepth 100000 in
set_option maxHeartbeats 8000000 in
theorem rfwrite_any {w : World} {B h N : Nat} {d : Dm} (r : Rd2 w B h N d) (hok : d.Ok) (hB : B ≤ w.heap.size) (hN : N + 130 ≤ 1000000) {a e : Int} (ha1 : -9223372036854775808 ≤ a) (ha2 : a ≤ 9223372036854775807) (he1 : -9223372036854775808 ≤ e) (he2 : e ≤ 9223372036854775807) (gen : Nat) (hgen : gen < 4294967296) (bs : List UInt8) (hl : bs.length ≤ 100000) (hs : d.writes + 130 ≤ 1000000) :
    Calls Tryd.prog 50 #[.pointer (some ⟨h, 0, none⟩), .int .i64 a, .int .i64 e, .int .u32 gen, .string (strB bs)] w fun e' w' => e' = .returned (.tuple #[.int .i64 (frameW d a e gen bs).2.1, .int .i64 (frameW d a e gen bs).2.2]) ∧ Rd2 w' B h (N + 130) (frameW d a e gen bs).1 ∧ Grew [h] w w' := by
  have HB := Lib.hid (rframeBytes_any gen bs w hgen hl)
  have hsz : (strB bs).size = bs.length := strB_size bs
  have hgi : (gen : Int) ≤ 4294967295 := by omega
  have HR : Hid (∀ w', Below w.heap.size w w' → Rd2 w' B h N d) := fun w' hb => r.stays hb
  have HRN : Hid (∀ w', Below w.heap.size w w' → Rd2 w' B h (N + 130) d) := fun w' hb => (r.stays hb).mono (Nat.le_add_right _ _) hN
  have HS0 : Hid (∀ w', Below w.heap.size w w' → w'.cell? ⟨h, 0, none⟩ = some (.int .i64 d.dur.length)) := fun w' hb => by
    obtain ⟨m, vd, vw, k, sim, -⟩ := r.stays hb
    have := k.cells.cell 0 (v := .int .i64 m.size) rfl
    rw [sim.size] at this
    exact this
  have hdl := hok.size
  clear r hgen
  by_cases hlong : 8192 < bs.length
  · rw [(frameV_long (gen := gen) hlong).2, (frameV_long (gen := gen) hlong).1] at HB
    have HW := Lib.hid (frameW_long (d := d) (a := a) (e := e) (gen := gen) hlong)
    go_enter Tryd.func50, Tryd.ntmps50
    go_wp2_with fail
    refine HB.out.mono ?_
    rintro e' w1 ⟨rfl, hb1⟩
    go_wp2_with fail
    go_ret2
    exact ⟨ret2 (by rw [HW.out]; rfl) (by rw [HW.out]; rfl), by rw [HW.out]; exact HRN.out w1 hb1, Grew.ofBelow hb1⟩
  · rw [(frameV_ok (gen := gen) hlong).2] at HB
    by_cases hrange : a < 0 ∨ (d.dur.length : Int) < e
    · have HW := Lib.hid (frameW_range (gen := gen) hlong hrange)
      by_cases ha : a < 0
      · clear hrange
        go_enter Tryd.func50, Tryd.ntmps50
        go_wp2_with fail
        refine HB.out.mono ?_
        rintro e' w1 ⟨rfl, hb1⟩
        go_wp2_with fail
        go_ret2
        exact ⟨ret2 (by rw [HW.out]; rfl) (by rw [HW.out]; rfl), by rw [HW.out]; exact HRN.out w1 hb1, Grew.ofBelow hb1⟩
      · have hlt : (d.dur.length : Int) < e := by omega
        have ht : decide ((d.dur.length : Int) < e) = true := decide_eq_true hlt
        clear hrange
        go_enter Tryd.func50, Tryd.ntmps50
        go_wp2_with fail
        refine HB.out.mono ?_
        rintro e' w1 ⟨rfl, hb1⟩
        have c0 := HS0.out w1 hb1
        go_wp2_with fail
        go_ret2
        exact ⟨ret2 (by rw [HW.out]; rfl) (by rw [HW.out]; rfl), by rw [HW.out]; exact HRN.out w1 hb1, Grew.ofBelow hb1⟩
    · have hn1 : 0 ≤ a := by omega
      have hn1' : ¬ a < 0 := by omega
      have hn2 : ¬ ((d.dur.length : Int) < e) := by omega
      have ht : decide ((d.dur.length : Int) < e) = false := decide_eq_false hn2
      have HSC : Hid (∀ w', Calls Tryd.prog 21 #[.int .i64 bs.length] w' fun e' w'' => e' = .returned (.int .i64 (((bs.length + 75) / 64 : Nat) : Int)) ∧ w' = w'') := fun w' => by
        have := rsectors_any (bs.length : Int) w' (by omega) (by omega)
        rw [sectorsV_small hlong] at this
        exact this
      obtain ⟨n, hn⟩ : ∃ n, n = (bs.length + 75) / 64 := ⟨_, rfl⟩
      rw [← hn] at HSC
      by_cases hfull : e ≤ a ∨ e - a < sectorsV bs.length
      · have HW := Lib.hid (frameW_full (gen := gen) hlong hrange hfull)
        rw [sectorsV_small hlong, ← hn] at hfull
        clear hrange hn
        by_cases hea : e ≤ a
        · have hea' : ¬ a < e := by omega
          clear hfull
          go_enter Tryd.func50, Tryd.ntmps50
          go_wp2_with fail
          refine HB.out.mono ?_
          rintro e' w1 ⟨rfl, hb1⟩
          have c0 := HS0.out w1 hb1
          go_wp2_with fail
          refine (HSC.out w1).mono ?_
          rintro e' w2 ⟨rfl, rfl⟩
          go_wp2_with fail
          go_ret2
          exact ⟨ret2 (by rw [HW.out]; rfl) (by rw [HW.out]; rfl), by rw [HW.out]; exact HRN.out w1 hb1, Grew.ofBelow hb1⟩
        · have hlt : e - a < (n : Int) := by omega
          have ht2 : decide (e - a < (n : Int)) = true := decide_eq_true hlt
          clear hfull
          go_enter Tryd.func50, Tryd.ntmps50
          go_wp2_with fail
          refine HB.out.mono ?_
          rintro e' w1 ⟨rfl, hb1⟩
          have c0 := HS0.out w1 hb1
          go_wp2_with fail
          refine (HSC.out w1).mono ?_
          rintro e' w2 ⟨rfl, rfl⟩
          go_wp2_with fail
          go_ret2
          exact ⟨ret2 (by rw [HW.out]; rfl) (by rw [HW.out]; rfl), by rw [HW.out]; exact HRN.out w1 hb1, Grew.ofBelow hb1⟩
      · obtain ⟨d', K, hwall⟩ : ∃ d' K, wAll (frameV gen bs) a n 0 d = (d', K) := ⟨_, _, rfl⟩
        have HW : Hid (frameW d a e gen bs = (d', if K = 0 then sectorsV bs.length else 0, K)) := Lib.hid (frameW_go hlong hrange hfull (by rw [← hn]; exact hwall))
        have hXl := frameV_len (gen := gen) hlong
        have hsec := sectorsV_small hlong
        rw [hsec, ← hn] at hfull
        have hea : ¬ e ≤ a := fun h => hfull (.inl h)
        have hge : ¬ (e - a < (n : Int)) := fun h => hfull (.inr h)
        have hnl : 64 * n < bs.length + 12 + 64 := by omega
        obtain ⟨X, hX⟩ : ∃ X, X = frameV gen bs := ⟨_, rfl⟩
        rw [← hX] at HB hwall hXl
        have hns : sectorsV (bs.length : Int) = (n : Int) := by rw [hsec, ← hn]
        rw [hns] at HW
        have HWA : Hid (wAll X a (n - 0) 0 d = (d', K)) := hwall
        have hn130 : n ≤ 130 := by omega
        have HN := Lib.hid hnl
        have HXL := Lib.hid hXl
        have hXs : X.length ≤ 100000 := by omega
        have HOK := Lib.hid hok
        have hXz : (strB X).size = X.length := strB_size X
        clear hX hn hns hsec hXl hnl hwall hfull hrange hlong hok
        go_enter Tryd.func50, Tryd.ntmps50
        go_wp2_with fail
        refine HB.out.mono ?_
        rintro e' w1 ⟨rfl, hb1⟩
        have c0 := HS0.out w1 hb1
        have hr1 := HR.out w1 hb1
        have HG1 : Hid (∀ W, Grew [h] w1 W → Grew [h] w W) := fun W hW => (Grew.ofBelow hb1).trans hW
        have hB1 : B ≤ w1.heap.size := Nat.le_trans hB hb1.size
        clear hb1 HB
        go_wp2_with fail
        refine (HSC.out w1).mono ?_
        rintro e' w2 ⟨rfl, rfl⟩
        clear HSC
        go_wp2_with fail
        clear c0
        go_loopw [15] (fun i wr => ∃ (k : Nat) (D : Dm), k ≤ n ∧ i = .int .i64 k ∧ Rd2 wr B h (N + k) D ∧ Hid (wAll X a (n - k) k D = (d', K)) ∧ D.Ok ∧ D.dur.length = d.dur.length ∧ D.writes ≤ d.writes + k ∧ Grew [h] w1 wr) (fun i _ => n - (intOf i).toNat)
        case atStart => exact ⟨0, d, Nat.zero_le _, rfl, hr1, HWA, HOK.out, rfl, Nat.le_refl _, Grew.refl _ _⟩
        case round =>
          clear hr1 HWA
          obtain ⟨k, D, hkn, rfl, hrd, hwa, hDo, hDl, hDw, hgr⟩ := hrel
          by_cases hlt : k < n
          · have hk64 : 64 * k ≤ X.length := by have := HN.out; have := HXL.out; omega
            obtain ⟨j, hj⟩ : ∃ j, n - k = j + 1 := ⟨n - k - 1, by omega⟩
            have hj' : n - (k + 1) = j := by omega
            rw [hj] at hwa
            have hpl := partV_len X k
            have HNK : Hid (n - (k + 1) = j) := hj'
            have HGR := Lib.hid hgr
            have HDL := Lib.hid hDl
            have HWC := rwrite_any hrd (by have := hgr.size; omega) (by omega) (x := a + k) (by omega) (by omega) (partV X k) (by omega) (by omega) hDo.fuse2 hDo.fuse1
            have hkw := writeM_writes D (a + k) (partV X k)
            have HDO := Lib.hid (hDo.write (a + k) (partV X k))
            have HRD := Lib.hid (hrd.mono (N' := N + 130) (by omega) hN)
            have hd1 := strB_drop X (64 * k)
            have hd2 := strB_take (X.drop (64 * k)) 64
            rw [show (X.drop (64 * k)).take 64 = partV X k from rfl] at hd2
            have hd3 : (strB (X.drop (64 * k))).size = X.length - 64 * k := by rw [strB_size, List.length_drop]
            have hpe : X.length - 64 * k ≤ 64 → X.drop (64 * k) = partV X k := fun hle => by unfold partV; rw [List.take_of_length_le (by rw [List.length_drop]; exact hle)]
            clear hgr hrd hDl hDo hj hj' hpl
            by_cases hw0 : writeK D (a + k) (partV X k) = 0
            · rw [hw0] at HWC
              have HWC := Lib.hid HWC
              have HWA2 : Hid (wAll X a (n - (k + 1)) (k + 1) (writeM D (a + k) (partV X k)) = (d', K)) := by show _ = _; rw [HNK.out, ← wAll_go hw0]; exact hwa.out
              clear hw0 hwa
              by_cases hm : X.length - 64 * k ≤ 64
              · rw [hpe hm] at hd1 hd3
                clear hd2 hpe
                go_wp2_with fail
                refine HWC.out.mono ?_
                rintro e' w3 ⟨rfl, hr3, hg3⟩
                have hg13 := HGR.out.trans hg3
                clear hg3 HWC HGR HRD
                go_wp2_with fail
                go_roundw
                case rel => exact ⟨k + 1, _, by omega, by go_num, hr3, HWA2, HDO.out, by rw [writeM_dur]; exact HDL.out, by omega, hg13⟩
                case measure => simp [intOf]; omega
              · clear hpe
                go_wp2_with fail
                refine HWC.out.mono ?_
                rintro e' w3 ⟨rfl, hr3, hg3⟩
                have hg13 := HGR.out.trans hg3
                clear hg3 HWC HGR HRD
                go_wp2_with fail
                go_roundw
                case rel => exact ⟨k + 1, _, by omega, by go_num, hr3, HWA2, HDO.out, by rw [writeM_dur]; exact HDL.out, by omega, hg13⟩
                case measure => simp [intOf]; omega
            · have HWX : Hid (d' = D ∧ K = writeK D (a + k) (partV X k)) := by
                have h1 := hwa.out
                rw [wAll_stop hw0] at h1
                exact ⟨(Prod.mk.inj h1).1.symm, (Prod.mk.inj h1).2.symm⟩
              have HK0 := Lib.hid hw0
              have HWM := Lib.hid (writeM_bad hw0)
              obtain ⟨L, hL⟩ : ∃ L, L = writeK D (a + k) (partV X k) := ⟨_, rfl⟩
              rw [← hL] at HWC hw0 HWX
              have hLb : ((L : Int) != 0) = true := by simpa using hw0
              have hLb2 : ((L : Int) == 0) = false := by simpa using hw0
              have HWC := Lib.hid HWC
              have HL0 := Lib.hid hw0
              clear hw0 hwa hL
              by_cases hm : X.length - 64 * k ≤ 64
              · rw [hpe hm] at hd1 hd3
                clear hd2 hpe
                go_wp2_with fail
                refine HWC.out.mono ?_
                rintro e' w3 ⟨rfl, hr3, hg3⟩
                have hg13 := HG1.out _ (HGR.out.trans hg3)
                clear hg3 HWC HGR HRD
                go_wp2_with fail
                go_ret2
                obtain ⟨rfl, rfl⟩ := HWX.out
                exact ⟨ret2 (by rw [HW.out]; show _ = Value.int .i64 (if _ = 0 then _ else _); rw [if_neg HL0.out]; rfl) (by rw [HW.out]; rfl), by rw [HW.out]; rw [HWM.out] at hr3; exact hr3.mono (by omega) hN, hg13⟩
              · clear hpe
                go_wp2_with fail
                refine HWC.out.mono ?_
                rintro e' w3 ⟨rfl, hr3, hg3⟩
                have hg13 := HG1.out _ (HGR.out.trans hg3)
                clear hg3 HWC HGR HRD
                go_wp2_with fail
                go_ret2
                obtain ⟨rfl, rfl⟩ := HWX.out
                exact ⟨ret2 (by rw [HW.out]; show _ = Value.int .i64 (if _ = 0 then _ else _); rw [if_neg HL0.out]; rfl) (by rw [HW.out]; rfl), by rw [HW.out]; rw [HWM.out] at hr3; exact hr3.mono (by omega) hN, hg13⟩
          · obtain rfl : k = n := by omega
            have HWX : Hid (D = d' ∧ 0 = K) := by
              have h1 := hwa.out
              rw [Nat.sub_self] at h1
              exact ⟨(Prod.mk.inj h1).1, (Prod.mk.inj h1).2⟩
            have hg13 := HG1.out _ hgr
            have HRD := Lib.hid hrd
            clear hwa hgr hrd
            go_wp2_with fail
            go_ret2
            obtain ⟨rfl, rfl⟩ := HWX.out
            exact ⟨ret2 (by rw [HW.out]; rfl) (by rw [HW.out]; rfl), by rw [HW.out]; exact HRD.out.mono (by omega) hN, hg13⟩
end Go.Proofs.YtgehbabcpmkgaaaDoor
