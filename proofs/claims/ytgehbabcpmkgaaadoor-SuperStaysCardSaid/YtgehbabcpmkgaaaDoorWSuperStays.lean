/- The walk of SuperStays: while a block is written the other one stays. -/
import Derived.Test.YtgehbabcpmkgaaaDoorDkZ
import Derived.Test.YtgehbabcpmkgaaaDoorAlive33
namespace Go.Proofs.YtgehbabcpmkgaaaDoor
open Go Go.RowKit
set_option linter.unusedVariables false
set_option maxRecDepth 100000 in
set_option maxHeartbeats 8000000 in
theorem walkSuperStays (w : World) (g0 : Int) (hg0 : 0 ≤ g0 ∧ g0 ≤ 4294967295) (b0 : Int) (hb0 : 0 ≤ b0 ∧ b0 ≤ 4294967295) (h0 : Int) (hh0 : -9223372036854775808 ≤ h0 ∧ h0 ≤ 9223372036854775807) (e0 : Int) (he0 : -9223372036854775808 ≤ e0 ∧ e0 ≤ 9223372036854775807)
    (g1 : Int) (hg1 : 0 ≤ g1 ∧ g1 ≤ 4294967295) (b1 : Int) (hb1 : 0 ≤ b1 ∧ b1 ≤ 4294967295) (h1 : Int) (hh1 : -9223372036854775808 ≤ h1 ∧ h1 ≤ 9223372036854775807) (e1 : Int) (he1 : -9223372036854775808 ≤ e1 ∧ e1 ≤ 9223372036854775807)
    (vt : Value) (T : List UInt8) (hrt : RowB w vt T) (ea : Nat → Addr) (er1 : ErrAt w 2 (ea 1)) (er2 : ErrAt w 3 (ea 2)) (er3 : ErrAt w 0 (ea 3)) (er9 : ErrAt w 4 (ea 9)) (er14 : ErrAt w 5 (ea 14)) (er17 : ErrAt w 7 (ea 17)) (er18 : ErrAt w 8 (ea 18)) :
    Calls Tryd.prog 9 #[.agg #[.int .u32 g0, .int .u32 b0, .int .i64 h0, .int .i64 e0], .agg #[.int .u32 g1, .int .u32 b1, .int .i64 h1, .int .i64 e1], vt] w fun e w' => e = .returned (.bool true) ∧ Below w.heap.size w w' := by
  obtain ⟨g, rfl⟩ := Int.eq_ofNat_of_zero_le hg0.1
  obtain ⟨b, rfl⟩ := Int.eq_ofNat_of_zero_le hb0.1
  obtain ⟨gg, rfl⟩ := Int.eq_ofNat_of_zero_le hg1.1
  obtain ⟨bb, rfl⟩ := Int.eq_ofNat_of_zero_le hb1.1
  have hg := hg0.2
  have hb := hb0.2
  have hgg := hg1.2
  have hbb := hb1.2
  obtain ⟨hh2, hh3⟩ := hh0
  obtain ⟨he2, he3⟩ := he0
  obtain ⟨hh4, hh5⟩ := hh1
  obtain ⟨he4, he5⟩ := he1
  obtain ⟨ta, tc, rfl, htl, -⟩ := hrt.gen.shape
  unfold maxLen at htl
  have HE : Hid (∀ W, Below w.heap.size w W → ErrsSup ea W) := fun W hW => (⟨er1, er2, er3, er9, er14, er17, er18⟩ : ErrsSup ea w).stays hW
  have HT : Hid (∀ W, Below w.heap.size w W → RowB W (.slice ta T.length tc) T) := fun W hW => hrt.stays hW
  obtain ⟨W0, hW0⟩ : ∃ W, W = (w.alloc (.cells #[.int .u32 g, .int .u32 b, .int .i64 h0, .int .i64 e0] 51)).alloc (.cells #[.int .u32 gg, .int .u32 bb, .int .i64 h1, .int .i64 e1] 51) := ⟨_, rfl⟩
  have q1 : Below w.heap.size w (w.alloc (.cells #[.int .u32 g, .int .u32 b, .int .i64 h0, .int .i64 e0] 51)) := (Below.refl _ _).alloc (Nat.le_refl _) _
  have q2 : Below (w.alloc (.cells #[.int .u32 g, .int .u32 b, .int .i64 h0, .int .i64 e0] 51)).heap.size (w.alloc (.cells #[.int .u32 g, .int .u32 b, .int .i64 h0, .int .i64 e0] 51)) W0 := by rw [hW0]; exact (Below.refl _ _).alloc (Nat.le_refl _) _
  have s1 : (w.alloc (.cells #[.int .u32 g, .int .u32 b, .int .i64 h0, .int .i64 e0] 51)).heap.size = w.heap.size + 1 := by simp
  have hcA := (CellsAt.new w #[.int .u32 g, .int .u32 b, .int .i64 h0, .int .i64 e0] 51).stays q2
  have hcB := CellsAt.new (w.alloc (.cells #[.int .u32 g, .int .u32 b, .int .i64 h0, .int .i64 e0] 51)) #[.int .u32 gg, .int .u32 bb, .int .i64 h1, .int .i64 e1] 51
  rw [← hW0, s1] at hcB
  have hbA := q1.trans (q2.mono q1.size)
  have hAL := alive33 W0
  rw [hW0] at hAL
  have HAL := Lib.hid hAL
  have HW0 := Lib.hid hW0
  clear hrt er1 er2 er3 er9 er14 er17 er18 q1 q2 s1 hW0 hAL hg0 hb0 hg1 hb1
  go_enter Tryd.func9, Tryd.ntmps9
  go_wp2_with fail
  refine HAL.out.mono ?_
  rintro e w1 ⟨rfl, hbw1⟩
  rw [← HW0.out] at hbw1
  have hbe1 := hbA.trans (hbw1.mono hbA.size)
  have hcA1 := hcA.stays hbw1
  have hcB1 := hcB.stays hbw1
  have HCA : Hid (∀ W, Below w1.heap.size w1 W → CellsAt W w.heap.size 51 #[.int .u32 g, .int .u32 b, .int .i64 h0, .int .i64 e0]) := fun W hW => hcA1.stays hW
  have HCB : Hid (∀ W, Below w1.heap.size w1 W → CellsAt W (w.heap.size + 1) 51 #[.int .u32 gg, .int .u32 bb, .int .i64 h1, .int .i64 e1]) := fun W hW => hcB1.stays hW
  have HBW : Hid (∀ W, Below w1.heap.size w1 W → Below w.heap.size w W) := fun W hW => hbe1.trans (hW.mono hbe1.size)
  have a0 := hcA1.cell 0 (v := .int .u32 g) rfl
  have a1 := hcA1.cell 1 (v := .int .u32 b) rfl
  have a2 := hcA1.cell 2 (v := .int .i64 h0) rfl
  have a3 := hcA1.cell 3 (v := .int .i64 e0) rfl
  have hR := sRight_any g b h0 e0 w1 (by omega) hh2 hh3 he2 he3
  have HBE1 := Lib.hid hbe1
  clear HAL hcA hcB hbA hbw1 HW0 hcA1 hcB1 hbe1
  cases hRa : blkR g b h0 e0 with
  | false =>
    rw [hRa] at hR
    have HR := Lib.hid hR
    clear hR
    go_wp2_with fail
    refine HR.out.mono ?_
    rintro e w2 ⟨rfl, hb2⟩
    have hbe2 := HBE1.out.trans (hb2.mono HBE1.out.size)
    clear hb2 HR
    go_wp2_with fail
    go_ret
    exact ⟨rfl, hbe2⟩
  | true =>
    rw [hRa] at hR
    have HR := Lib.hid hR
    obtain ⟨r1, r2, r3, r4, r5, r6⟩ := blkR_true hRa
    obtain ⟨h, rfl⟩ := Int.eq_ofNat_of_zero_le r3
    obtain ⟨e, rfl⟩ := Int.eq_ofNat_of_zero_le (show 0 ≤ e0 by omega)
    have HRA : Hid (blkR g b h e = true) := hRa
    clear hR hRa r1 r2 r3 r4 r5 r6
    by_cases ht : 64 < T.length
    · go_wp2_with fail
      refine HR.out.mono ?_
      rintro e w2 ⟨rfl, hb2⟩
      have hbe2 := HBE1.out.trans (hb2.mono HBE1.out.size)
      clear hb2 HR a0 a1 a2 a3
      go_wp2_with fail
      go_ret
      exact ⟨rfl, hbe2⟩
    · go_wp2_with fail
      refine HR.out.mono ?_
      rintro e' w2 ⟨rfl, hb2⟩
      have HN := Lib.hid (new_ok 10 w2 (by decide) (by decide))
      rw [show (((10 : Nat) : Int)) = 10 from rfl] at HN
      clear HR a0 a1 a2 a3
      go_wp2_with fail
      refine HN.out.mono ?_
      rintro e' w3 ⟨G, gd, gm, rfl, hk3, hg1, hg2, hg3, hb3⟩
      have hb13 := hb2.trans (hb3.mono hb2.size)
      have hcA3 := HCA.out w3 hb13
      have a0 := hcA3.cell 0 (v := .int .u32 g) rfl
      have a1 := hcA3.cell 1 (v := .int .u32 b) rfl
      have a2 := hcA3.cell 2 (v := .int .i64 h) rfl
      have a3 := hcA3.cell 3 (v := .int .i64 e) rfl
      have hgB : w1.heap.size ≤ G ∧ w1.heap.size ≤ gd ∧ w1.heap.size ≤ gm := by have := hb2.size; omega
      have HGB := Lib.hid hgB
      have HGR : Hid (∀ W, Grew [G, gd, gm] w3 W → Below w1.heap.size w1 W) := fun W hW => hW.below hb13 (by intro i hi; have := HGB.out; simp at hi; omega) hb13.size
      have hSW := swrite_any ea hk3 0 (by decide) (by decide) g b h e (by omega) (by omega) hh2 hh3 he2 he3 (by decide) (fun W hW => HE.out W (HBW.out W (HGR.out W hW)))
      have hst := st1_eq HRA.out
      have hok := swM_ok st0_ok 0 g b h e
      rw [show Dm.new 10 = st0 from rfl, hst.1, EV_zero] at hSW
      have HSW := Lib.hid hSW
      clear HN hb2 hb3 hg1 hg2 hg3 hgB hk3 hcA3 hSW hst hok hb13
      go_wp2_with fail
      refine HSW.out.mono ?_
      rintro e' w4 ⟨rfl, hk4, hgr4⟩
      have hb14 := HGR.out w4 hgr4
      have HK4 := Lib.hid hk4
      have HG4 := Lib.hid hgr4
      have hcB4 := HCB.out w4 hb14
      have c0 := hcB4.cell 0 (v := .int .u32 gg) rfl
      have c1 := hcB4.cell 1 (v := .int .u32 bb) rfl
      have c2 := hcB4.cell 2 (v := .int .i64 h1) rfl
      have c3 := hcB4.cell 3 (v := .int .i64 e1) rfl
      clear HSW a0 a1 a2 a3 hk4 hgr4 hcB4
      cases hRb : blkR gg bb h1 e1 with
      | false =>
        have hB := sBytes_bad ea gg bb h1 e1 w4 hRb (by omega) hh4 hh5 he4 he5 (HE.out w4 (HBW.out w4 hb14)).e1
        rw [EV_pos ea (by decide)] at hB
        have HB := Lib.hid hB
        clear hB hRb
        go_wp2_with fail
        refine HB.out.mono ?_
        rintro e' w5 ⟨rfl, hb5⟩
        have hbe5 := HBW.out w5 (hb14.trans (hb5.mono hb14.size))
        clear hb5 HB c0 c1 c2 c3
        go_wp2_with fail
        go_ret
        exact ⟨rfl, hbe5⟩
      | true =>
        obtain ⟨r1, r2, r3, r4, r5, r6⟩ := blkR_true hRb
        obtain ⟨k, rfl⟩ := Int.eq_ofNat_of_zero_le r3
        obtain ⟨l, rfl⟩ := Int.eq_ofNat_of_zero_le (show 0 ≤ e1 by omega)
        have hB := sBytes_ok gg bb k l w4 hRb (by omega)
        have hYl : (sealed (blkH gg bb k l)).length ≤ 64 := by rw [show sealed (blkH gg bb k l) = blkS gg bb k l from rfl, blkS_len]; decide
        obtain ⟨Y, hY⟩ : ∃ Y, Y = sealed (blkH gg bb k l) := ⟨_, rfl⟩
        rw [← hY] at hB hYl
        have HB := Lib.hid hB
        have HYL := Lib.hid hYl
        clear hB hRb r1 r2 r3 r4 r5 r6 hY hYl
        go_wp2_with fail
        refine HB.out.mono ?_
        rintro e' w5 ⟨v5, rfl, ho5, hb5⟩
        have hb15 := hb14.trans (hb5.mono hb14.size)
        have hE5 := HE.out w5 (HBW.out w5 hb15)
        have hk5 := HK4.out.stays hb5
        have hW := write_any ea hk5 (x := 1) (by decide) (by decide) v5 Y ho5.row (by have := HYL.out; omega) (by have := (swM_len st0 0 g b h e).2; have h9 : st0.writes = 0 := rfl; omega) hE5.e1 hE5.e3 hE5.e17
        rw [st2_w HRA.out HYL.out, EV_zero] at hW
        have HW := Lib.hid hW
        have HG5 : Hid (Grew [G, gd, gm] w3 w5) := HG4.out.add hb5
        clear HB ho5 hb5 hE5 hk5 hW c0 c1 c2 c3 HK4 HG4 hb15
        go_wp2_with fail
        refine HW.out.mono ?_
        rintro e' w6 ⟨rfl, hk6, hgr6⟩
        have hgr36 := HG5.out.trans hgr6
        have hb16 := HGR.out w6 hgr36
        obtain ⟨W6, hW6⟩ : ∃ W, W = w6.alloc (.cells #[.int .i64 1, .slice ta T.length tc] 109) := ⟨_, rfl⟩
        have hbA6 : Below w6.heap.size w6 W6 := by rw [hW6]; exact (Below.refl _ _).alloc (Nat.le_refl _) _
        have hcT : CellsAt W6 w6.heap.size 109 #[.int .i64 1, .slice ta T.length tc] := by rw [hW6]; exact CellsAt.new w6 _ _
        have hk6' := hk6.stays hbA6
        have hltk := hk6.lt
        have hgr66 := hgr36.add hbA6
        have hC := crash_any hk6' (.slice none 0 0) [] (.slice (some ⟨w6.heap.size, 0, none⟩) 1 1) [⟨1, .slice ta T.length tc, T⟩] (fun W hW => by
          refine ⟨.inl ⟨rfl, rfl, none, 0, rfl⟩, ?_, fun t ht => ?_⟩
          · have hcW := hcT.grew hW (by simp; omega)
            refine .inr ⟨w6.heap.size, 0, 1, rfl, Nat.le_refl _, by unfold maxLen; decide, hcW.lt, fun j u hu => ?_⟩
            rw [Nat.zero_add]
            refine hcW.cell j ?_
            rw [show ([⟨1, .slice ta T.length tc, T⟩] : List To).flatMap toC = [.int .i64 1, .slice ta T.length tc] from by simp [toC]] at hu
            rw [← List.getElem?_toArray] at hu
            exact hu
          · obtain rfl : t = ⟨1, .slice ta T.length tc, T⟩ := by simpa using ht
            exact HT.out W (HBW.out W (HGR.out W (hgr66.trans hW)))) (fun k hk => by cases hk) (fun t ht => by
          obtain rfl : t = ⟨1, .slice ta T.length tc, T⟩ := by simpa using ht
          refine ⟨⟨by show (-9223372036854775808 : Int) ≤ 1; decide, by show (1 : Int) ≤ 9223372036854775807; decide⟩, ?_⟩
          show T.length ≤ 1000000
          omega)
        rw [hW6] at hC
        have HC := Lib.hid hC
        have HW6 := Lib.hid hW6
        have HG66 := Lib.hid hgr66
        clear HW hk6 hgr6 hgr36 hb16 hW6 hbA6 hcT hk6' hltk hgr66 hC HG5
        go_wp2_with fail
        refine HC.out.mono ?_
        rintro e' w7 ⟨rfl, hk7, hgr7⟩
        rw [← HW6.out] at hgr7
        have hb17 := HGR.out w7 (HG66.out.trans hgr7)
        have hk7' : Dk w7 G gd gm (st3 g b h e Y T) := hk7
        have hrT := HT.out w7 (HBW.out w7 hb17)
        have HK7 := Lib.hid hk7'
        clear HC hk7 hgr7 HW6 HG66 hk7'
        go_wp2_with (at_make; go_must (refine wpList_makeB rfl _ _ rfl _ _ _ _ 64 64 rfl rfl rfl rfl (Nat.le_refl _) (by decide) ?_))
        intro w8 hbl8 hb8
        have hrT8 := hrT.stays hb8
        have hTl : T.length ≤ 64 := by omega
        have hpad : splice (List.replicate 64 (b8 0)) 0 T = padV T := by
          rw [padV_short hTl]
          unfold splice
          rw [List.take_zero, List.nil_append, Nat.zero_add, List.drop_replicate]
        go_wp2_with (refine wpList_copyB (o := ⟨some 61, _, _, _, _, _⟩) rfl _ _ rfl w7.heap.size 0 64 64 (by rfl) _ T (by rfl) hrT8 hTl _ hbl8 (by simp; omega) w7.heap.size w7 hb8 (Nat.le_refl _) ?_)
        intro w9 hbl9 hb9
        replace hbl9 : BlockB w9 w7.heap.size (splice (List.replicate 64 (b8 0)) 0 T) := hbl9
        rw [hpad] at hbl9
        have hPl := padV_len T
        have hr9 : RowB w9 (.slice (some ⟨w7.heap.size, 0, none⟩) 64 64) (padV T) := by
          refine .inr ⟨w7.heap.size, 0, 64, by rw [hPl], by omega, by decide, lt_of_block hbl9, fun j u hu => ?_⟩
          rw [Nat.zero_add]
          have hc9 : CellsAt w9 w7.heap.size 5 ((padV T).map BV).toArray := hbl9
          exact hc9.cell j (by rw [List.getElem?_toArray]; exact hu)
        have hb19 := hb17.trans (hb9.mono hb17.size)
        have hE9 := HE.out w9 (HBW.out w9 hb19)
        have hP := sParse_long ea _ (padV T) w9 hr9 (by rw [hPl]; decide) (by rw [hPl]; decide) hE9.e1 hE9.e2 hE9.e9 hE9.e18
        have HK9 := Lib.hid (HK7.out.stays hb9)
        clear hbl8 hb8 hrT hrT8 hpad hbl9 hr9 hb9 hE9 HK7 hTl hPl
        by_cases hsk : supK (padV T) = 0
        · rw [hsk, EV_zero] at hP
          have HP := Lib.hid hP
          clear hP hsk
          go_wp2_with fail
          refine HP.out.mono ?_
          rintro e' wa ⟨rfl, hba⟩
          have hbea := HBW.out wa (hb19.trans (hba.mono hb19.size))
          clear hba HP
          go_wp2_with fail
          go_ret
          exact ⟨rfl, hbea.alloc hbea.size _⟩
        · rw [EV_pos ea hsk] at hP
          have HP := Lib.hid hP
          obtain ⟨k1, k2, k3, k4, k5, k6⟩ := st3_chosen HRA.out (by omega) HYL.out hsk
          have HKK : Hid (chK (st3 g b h e Y T) = 0 ∧ chS (st3 g b h e Y T) = 0 ∧ chB (st3 g b h e Y T) 4 = g ∧ chB (st3 g b h e Y T) 8 = b ∧ chB (st3 g b h e Y T) 12 = h ∧ chB (st3 g b h e Y T) 16 = e) := ⟨k1, k2, k3, k4, k5, k6⟩
          clear hP hsk k1 k2 k3 k4 k5 k6
          generalize supB (padV T) 4 = z0 at HP
          generalize supB (padV T) 8 = z1 at HP
          generalize supB (padV T) 12 = z2 at HP
          generalize supB (padV T) 16 = z3 at HP
          go_wp2_with fail
          refine HP.out.mono ?_
          rintro e' wa ⟨rfl, hba⟩
          have hb1a := hb19.trans (hba.mono hb19.size)
          have hbZ : Below wa.heap.size wa (wa.alloc (.cells #[.int .u32 z0, .int .u32 z1, .int .i64 z2, .int .i64 z3] 51)) := (Below.refl _ _).alloc (Nat.le_refl _) _
          have hb1b := hb1a.trans (hbZ.mono hb1a.size)
          have hCh := schoose_any ea ((HK9.out.stays hba).stays hbZ) (fun W hW => HE.out W (HBW.out W (hb1b.trans (hW.mono hb1b.size))))
          unfold Chose blkV at hCh
          rw [HKK.out.1, HKK.out.2.1, HKK.out.2.2.1, HKK.out.2.2.2.1, HKK.out.2.2.2.2.1, HKK.out.2.2.2.2.2, EV_zero] at hCh
          have HCH := Lib.hid hCh
          clear HP hba hb1a hbZ hCh HK9 hb19 hb17 hb14
          go_wp2_with fail
          refine HCH.out.mono ?_
          rintro e' wb ⟨rfl, hbb⟩
          have hb1c := hb1b.trans (hbb.mono hb1b.size)
          have hcAb := HCA.out wb hb1c
          have a0 := hcAb.cell 0 (v := .int .u32 g) rfl
          have a1 := hcAb.cell 1 (v := .int .u32 b) rfl
          have a2 := hcAb.cell 2 (v := .int .i64 h) rfl
          have a3 := hcAb.cell 3 (v := .int .i64 e) rfl
          have hlA := hcAb.lt
          have bg : ((g : Int) == g) = true := by simp
          have bb' : ((b : Int) == b) = true := by simp
          have bh : ((h : Int) == h) = true := by simp
          have be : ((e : Int) == e) = true := by simp
          have hbec := HBW.out wb hb1c
          clear HCH hbb hb1b hb1c hcAb
          go_wp2_with fail
          go_ret
          exact ⟨rfl, hbec.alloc hbec.size _⟩
end Go.Proofs.YtgehbabcpmkgaaaDoor
