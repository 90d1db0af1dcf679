/- Scripts, the document's: an act's line. -/
import Derived.Test.YtbcpciegdmminaaGreatDoorSrE
import Derived.Test.YtbcpciegdmminaaGreatDoorQin
import Derived.Deep.RegionHeld3
namespace Go.Proofs.YtbcpciegdmminaaGreatDoor
open Go Go.RowKit
set_option linter.unusedVariables false
theorem joi_snoc (c : UInt8) : ∀ (xs : List Bs) (y : Bs), joi c (xs ++ [y]) = if xs = [] then y else joi c xs ++ c :: y
  | [], y => rfl
  | [x], y => rfl
  | x :: z :: r, y => by
    have ih := joi_snoc c (z :: r) y
    rw [if_neg (by simp)] at ih ⊢
    rw [List.cons_append, joi_cons c x (by simp), ih, joi_cons c x (by simp)]
    simp
/-- a moment of the document's Line -/
structure LSt (w0 w : World) (g : Nat) (k a b c n : Int) (bs : Bs) (vk vt : Value) (keep : List Int) (torn : List (Int × Bs)) : Prop where
  below : Below w0.heap.size w0 w
  cells : CellsAt w g 31 (rCells k a b c n bs vk vt)
  rows : RActI w vk vt keep torn
theorem LSt.stays {w0 w w' : World} {g : Nat} {k a b c n : Int} {bs : Bs} {vk vt : Value} {keep : List Int} {torn : List (Int × Bs)} (h : LSt w0 w g k a b c n bs vk vt keep torn) (hb : Below w.heap.size w w') : LSt w0 w' g k a b c n bs vk vt keep torn :=
  ⟨h.below.trans (hb.mono h.below.size), h.cells.stays hb, h.rows.stays hb⟩
theorem wpAnyH_mono {P : Program} {md : Region.Mode} {ops : Array Oper} {Q : Exit → Act → World → Prop} {S S' : World → Prop} (hi : ∀ w, S' w → S w) : ∀ (fuel : Nat) {listed : Array Bool} {a : Act} {w : World}, wpAnyH P md ops Q S' fuel listed a w → wpAnyH P md ops Q S fuel listed a w
  | 0, _, _, _, h => h
  | fuel + 1, _, _, _, h => ⟨h.1, fun i hr => wpOp_mono (fun a' w' h' => ⟨hi _ h'.1, wpAnyH_mono hi fuel h'.2⟩) (h.2 i hr)⟩
theorem addS (x y : Bs) (hx : x.length ≤ 100000000) (hy : y.length ≤ 100000000) (W : World) : (Op.stringOp .add (strB x) (strB y)).run Tryz.prog W = .ok (.string (strB (x ++ y))) W := str_add x y (by omega) W
set_option maxRecDepth 100000 in
set_option maxHeartbeats 8000000 in
theorem rline_any {w : World} (k a b c n : Int) (bs : Bs) {vk vt : Value} {keep : List Int} {torn : List (Int × Bs)} (hR : rightA ⟨k, a, b, c, n, bs, keep, torn⟩ = true) (hA : RActI w vk vt keep torn) :
    Calls Tryz.prog 11 #[.agg (rCells k a b c n bs vk vt)] w fun e w' => e = .returned (.string (strB (lineA ⟨k, a, b, c, n, bs, keep, torn⟩))) ∧ Below w.heap.size w w' := by
  obtain ⟨hk, hn, l1, l2, l3, h1, h2⟩ := right_parts hR
  have HLA : Hid (lineA ⟨k, a, b, c, n, bs, keep, torn⟩ = joi 32 (wordOf k :: restA ⟨k, a, b, c, n, bs, keep, torn⟩)) := rfl
  obtain ⟨LL, hLL⟩ : ∃ LL, LL = lineA ⟨k, a, b, c, n, bs, keep, torn⟩ := ⟨_, rfl⟩
  rw [← hLL] at HLA
  rw [← hLL]
  have hwl := wordOf_len k
  have hww : wordsL.getD k.toNat [] = wordOf k := by unfold wordOf; rw [if_pos hk]
  obtain ⟨hrk, hrt⟩ := hA
  obtain ⟨ak, ck, rfl, -, -⟩ := hrk.shape
  obtain ⟨at', ct, rfl, -, -⟩ := hrt.shape rtC_len
  obtain ⟨W0, hW0⟩ : ∃ W0, W0 = w.alloc (.cells (rCells k a b c n bs (.slice ak keep.length ck) (.slice at' torn.length ct)) 31) := ⟨_, rfl⟩
  obtain ⟨g, hg⟩ : ∃ g, g = w.heap.size := ⟨_, rfl⟩
  have hb : Below w.heap.size w W0 := by rw [hW0]; exact (Below.refl _ _).alloc (Nat.le_refl _) _
  have hc : CellsAt W0 g 31 (rCells k a b c n bs (.slice ak keep.length ck) (.slice at' torn.length ct)) := by rw [hW0, hg]; exact CellsAt.new w _ _
  have HC : Hid (∀ W, Below W0.heap.size W0 W → W.cell? ⟨g, 0, none⟩ = some (.int .i64 k) ∧ W.cell? ⟨g, 1, none⟩ = some (.int .i64 a) ∧ W.cell? ⟨g, 2, none⟩ = some (.int .i64 b) ∧ W.cell? ⟨g, 3, none⟩ = some (.int .i64 c) ∧ W.cell? ⟨g, 4, none⟩ = some (.int .i64 n) ∧ W.cell? ⟨g, 5, none⟩ = some (.string (strB bs)) ∧ W.cell? ⟨g, 6, none⟩ = some (.slice ak keep.length ck) ∧ W.cell? ⟨g, 7, none⟩ = some (.slice at' torn.length ct)) := fun W h =>
    ⟨(hc.stays h).cell 0 rfl, (hc.stays h).cell 1 rfl, (hc.stays h).cell 2 rfl, (hc.stays h).cell 3 rfl, (hc.stays h).cell 4 rfl, (hc.stays h).cell 5 rfl, (hc.stays h).cell 6 rfl, (hc.stays h).cell 7 rfl⟩
  have HK : Hid (∀ W, Below W0.heap.size W0 W → RowL IV W (.slice ak keep.length ck) keep) := fun W h => Row.stays (Row.stays hrk hb) h
  have HT : Hid (∀ W, Below W0.heap.size W0 W → RowS rtC W (.slice at' torn.length ct) torn) := fun W h => (RowS.stays hrt hb).stays h
  obtain ⟨c0, -, -, -, -, -, -, -⟩ := HC.out W0 (Below.refl _ _)
  have hgl : g < W0.heap.size := World.block_lt_of_cell? W0 _ c0
  have HW := Lib.hid hW0
  have HG := Lib.hid hg
  have HB := Lib.hid hb
  have kt : k.toNat < 12 := by omega
  have kz : ((k.toNat : Nat) : Int) = k := by omega
  have k0 : 0 ≤ k := by omega
  have k1 : k < 12 := by omega
  have HKK := Lib.hid hk
  have HNN := Lib.hid hn
  have HL := Lib.hid (show bs.length ≤ 4096 ∧ keep.length ≤ 200 ∧ torn.length ≤ 200 from ⟨l1, l2, l3⟩)
  have HIN := Lib.hid (List.all_eq_true.1 h1)
  have HOK := Lib.hid (List.all_eq_true.1 h2)
  have HWD : Hid (∀ W, Calls Tryz.prog 9 #[] W fun e w' => ∃ g, e = .returned (.slice (some ⟨g, 0, none⟩) 12 12) ∧ w'.cell? ⟨g, k.toNat, none⟩ = some (.string (strB (wordOf k))) ∧ Below W.heap.size W w') := fun W => (rwords_any W).mono fun e w' h => by
    obtain ⟨g, h1, h2, h3⟩ := h
    refine ⟨g, h1, ?_, h3⟩
    have hlt : k.toNat < wordsL.length := kt
    have := ownCell' h2 (List.getElem?_eq_getElem hlt)
    rw [this, ← hww, List.getD_eq_getElem?_getD, List.getElem?_eq_getElem hlt]; rfl
  clear hR hk hn l1 l2 l3 h1 h2 hLL hrk hrt hW0 hg hb hc hww
  go_enter Tryz.func11, Tryz.ntmps11
  go_upto_region 1 with fail
  rw [← HW.out, ← HG.out]
  clear HW HG
  have hd0 : Below W0.heap.size W0 W0.drew := (Below.refl _ _).drew
  go_cut [3] from 3 to 12 (fun v wx => v = .string (strB (wordOf k)) ∧ Below W0.heap.size W0 wx)
  case first =>
    go_region_law ((first
      | (go_simp; go_at_call 9; (with_reducible refine (HWD.out _).mono ?_); rintro e w1 ⟨gw, rfl, cw, hb1⟩; have hd1 := hd0.trans (hb1.mono hd0.size); have d0 := (HC.out w1 hd1).1)))
    all_goals go_wp2_with fail
    all_goals go_meet
    all_goals exact ⟨rfl, hd1⟩
  case rest =>
    obtain ⟨rfl, hb1⟩ := hcut
    obtain ⟨w1, rfl⟩ : ∃ w1 : World, w1 = wc := ⟨_, rfl⟩
    obtain ⟨c0, c1, c2, c3, c4, c5, c6, c7⟩ := HC.out w1 hb1
    have HB1 := Lib.hid hb1
    have HBW := Lib.hid (HB.out.trans (hb1.mono HB.out.size))
    have HFG : Hid (∀ m, inN m = true → ∀ W, Calls Tryz.prog 23 #[.int .i64 m] W fun e w' => e = .returned (.string (strB (decI m))) ∧ Below W.heap.size W w') := fun m hm W => rfig_any m hm W
    clear hb1 hd0 HWD kt kz k0 k1
    by_cases f1 : k = 1
    · subst f1
      have HZ : Hid (LL = wordOf 1 ++ (32 :: putB bs)) := by show _ = _; rw [HLA.out]; rfl
      have hpb := putB_len bs
      have HPB : Hid ((putB bs).length ≤ 100000) := by show _ ≤ _; have := HL.out; omega
      have a1 : ∀ W, (Op.stringOp .add ⟨#[32]⟩ (strB (putB bs))).run Tryz.prog W = .ok (.string (strB (32 :: putB bs))) W := fun W => addS [32] (putB bs) (by simp) (by have := HPB.out; omega) W
      have a2 : ∀ W, (Op.stringOp .add (strB (wordOf 1)) (strB (32 :: putB bs))).run Tryz.prog W = .ok (.string (strB (wordOf 1 ++ (32 :: putB bs)))) W := fun W => addS _ _ (by omega) (by have := HPB.out; simp; omega) W
      have HM := Lib.hid (rhex_any bs (by have := HL.out; omega) w1)
      clear HLA hpb
      go_wp2_with fail
      refine HM.out.mono ?_
      rintro e w2 ⟨rfl, hb2⟩
      have HBF := Lib.hid (HBW.out.trans (hb2.mono HBW.out.size))
      clear HM hb2
      go_wp2_with fail
      go_ret
      exact ⟨congrArg (fun z => Ending.returned (Value.string (strB z))) HZ.out.symm, HBF.out⟩
    · have e1 : (k == 1) = false := by simpa using f1
      by_cases f3 : k = 3
      · subst f3
        have HZ : Hid (LL = wordOf 3 ++ (32 :: decI a)) := by show _ = _; rw [HLA.out]; rfl
        have hia : inN a = true := by have := HNN.out; unfold numb numbered at this; simp only at this; simpa using (by simpa using this : _ ∧ _).1
        have hdl := decI_len hia
        have a1 : ∀ W, (Op.stringOp .add ⟨#[32]⟩ (strB (decI a))).run Tryz.prog W = .ok (.string (strB (32 :: decI a))) W := fun W => addS [32] (decI a) (by simp) (by omega) W
        have a2 : ∀ W, (Op.stringOp .add (strB (wordOf 3)) (strB (32 :: decI a))).run Tryz.prog W = .ok (.string (strB (wordOf 3 ++ (32 :: decI a)))) W := fun W => addS _ _ (by omega) (by simp; omega) W
        have HM := Lib.hid (HFG.out a hia w1)
        clear HLA hia hdl
        go_wp2_with fail
        refine HM.out.mono ?_
        rintro e w2 ⟨rfl, hb2⟩
        have HBF := Lib.hid (HBW.out.trans (hb2.mono HBW.out.size))
        clear HM hb2
        go_wp2_with fail
        go_ret
        exact ⟨congrArg (fun z => Ending.returned (Value.string (strB z))) HZ.out.symm, HBF.out⟩
      · have e3 : (k == 3) = false := by simpa using f3
        by_cases f6 : k = 6
        · subst f6
          have HZ : Hid (LL = wordOf 6 ++ (32 :: decI a)) := by show _ = _; rw [HLA.out]; rfl
          have hia : inN a = true := by have := HNN.out; unfold numb numbered at this; simp only at this; simpa using (by simpa using this : _ ∧ _).1
          have hdl := decI_len hia
          have a1 : ∀ W, (Op.stringOp .add ⟨#[32]⟩ (strB (decI a))).run Tryz.prog W = .ok (.string (strB (32 :: decI a))) W := fun W => addS [32] (decI a) (by simp) (by omega) W
          have a2 : ∀ W, (Op.stringOp .add (strB (wordOf 6)) (strB (32 :: decI a))).run Tryz.prog W = .ok (.string (strB (wordOf 6 ++ (32 :: decI a)))) W := fun W => addS _ _ (by omega) (by simp; omega) W
          have HM := Lib.hid (HFG.out a hia w1)
          clear HLA hia hdl
          go_wp2_with fail
          refine HM.out.mono ?_
          rintro e w2 ⟨rfl, hb2⟩
          have HBF := Lib.hid (HBW.out.trans (hb2.mono HBW.out.size))
          clear HM hb2
          go_wp2_with fail
          go_ret
          exact ⟨congrArg (fun z => Ending.returned (Value.string (strB z))) HZ.out.symm, HBF.out⟩
        · have e6 : (k == 6) = false := by simpa using f6
          by_cases f11 : k = 11
          · subst f11
            have HZ : Hid (LL = wordOf 11 ++ (32 :: decI a)) := by show _ = _; rw [HLA.out]; rfl
            have hia : inN a = true := by have := HNN.out; unfold numb numbered at this; simp only at this; simpa using (by simpa using this : _ ∧ _).1
            have hdl := decI_len hia
            have a1 : ∀ W, (Op.stringOp .add ⟨#[32]⟩ (strB (decI a))).run Tryz.prog W = .ok (.string (strB (32 :: decI a))) W := fun W => addS [32] (decI a) (by simp) (by omega) W
            have a2 : ∀ W, (Op.stringOp .add (strB (wordOf 11)) (strB (32 :: decI a))).run Tryz.prog W = .ok (.string (strB (wordOf 11 ++ (32 :: decI a)))) W := fun W => addS _ _ (by omega) (by simp; omega) W
            have HM := Lib.hid (HFG.out a hia w1)
            clear HLA hia hdl
            go_wp2_with fail
            refine HM.out.mono ?_
            rintro e w2 ⟨rfl, hb2⟩
            have HBF := Lib.hid (HBW.out.trans (hb2.mono HBW.out.size))
            clear HM hb2
            go_wp2_with fail
            go_ret
            exact ⟨congrArg (fun z => Ending.returned (Value.string (strB z))) HZ.out.symm, HBF.out⟩
          · have e11 : (k == 11) = false := by simpa using f11
            by_cases f2 : k = 2
            · subst f2
              have HZ : Hid (LL = wordOf 2) := by show _ = _; rw [HLA.out]; rfl
              clear HLA
              go_wp2_with fail
              go_ret
              exact ⟨congrArg (fun z => Ending.returned (Value.string (strB z))) HZ.out.symm, HBW.out⟩
            · have e2 : (k == 2) = false := by simpa using f2
              by_cases f7 : k = 7
              · subst f7
                have HZ : Hid (LL = wordOf 7) := by show _ = _; rw [HLA.out]; rfl
                clear HLA
                go_wp2_with fail
                go_ret
                exact ⟨congrArg (fun z => Ending.returned (Value.string (strB z))) HZ.out.symm, HBW.out⟩
              · have e7 : (k == 7) = false := by simpa using f7
                by_cases f10 : k = 10
                · subst f10
                  have HZ : Hid (LL = wordOf 10) := by show _ = _; rw [HLA.out]; rfl
                  clear HLA
                  go_wp2_with fail
                  go_ret
                  exact ⟨congrArg (fun z => Ending.returned (Value.string (strB z))) HZ.out.symm, HBW.out⟩
                · have e10 : (k == 10) = false := by simpa using f10
                  by_cases f8 : k = 8
                  · subst f8
                    have hor : inN a = true ∨ a = -1 := by
                      have := HNN.out
                      unfold numb numbered at this
                      simp only at this
                      simp at this
                      exact this.1
                    by_cases am : a = -1
                    · subst am
                      have HZ : Hid (LL = wordOf 8 ++ (32 :: offW)) := by show _ = _; rw [HLA.out]; rfl
                      have a1 : ∀ W, (Op.stringOp .add (strB (wordOf 8)) ⟨#[32, 111, 102, 102]⟩).run Tryz.prog W = .ok (.string (strB (wordOf 8 ++ (32 :: offW)))) W := fun W => addS (wordOf 8) (32 :: offW) (by omega) (by decide) W
                      clear HLA hor
                      go_wp2_with fail
                      go_ret
                      exact ⟨congrArg (fun z => Ending.returned (Value.string (strB z))) HZ.out.symm, HBW.out⟩
                    · have hia := hor.resolve_right am
                      have HZ : Hid (LL = wordOf 8 ++ (32 :: decI a)) := by show _ = _; rw [HLA.out]; show joi 32 (wordOf 8 :: restA _) = _; unfold restA; simp only; rw [if_neg (by omega), if_neg (by omega), if_neg (by omega), if_neg (by omega), if_pos trivial, if_neg am]; rfl
                      have hdl := decI_len hia
                      have hlt : decide (a < 0) = false := by unfold inN at hia; simp at hia; exact decide_eq_false (by omega)
                      have a1 : ∀ W, (Op.stringOp .add ⟨#[32]⟩ (strB (decI a))).run Tryz.prog W = .ok (.string (strB (32 :: decI a))) W := fun W => addS [32] (decI a) (by simp) (by omega) W
                      have a2 : ∀ W, (Op.stringOp .add (strB (wordOf 8)) (strB (32 :: decI a))).run Tryz.prog W = .ok (.string (strB (wordOf 8 ++ (32 :: decI a)))) W := fun W => addS _ _ (by omega) (by simp; omega) W
                      have HM := Lib.hid (HFG.out a hia w1)
                      clear HLA hia hdl hor am
                      go_wp2_with fail
                      refine HM.out.mono ?_
                      rintro e w2 ⟨rfl, hb2⟩
                      have HBF := Lib.hid (HBW.out.trans (hb2.mono HBW.out.size))
                      clear HM hb2
                      go_wp2_with fail
                      go_ret
                      exact ⟨congrArg (fun z => Ending.returned (Value.string (strB z))) HZ.out.symm, HBF.out⟩
                  · have e8 : (k == 8) = false := by simpa using f8
                    by_cases f5 : k = 5
                    · subst f5
                      have HZ : Hid (LL = wordOf 5 ++ ((32 :: decI a ++ [32]) ++ decI b)) := by show _ = _; rw [HLA.out]; show joi 32 [wordOf 5, decI a, decI b] = _; rw [joi_cons _ _ (by simp), joi_cons _ _ (by simp)]; simp [joi]
                      have hab : inN a = true ∧ inN b = true := by have := HNN.out; unfold numb numbered at this; simp only at this; simp at this; exact ⟨this.1.1, this.1.2⟩
                      have hda := decI_len hab.1
                      have hdb := decI_len hab.2
                      have a1 : ∀ W, (Op.stringOp .add ⟨#[32]⟩ (strB (decI a))).run Tryz.prog W = .ok (.string (strB (32 :: decI a))) W := fun W => addS [32] (decI a) (by simp) (by omega) W
                      have a2 : ∀ W, (Op.stringOp .add (strB (32 :: decI a)) ⟨#[32]⟩).run Tryz.prog W = .ok (.string (strB (32 :: decI a ++ [32]))) W := fun W => addS (32 :: decI a) [32] (by simp; omega) (by simp) W
                      have a3 : ∀ W, (Op.stringOp .add (strB (32 :: decI a ++ [32])) (strB (decI b))).run Tryz.prog W = .ok (.string (strB ((32 :: decI a ++ [32]) ++ decI b))) W := fun W => addS _ _ (by simp; omega) (by omega) W
                      have a4 : ∀ W, (Op.stringOp .add (strB (wordOf 5)) (strB ((32 :: decI a ++ [32]) ++ decI b))).run Tryz.prog W = .ok (.string (strB (wordOf 5 ++ ((32 :: decI a ++ [32]) ++ decI b)))) W := fun W => addS _ _ (by omega) (by simp; omega) W
                      have HMA := Lib.hid (HFG.out a hab.1)
                      have HMB := Lib.hid (HFG.out b hab.2)
                      have HS : Hid (∀ W, Below w1.heap.size w1 W → W.cell? ⟨g, 1, none⟩ = some (.int .i64 a) ∧ W.cell? ⟨g, 2, none⟩ = some (.int .i64 b)) := fun W h => ⟨(HC.out W (HB1.out.trans (h.mono HB1.out.size))).2.1, (HC.out W (HB1.out.trans (h.mono HB1.out.size))).2.2.1⟩
                      obtain ⟨S1, hS1⟩ : ∃ S, S = 32 :: decI a := ⟨_, rfl⟩
                      obtain ⟨S2, hS2⟩ : ∃ S, S = S1 ++ [32] := ⟨_, rfl⟩
                      obtain ⟨S3, hS3⟩ : ∃ S, S = S2 ++ decI b := ⟨_, rfl⟩
                      rw [← hS1] at a1 a2 a3 a4 HZ
                      rw [← hS2] at a2 a3 a4 HZ
                      rw [← hS3] at a3 a4 HZ
                      have hd0 : Below w1.heap.size w1 w1.drew := (Below.refl _ _).drew
                      clear HLA hab hda hdb hS1 hS2 hS3
                      go_upto_region 12 with fail
                      refine wp_region_quiet_in (C := fun W => Below w1.heap.size w1 W) (by kernel_rfl) (by kernel_rfl) hd0 ?_
                      clear hd0 c1 c2 c3 c4 c5 c6 c7
                      repeat
                        (first
                           | go_big_quiet_skip
                           | (go_big_quiet_want
                              refine quiet_intro ?_ (fun wq hwq => ?_) ?_
                              rotate_left
                              focus
                                (obtain ⟨c1, c2⟩ := HS.out _ hwq
                                 go_simp
                                 try first
                                   | with_reducible rfl
                                   | (exact hwq)
                                   | ((with_reducible refine (HMA.out _).mono ?_); rintro e wA ⟨rfl, hbA⟩; refine ⟨?_, hwq.trans (hbA.mono hwq.size)⟩; with_reducible rfl)
                                   | ((with_reducible refine (HMB.out _).mono ?_); rintro e wA ⟨rfl, hbA⟩; refine ⟨?_, hwq.trans (hbA.mono hwq.size)⟩; with_reducible rfl))
                              go_simp
                              go_big_quiet_on))
                      refine wpQuiet_nil ?_
                      intro w2 hb2
                      have HBF := Lib.hid (HBW.out.trans (hb2.mono HBW.out.size))
                      clear HMA HMB HS hb2
                      go_wp2_with fail
                      go_ret
                      exact ⟨congrArg (fun z => Ending.returned (Value.string (strB z))) HZ.out.symm, HBF.out⟩
                    · have e5 : (k == 5) = false := by simpa using f5
                      by_cases f4 : k = 4
                      · subst f4
                        have hab : inN a = true ∧ inN b = true ∧ inN c = true ∧ (0 ≤ n ∧ n ≤ 2) := by have := HNN.out; unfold numb numbered at this; simp only at this; simp at this; exact ⟨this.1.1.1, this.1.1.2, this.1.2, this.2⟩
                        have hda := decI_len hab.1
                        have hdb := decI_len hab.2.1
                        have hdc := decI_len hab.2.2.1
                        have hpl := polOf_len n
                        have HZ : Hid (LL = wordOf 4 ++ ((((((32 :: decI a) ++ [32]) ++ decI b) ++ [32]) ++ decI c) ++ [32] ++ polOf n)) := by show _ = _; rw [HLA.out]; show joi 32 [wordOf 4, decI a, decI b, decI c, polOf n] = _; rw [joi_cons _ _ (by simp), joi_cons _ _ (by simp), joi_cons _ _ (by simp), joi_cons _ _ (by simp)]; simp [joi]
                        obtain ⟨P1, hP1⟩ : ∃ S, S = 32 :: decI a := ⟨_, rfl⟩
                        obtain ⟨P2, hP2⟩ : ∃ S, S = P1 ++ [32] := ⟨_, rfl⟩
                        obtain ⟨P3, hP3⟩ : ∃ S, S = P2 ++ decI b := ⟨_, rfl⟩
                        obtain ⟨P4, hP4⟩ : ∃ S, S = P3 ++ [32] := ⟨_, rfl⟩
                        obtain ⟨P5, hP5⟩ : ∃ S, S = P4 ++ decI c := ⟨_, rfl⟩
                        obtain ⟨P6, hP6⟩ : ∃ S, S = P5 ++ [32] := ⟨_, rfl⟩
                        obtain ⟨P7, hP7⟩ : ∃ S, S = P6 ++ polOf n := ⟨_, rfl⟩
                        have n1 : P1.length = (decI a).length + 1 := by rw [hP1]; simp
                        have n2 : P2.length = P1.length + 1 := by rw [hP2]; simp
                        have n3 : P3.length = P2.length + (decI b).length := by rw [hP3]; simp
                        have n4 : P4.length = P3.length + 1 := by rw [hP4]; simp
                        have n5 : P5.length = P4.length + (decI c).length := by rw [hP5]; simp
                        have n6 : P6.length = P5.length + 1 := by rw [hP6]; simp
                        have n7 : P7.length = P6.length + (polOf n).length := by rw [hP7]; simp
                        have a1 : ∀ W, (Op.stringOp .add ⟨#[32]⟩ (strB (decI a))).run Tryz.prog W = .ok (.string (strB P1)) W := fun W => by rw [hP1]; exact addS [32] (decI a) (by simp) (by omega) W
                        have a2 : ∀ W, (Op.stringOp .add (strB P1) ⟨#[32]⟩).run Tryz.prog W = .ok (.string (strB P2)) W := fun W => by rw [hP2]; exact addS P1 [32] (by omega) (by simp) W
                        have a3 : ∀ W, (Op.stringOp .add (strB P2) (strB (decI b))).run Tryz.prog W = .ok (.string (strB P3)) W := fun W => by rw [hP3]; exact addS _ _ (by omega) (by omega) W
                        have a4 : ∀ W, (Op.stringOp .add (strB P3) ⟨#[32]⟩).run Tryz.prog W = .ok (.string (strB P4)) W := fun W => by rw [hP4]; exact addS P3 [32] (by omega) (by simp) W
                        have a5 : ∀ W, (Op.stringOp .add (strB P4) (strB (decI c))).run Tryz.prog W = .ok (.string (strB P5)) W := fun W => by rw [hP5]; exact addS _ _ (by omega) (by omega) W
                        have a6 : ∀ W, (Op.stringOp .add (strB P5) ⟨#[32]⟩).run Tryz.prog W = .ok (.string (strB P6)) W := fun W => by rw [hP6]; exact addS P5 [32] (by omega) (by simp) W
                        have a7 : ∀ W, (Op.stringOp .add (strB P6) (strB (polOf n))).run Tryz.prog W = .ok (.string (strB P7)) W := fun W => by rw [hP7]; exact addS _ _ (by omega) (by omega) W
                        have a8 : ∀ W, (Op.stringOp .add (strB (wordOf 4)) (strB P7)).run Tryz.prog W = .ok (.string (strB (wordOf 4 ++ P7))) W := fun W => addS _ _ (by omega) (by omega) W
                        rw [← hP1, ← hP2, ← hP3, ← hP4, ← hP5, ← hP6, ← hP7] at HZ
                        have HMA := Lib.hid (HFG.out a hab.1)
                        have HMB := Lib.hid (HFG.out b hab.2.1)
                        have HMC := Lib.hid (HFG.out c hab.2.2.1)
                        have HPN : Hid (∀ W : World, (W.alloc (.cells #[.string ⟨#[102, 97, 105, 108]⟩, .string ⟨#[111, 117, 114, 115]⟩, .string ⟨#[116, 104, 101, 105, 114, 115]⟩] 9)).cell? ⟨W.heap.size, n.toNat, none⟩ = some (.string (strB (polOf n)))) := fun W => by
                          rw [cell_of_row _ W.heap.size n.toNat _ _ _ (heap_alloc_new W _)]
                          rcases (show n = 0 ∨ n = 1 ∨ n = 2 by have := hab.2.2.2; omega) with rfl | rfl | rfl <;> rfl
                        have nn0 : 0 ≤ n := hab.2.2.2.1
                        have nn2 : n < 3 := by have := hab.2.2.2.2; omega
                        have HCX : Hid (∀ W, Below w1.heap.size w1 W → W.cell? ⟨g, 1, none⟩ = some (.int .i64 a) ∧ W.cell? ⟨g, 2, none⟩ = some (.int .i64 b) ∧ W.cell? ⟨g, 3, none⟩ = some (.int .i64 c) ∧ W.cell? ⟨g, 4, none⟩ = some (.int .i64 n)) := fun W h => by
                          obtain ⟨-, q1, q2, q3, q4, -, -, -⟩ := HC.out W (HB1.out.trans (h.mono HB1.out.size))
                          exact ⟨q1, q2, q3, q4⟩
                        have hd0 : Below w1.heap.size w1 w1.drew := (Below.refl _ _).drew
                        have hgl1 : g < w1.heap.size := World.block_lt_of_cell? w1 _ c0
                        clear HLA hab hda hdb hdc hpl hP1 hP2 hP3 hP4 hP5 hP6 hP7 n1 n2 n3 n4 n5 n6 n7
                        go_upto_region 10 with fail
                        clear c0 c1 c2 c3 c4 c5 c6 c7
                        obtain ⟨c1, c2, c3, c4⟩ := HCX.out w1 (Below.refl _ _)
                        have HMA2 : Hid (∀ W, Below w1.heap.size w1 W → Calls Tryz.prog 23 #[.int .i64 a] W fun e w' => e = .returned (.string (strB (decI a))) ∧ Below W.heap.size W w') := fun W h => HMA.out W
                        have HMB2 : Hid (∀ W, Below w1.heap.size w1 W → Calls Tryz.prog 23 #[.int .i64 b] W fun e w' => e = .returned (.string (strB (decI b))) ∧ Below W.heap.size W w') := fun W h => HMB.out W
                        have HMC2 : Hid (∀ W, Below w1.heap.size w1 W → Calls Tryz.prog 23 #[.int .i64 c] W fun e w' => e = .returned (.string (strB (decI c))) ∧ Below W.heap.size W w') := fun W h => HMC.out W
                        have htab : (#[.string ⟨#[102, 97, 105, 108]⟩, .string ⟨#[111, 117, 114, 115]⟩, .string ⟨#[116, 104, 101, 105, 114, 115]⟩] : Array Value)[n.toNat]? = some (.string (strB (polOf n))) := by
                          have := HPN.out w1
                          rwa [cell_of_row _ w1.heap.size n.toNat _ _ _ (heap_alloc_new w1 _)] at this
                        have htab2 : ∀ h, ([.string ⟨#[102, 97, 105, 108]⟩, .string ⟨#[111, 117, 114, 115]⟩, .string ⟨#[116, 104, 101, 105, 114, 115]⟩] : List Value)[n.toNat]'h = .string (strB (polOf n)) := fun h => by
                          rcases (show n = 0 ∨ n = 1 ∨ n = 2 by omega) with rfl | rfl | rfl <;> rfl
                        refine wp_region_noPanic ?_
                        refine wp_region_held_drew (S := fun W => Below w1.heap.size w1 W ∧ W.cell? ⟨g, 1, none⟩ = some (.int .i64 a) ∧ W.cell? ⟨g, 2, none⟩ = some (.int .i64 b) ∧ W.cell? ⟨g, 3, none⟩ = some (.int .i64 c) ∧ W.cell? ⟨g, 4, none⟩ = some (.int .i64 n)) (by kernel_rfl) ⟨hd0, HCX.out _ hd0⟩ (fun hH0 => ?_)
                        refine wpAnyH_take (i := 0) (oi := ⟨some 35, _, _, _, _, _⟩) (v := ?_) rfl (by kernel_rfl) (by kernel_rfl) (by kernel_rfl) (fun _ _ _ h => h) (Or.inl ⟨by rfl, ?_⟩) (by assumption) ?_
                        rotate_left
                        focus (intro wq hSq; (try dsimp only at hSq); go_simp; try (with_reducible rfl))
                        try simp only [Act.put, List.setIfInBounds_toArray, List.set_cons_zero, List.set_cons_succ]
                        refine wpAnyH_take (i := 1) (oi := ⟨some 36, _, _, _, _, _⟩) (v := ?_) rfl (by kernel_rfl) (by kernel_rfl) (by kernel_rfl) (fun _ _ _ h => h) (Or.inl ⟨by rfl, ?_⟩) (by assumption) ?_
                        rotate_left
                        focus (intro wq hSq; (try dsimp only at hSq); go_simp; try (with_reducible rfl))
                        try simp only [Act.put, List.setIfInBounds_toArray, List.set_cons_zero, List.set_cons_succ]
                        refine wpAnyH_take (i := 2) (oi := ⟨some 37, _, _, _, _, _⟩) (v := ?_) rfl (by kernel_rfl) (by kernel_rfl) (by kernel_rfl) (fun _ _ _ h => h) (Or.inl ⟨by rfl, ?_⟩) (by assumption) ?_
                        rotate_left
                        focus (intro wq hSq; (try dsimp only at hSq); go_simp; try (with_reducible rfl))
                        try simp only [Act.put, List.setIfInBounds_toArray, List.set_cons_zero, List.set_cons_succ]
                        refine wpAnyH_take (i := 6) (oi := ⟨some 41, _, _, _, _, _⟩) (v := ?_) rfl (by kernel_rfl) (by kernel_rfl) (by kernel_rfl) (fun _ _ _ h => h) (Or.inl ⟨by rfl, ?_⟩) (by assumption) ?_
                        rotate_left
                        focus (intro wq hSq; (try dsimp only at hSq); go_simp; try (with_reducible rfl))
                        try simp only [Act.put, List.setIfInBounds_toArray, List.set_cons_zero, List.set_cons_succ]
                        refine wpAnyH_take (i := 7) (oi := ⟨some 42, _, _, _, _, _⟩) (v := ?_) rfl (by kernel_rfl) (by kernel_rfl) (by kernel_rfl) (fun _ _ _ h => h) (Or.inl ⟨by rfl, ?_⟩) (by assumption) ?_
                        rotate_left
                        focus (intro wq hSq; (try dsimp only at hSq); go_simp; try (with_reducible rfl))
                        try simp only [Act.put, List.setIfInBounds_toArray, List.set_cons_zero, List.set_cons_succ]
                        refine wpAnyH_take (i := 11) (oi := ⟨some 46, _, _, _, _, _⟩) (v := ?_) rfl (by kernel_rfl) (by kernel_rfl) (by kernel_rfl) (fun _ _ _ h => h) (Or.inl ⟨by rfl, ?_⟩) (by assumption) ?_
                        rotate_left
                        focus (intro wq hSq; (try dsimp only at hSq); go_simp; try (with_reducible rfl))
                        try simp only [Act.put, List.setIfInBounds_toArray, List.set_cons_zero, List.set_cons_succ]
                        refine wpAnyH_take (i := 12) (oi := ⟨some 47, _, _, _, _, _⟩) (v := ?_) rfl (by kernel_rfl) (by kernel_rfl) (by kernel_rfl) (fun _ _ _ h => h) (Or.inl ⟨by rfl, ?_⟩) (by assumption) ?_
                        rotate_left
                        focus (intro wq hSq; (try dsimp only at hSq); go_simp; try (with_reducible rfl))
                        try simp only [Act.put, List.setIfInBounds_toArray, List.set_cons_zero, List.set_cons_succ]
                        refine wpAnyH_take (i := 17) (oi := ⟨some 52, _, _, _, _, _⟩) (v := ?_) rfl (by kernel_rfl) (by kernel_rfl) (by kernel_rfl) (fun _ _ _ h => h) (Or.inl ⟨by rfl, ?_⟩) (by assumption) ?_
                        rotate_left
                        focus (intro wq hSq; (try dsimp only at hSq); go_simp; try (with_reducible rfl))
                        try simp only [Act.put, List.setIfInBounds_toArray, List.set_cons_zero, List.set_cons_succ]
                        refine wpAnyH_take (i := 18) (oi := ⟨some 53, _, _, _, _, _⟩) (v := ?_) rfl (by kernel_rfl) (by kernel_rfl) (by kernel_rfl) (fun _ _ _ h => h) (Or.inl ⟨by rfl, ?_⟩) (by assumption) ?_
                        rotate_left
                        focus (intro wq hSq; (try dsimp only at hSq); go_simp; try (with_reducible rfl))
                        try simp only [Act.put, List.setIfInBounds_toArray, List.set_cons_zero, List.set_cons_succ]
                        refine wpAnyH_ready (rs := [3, 16]) (by kernel_rfl) (by simp) ?_
                        refine AllReadyH.cons (o := _) rfl (fun K hK => ?_) (AllReadyH.cons (o := _) rfl (fun K hK => ?_) (AllReadyH.nil))
                        · go_simp
                          go_at_call 23
                          refine (HMA2.out _ hd0).mono ?_
                          rintro e wA ⟨rfl, hbA⟩
                          have hdA := Below.trans hd0 (hbA.mono (Below.size hd0))
                          go_wp2_with fail
                          refine hK.out _ _ ⟨hdA, HCX.out _ hdA⟩ (fun hHA => ?_)
                          clear hK K
                          try simp only [Act.put, List.setIfInBounds_toArray, List.set_cons_zero, List.set_cons_succ]
                          refine wpAnyH_take (i := 4) (oi := ⟨some 39, _, _, _, _, _⟩) (v := ?_) rfl (by kernel_rfl) (by kernel_rfl) (by kernel_rfl) (fun _ _ _ h => h) (Or.inl ⟨by rfl, ?_⟩) (by assumption) ?_
                          rotate_left
                          focus (intro wq hSq; (try dsimp only at hSq); go_simp; try (with_reducible rfl))
                          try simp only [Act.put, List.setIfInBounds_toArray, List.set_cons_zero, List.set_cons_succ]
                          refine wpAnyH_take (i := 5) (oi := ⟨some 40, _, _, _, _, _⟩) (v := ?_) rfl (by kernel_rfl) (by kernel_rfl) (by kernel_rfl) (fun _ _ _ h => h) (Or.inl ⟨by rfl, ?_⟩) (by assumption) ?_
                          rotate_left
                          focus (intro wq hSq; (try dsimp only at hSq); go_simp; try (with_reducible rfl))
                          try simp only [Act.put, List.setIfInBounds_toArray, List.set_cons_zero, List.set_cons_succ]
                          refine wpAnyH_ready (rs := [8, 16]) (by kernel_rfl) (by simp) ?_
                          refine AllReadyH.cons (o := _) rfl (fun K hK => ?_) (AllReadyH.cons (o := _) rfl (fun K hK => ?_) (AllReadyH.nil))
                          · go_simp
                            go_at_call 23
                            refine (HMB2.out _ hdA).mono ?_
                            rintro e wB ⟨rfl, hbB⟩
                            have hdB := Below.trans hdA (hbB.mono (Below.size hdA))
                            go_wp2_with fail
                            refine hK.out _ _ ⟨hdB, HCX.out _ hdB⟩ (fun hHB => ?_)
                            clear hK K
                            try simp only [Act.put, List.setIfInBounds_toArray, List.set_cons_zero, List.set_cons_succ]
                            refine wpAnyH_take (i := 9) (oi := ⟨some 44, _, _, _, _, _⟩) (v := ?_) rfl (by kernel_rfl) (by kernel_rfl) (by kernel_rfl) (fun _ _ _ h => h) (Or.inl ⟨by rfl, ?_⟩) (by assumption) ?_
                            rotate_left
                            focus (intro wq hSq; (try dsimp only at hSq); go_simp; try (with_reducible rfl))
                            try simp only [Act.put, List.setIfInBounds_toArray, List.set_cons_zero, List.set_cons_succ]
                            refine wpAnyH_take (i := 10) (oi := ⟨some 45, _, _, _, _, _⟩) (v := ?_) rfl (by kernel_rfl) (by kernel_rfl) (by kernel_rfl) (fun _ _ _ h => h) (Or.inl ⟨by rfl, ?_⟩) (by assumption) ?_
                            rotate_left
                            focus (intro wq hSq; (try dsimp only at hSq); go_simp; try (with_reducible rfl))
                            try simp only [Act.put, List.setIfInBounds_toArray, List.set_cons_zero, List.set_cons_succ]
                            refine wpAnyH_ready (rs := [13, 16]) (by kernel_rfl) (by simp) ?_
                            refine AllReadyH.cons (o := _) rfl (fun K hK => ?_) (AllReadyH.cons (o := _) rfl (fun K hK => ?_) (AllReadyH.nil))
                            · go_simp
                              go_at_call 23
                              refine (HMC2.out _ hdB).mono ?_
                              rintro e wC ⟨rfl, hbC⟩
                              have hdC := Below.trans hdB (hbC.mono (Below.size hdB))
                              go_wp2_with fail
                              refine hK.out _ _ ⟨hdC, HCX.out _ hdC⟩ (fun hHC => ?_)
                              clear hK K
                              try simp only [Act.put, List.setIfInBounds_toArray, List.set_cons_zero, List.set_cons_succ]
                              refine wpAnyH_take (i := 14) (oi := ⟨some 49, _, _, _, _, _⟩) (v := ?_) rfl (by kernel_rfl) (by kernel_rfl) (by kernel_rfl) (fun _ _ _ h => h) (Or.inl ⟨by rfl, ?_⟩) (by assumption) ?_
                              rotate_left
                              focus (intro wq hSq; (try dsimp only at hSq); go_simp; try (with_reducible rfl))
                              try simp only [Act.put, List.setIfInBounds_toArray, List.set_cons_zero, List.set_cons_succ]
                              refine wpAnyH_take (i := 15) (oi := ⟨some 50, _, _, _, _, _⟩) (v := ?_) rfl (by kernel_rfl) (by kernel_rfl) (by kernel_rfl) (fun _ _ _ h => h) (Or.inl ⟨by rfl, ?_⟩) (by assumption) ?_
                              rotate_left
                              focus (intro wq hSq; (try dsimp only at hSq); go_simp; try (with_reducible rfl))
                              try simp only [Act.put, List.setIfInBounds_toArray, List.set_cons_zero, List.set_cons_succ]
                              refine wpAnyH_ready (rs := [16]) (by kernel_rfl) (by simp) ?_
                              refine AllReadyH.cons (o := _) rfl (fun K hK => ?_) (AllReadyH.nil)
                              go_simp
                              have hdW := hdC.alloc hdC.size (.cells #[.string ⟨#[102, 97, 105, 108]⟩, .string ⟨#[111, 117, 114, 115]⟩, .string ⟨#[116, 104, 101, 105, 114, 115]⟩] 9)
                              refine hK.out _ _ ⟨hdW, HCX.out _ hdW⟩ (fun hHW => ?_)
                              clear hK K
                              try simp only [Act.put, List.setIfInBounds_toArray, List.set_cons_zero, List.set_cons_succ]
                              have eSW := HPN.out wC
                              refine wpAnyH_mono (S' := fun W => (Below w1.heap.size w1 W ∧ W.cell? ⟨g, 1, none⟩ = some (.int .i64 a) ∧ W.cell? ⟨g, 2, none⟩ = some (.int .i64 b) ∧ W.cell? ⟨g, 3, none⟩ = some (.int .i64 c) ∧ W.cell? ⟨g, 4, none⟩ = some (.int .i64 n)) ∧ W.cell? ⟨wC.heap.size, n.toNat, none⟩ = some (.string (strB (polOf n)))) (fun _ h => h.1) _ ?_
                              have hHW2 := And.intro hHW eSW
                              refine wpAnyH_take (i := 19) (oi := ⟨some 54, _, _, _, _, _⟩) (v := ?_) rfl (by kernel_rfl) (by kernel_rfl) (by kernel_rfl) (fun _ _ _ h => h) (Or.inl ⟨by rfl, ?_⟩) (by assumption) ?_
                              rotate_left
                              focus (intro wq hSq; (try dsimp only at hSq); go_simp; try (with_reducible rfl))
                              try simp only [Act.put, List.setIfInBounds_toArray, List.set_cons_zero, List.set_cons_succ]
                              refine wpAnyH_take (i := 20) (oi := ⟨some 55, _, _, _, _, _⟩) (v := ?_) rfl (by kernel_rfl) (by kernel_rfl) (by kernel_rfl) (fun _ _ _ h => h) (Or.inl ⟨by rfl, ?_⟩) (by assumption) ?_
                              rotate_left
                              focus (intro wq hSq; (try dsimp only at hSq); go_simp; try (with_reducible rfl))
                              try simp only [Act.put, List.setIfInBounds_toArray, List.set_cons_zero, List.set_cons_succ]
                              refine wpAnyH_take (i := 21) (oi := ⟨some 56, _, _, _, _, _⟩) (v := ?_) rfl (by kernel_rfl) (by kernel_rfl) (by kernel_rfl) (fun _ _ _ h => h) (Or.inl ⟨by rfl, ?_⟩) (by assumption) ?_
                              rotate_left
                              focus (intro wq hSq; (try dsimp only at hSq); go_simp; try (with_reducible rfl))
                              try simp only [Act.put, List.setIfInBounds_toArray, List.set_cons_zero, List.set_cons_succ]
                              refine wpAnyH_take (i := 22) (oi := ⟨some 57, _, _, _, _, _⟩) (v := ?_) rfl (by kernel_rfl) (by kernel_rfl) (by kernel_rfl) (fun _ _ _ h => h) (Or.inl ⟨by rfl, ?_⟩) (by assumption) ?_
                              rotate_left
                              focus (intro wq hSq; (try dsimp only at hSq); go_simp; try (with_reducible rfl))
                              try simp only [Act.put, List.setIfInBounds_toArray, List.set_cons_zero, List.set_cons_succ]
                              refine wpAnyH_take (i := 23) (oi := ⟨some 3, _, _, _, _, _⟩) (v := ?_) rfl (by kernel_rfl) (by kernel_rfl) (by kernel_rfl) (fun _ _ _ h => h) (Or.inl ⟨by rfl, ?_⟩) (by assumption) ?_
                              rotate_left
                              focus (intro wq hSq; (try dsimp only at hSq); go_simp; try (with_reducible rfl))
                              try simp only [Act.put, List.setIfInBounds_toArray, List.set_cons_zero, List.set_cons_succ]
                              refine wpAnyH_done (by kernel_rfl) ?_ _
                              refine NoPanic.normal ?_
                              have HBF := Lib.hid (HBW.out.trans (hdW.mono HBW.out.size))
                              clear HMA HMB HMC HMA2 HMB2 HMC2 HCX
                              go_wp2_with fail
                              go_ret
                              exact ⟨congrArg (fun z => Ending.returned (Value.string (strB z))) HZ.out.symm, HBF.out⟩
                            · go_simp
                              have hdW := hdB.alloc hdB.size (.cells #[.string ⟨#[102, 97, 105, 108]⟩, .string ⟨#[111, 117, 114, 115]⟩, .string ⟨#[116, 104, 101, 105, 114, 115]⟩] 9)
                              refine hK.out _ _ ⟨hdW, HCX.out _ hdW⟩ (fun hHW => ?_)
                              clear hK K
                              try simp only [Act.put, List.setIfInBounds_toArray, List.set_cons_zero, List.set_cons_succ]
                              have eSW := HPN.out wB
                              refine wpAnyH_mono (S' := fun W => (Below w1.heap.size w1 W ∧ W.cell? ⟨g, 1, none⟩ = some (.int .i64 a) ∧ W.cell? ⟨g, 2, none⟩ = some (.int .i64 b) ∧ W.cell? ⟨g, 3, none⟩ = some (.int .i64 c) ∧ W.cell? ⟨g, 4, none⟩ = some (.int .i64 n)) ∧ W.cell? ⟨wB.heap.size, n.toNat, none⟩ = some (.string (strB (polOf n)))) (fun _ h => h.1) _ ?_
                              have hHW2 := And.intro hHW eSW
                              refine wpAnyH_take (i := 19) (oi := ⟨some 54, _, _, _, _, _⟩) (v := ?_) rfl (by kernel_rfl) (by kernel_rfl) (by kernel_rfl) (fun _ _ _ h => h) (Or.inl ⟨by rfl, ?_⟩) (by assumption) ?_
                              rotate_left
                              focus (intro wq hSq; (try dsimp only at hSq); go_simp; try (with_reducible rfl))
                              try simp only [Act.put, List.setIfInBounds_toArray, List.set_cons_zero, List.set_cons_succ]
                              refine wpAnyH_take (i := 20) (oi := ⟨some 55, _, _, _, _, _⟩) (v := ?_) rfl (by kernel_rfl) (by kernel_rfl) (by kernel_rfl) (fun _ _ _ h => h) (Or.inl ⟨by rfl, ?_⟩) (by assumption) ?_
                              rotate_left
                              focus (intro wq hSq; (try dsimp only at hSq); go_simp; try (with_reducible rfl))
                              try simp only [Act.put, List.setIfInBounds_toArray, List.set_cons_zero, List.set_cons_succ]
                              refine wpAnyH_ready (rs := [13]) (by kernel_rfl) (by simp) ?_
                              refine AllReadyH.cons (o := _) rfl (fun K hK => ?_) (AllReadyH.nil)
                              go_simp
                              go_at_call 23
                              refine (HMC2.out _ hdW).mono ?_
                              rintro e wC ⟨rfl, hbC⟩
                              have hdC := Below.trans hdW (hbC.mono (Below.size hdW))
                              have eSC := (hbC.cell (p := ⟨wB.heap.size, n.toNat, none⟩) (World.block_lt_of_cell? _ ⟨wB.heap.size, n.toNat, none⟩ eSW)).trans eSW
                              go_wp2_with fail
                              refine hK.out _ _ ⟨⟨hdC, HCX.out _ hdC⟩, eSC⟩ (fun hHC => ?_)
                              clear hK K
                              try simp only [Act.put, List.setIfInBounds_toArray, List.set_cons_zero, List.set_cons_succ]
                              refine wpAnyH_take (i := 14) (oi := ⟨some 49, _, _, _, _, _⟩) (v := ?_) rfl (by kernel_rfl) (by kernel_rfl) (by kernel_rfl) (fun _ _ _ h => h) (Or.inl ⟨by rfl, ?_⟩) (by assumption) ?_
                              rotate_left
                              focus (intro wq hSq; (try dsimp only at hSq); go_simp; try (with_reducible rfl))
                              try simp only [Act.put, List.setIfInBounds_toArray, List.set_cons_zero, List.set_cons_succ]
                              refine wpAnyH_take (i := 15) (oi := ⟨some 50, _, _, _, _, _⟩) (v := ?_) rfl (by kernel_rfl) (by kernel_rfl) (by kernel_rfl) (fun _ _ _ h => h) (Or.inl ⟨by rfl, ?_⟩) (by assumption) ?_
                              rotate_left
                              focus (intro wq hSq; (try dsimp only at hSq); go_simp; try (with_reducible rfl))
                              try simp only [Act.put, List.setIfInBounds_toArray, List.set_cons_zero, List.set_cons_succ]
                              refine wpAnyH_take (i := 21) (oi := ⟨some 56, _, _, _, _, _⟩) (v := ?_) rfl (by kernel_rfl) (by kernel_rfl) (by kernel_rfl) (fun _ _ _ h => h) (Or.inl ⟨by rfl, ?_⟩) (by assumption) ?_
                              rotate_left
                              focus (intro wq hSq; (try dsimp only at hSq); go_simp; try (with_reducible rfl))
                              try simp only [Act.put, List.setIfInBounds_toArray, List.set_cons_zero, List.set_cons_succ]
                              refine wpAnyH_take (i := 22) (oi := ⟨some 57, _, _, _, _, _⟩) (v := ?_) rfl (by kernel_rfl) (by kernel_rfl) (by kernel_rfl) (fun _ _ _ h => h) (Or.inl ⟨by rfl, ?_⟩) (by assumption) ?_
                              rotate_left
                              focus (intro wq hSq; (try dsimp only at hSq); go_simp; try (with_reducible rfl))
                              try simp only [Act.put, List.setIfInBounds_toArray, List.set_cons_zero, List.set_cons_succ]
                              refine wpAnyH_take (i := 23) (oi := ⟨some 3, _, _, _, _, _⟩) (v := ?_) rfl (by kernel_rfl) (by kernel_rfl) (by kernel_rfl) (fun _ _ _ h => h) (Or.inl ⟨by rfl, ?_⟩) (by assumption) ?_
                              rotate_left
                              focus (intro wq hSq; (try dsimp only at hSq); go_simp; try (with_reducible rfl))
                              try simp only [Act.put, List.setIfInBounds_toArray, List.set_cons_zero, List.set_cons_succ]
                              refine wpAnyH_done (by kernel_rfl) ?_ _
                              refine NoPanic.normal ?_
                              have HBF := Lib.hid (HBW.out.trans (hdC.mono HBW.out.size))
                              clear HMA HMB HMC HMA2 HMB2 HMC2 HCX
                              go_wp2_with fail
                              go_ret
                              exact ⟨congrArg (fun z => Ending.returned (Value.string (strB z))) HZ.out.symm, HBF.out⟩
                          · go_simp
                            have hdW := hdA.alloc hdA.size (.cells #[.string ⟨#[102, 97, 105, 108]⟩, .string ⟨#[111, 117, 114, 115]⟩, .string ⟨#[116, 104, 101, 105, 114, 115]⟩] 9)
                            refine hK.out _ _ ⟨hdW, HCX.out _ hdW⟩ (fun hHW => ?_)
                            clear hK K
                            try simp only [Act.put, List.setIfInBounds_toArray, List.set_cons_zero, List.set_cons_succ]
                            have eSW := HPN.out wA
                            refine wpAnyH_mono (S' := fun W => (Below w1.heap.size w1 W ∧ W.cell? ⟨g, 1, none⟩ = some (.int .i64 a) ∧ W.cell? ⟨g, 2, none⟩ = some (.int .i64 b) ∧ W.cell? ⟨g, 3, none⟩ = some (.int .i64 c) ∧ W.cell? ⟨g, 4, none⟩ = some (.int .i64 n)) ∧ W.cell? ⟨wA.heap.size, n.toNat, none⟩ = some (.string (strB (polOf n)))) (fun _ h => h.1) _ ?_
                            have hHW2 := And.intro hHW eSW
                            refine wpAnyH_take (i := 19) (oi := ⟨some 54, _, _, _, _, _⟩) (v := ?_) rfl (by kernel_rfl) (by kernel_rfl) (by kernel_rfl) (fun _ _ _ h => h) (Or.inl ⟨by rfl, ?_⟩) (by assumption) ?_
                            rotate_left
                            focus (intro wq hSq; (try dsimp only at hSq); go_simp; try (with_reducible rfl))
                            try simp only [Act.put, List.setIfInBounds_toArray, List.set_cons_zero, List.set_cons_succ]
                            refine wpAnyH_take (i := 20) (oi := ⟨some 55, _, _, _, _, _⟩) (v := ?_) rfl (by kernel_rfl) (by kernel_rfl) (by kernel_rfl) (fun _ _ _ h => h) (Or.inl ⟨by rfl, ?_⟩) (by assumption) ?_
                            rotate_left
                            focus (intro wq hSq; (try dsimp only at hSq); go_simp; try (with_reducible rfl))
                            try simp only [Act.put, List.setIfInBounds_toArray, List.set_cons_zero, List.set_cons_succ]
                            refine wpAnyH_ready (rs := [8]) (by kernel_rfl) (by simp) ?_
                            refine AllReadyH.cons (o := _) rfl (fun K hK => ?_) (AllReadyH.nil)
                            go_simp
                            go_at_call 23
                            refine (HMB2.out _ hdW).mono ?_
                            rintro e wB ⟨rfl, hbB⟩
                            have hdB := Below.trans hdW (hbB.mono (Below.size hdW))
                            have eSB := (hbB.cell (p := ⟨wA.heap.size, n.toNat, none⟩) (World.block_lt_of_cell? _ ⟨wA.heap.size, n.toNat, none⟩ eSW)).trans eSW
                            go_wp2_with fail
                            refine hK.out _ _ ⟨⟨hdB, HCX.out _ hdB⟩, eSB⟩ (fun hHB => ?_)
                            clear hK K
                            try simp only [Act.put, List.setIfInBounds_toArray, List.set_cons_zero, List.set_cons_succ]
                            refine wpAnyH_take (i := 9) (oi := ⟨some 44, _, _, _, _, _⟩) (v := ?_) rfl (by kernel_rfl) (by kernel_rfl) (by kernel_rfl) (fun _ _ _ h => h) (Or.inl ⟨by rfl, ?_⟩) (by assumption) ?_
                            rotate_left
                            focus (intro wq hSq; (try dsimp only at hSq); go_simp; try (with_reducible rfl))
                            try simp only [Act.put, List.setIfInBounds_toArray, List.set_cons_zero, List.set_cons_succ]
                            refine wpAnyH_take (i := 10) (oi := ⟨some 45, _, _, _, _, _⟩) (v := ?_) rfl (by kernel_rfl) (by kernel_rfl) (by kernel_rfl) (fun _ _ _ h => h) (Or.inl ⟨by rfl, ?_⟩) (by assumption) ?_
                            rotate_left
                            focus (intro wq hSq; (try dsimp only at hSq); go_simp; try (with_reducible rfl))
                            try simp only [Act.put, List.setIfInBounds_toArray, List.set_cons_zero, List.set_cons_succ]
                            refine wpAnyH_ready (rs := [13]) (by kernel_rfl) (by simp) ?_
                            refine AllReadyH.cons (o := _) rfl (fun K hK => ?_) (AllReadyH.nil)
                            go_simp
                            go_at_call 23
                            refine (HMC2.out _ hdB).mono ?_
                            rintro e wC ⟨rfl, hbC⟩
                            have hdC := Below.trans hdB (hbC.mono (Below.size hdB))
                            have eSC := (hbC.cell (p := ⟨wA.heap.size, n.toNat, none⟩) (World.block_lt_of_cell? _ ⟨wA.heap.size, n.toNat, none⟩ eSB)).trans eSB
                            go_wp2_with fail
                            refine hK.out _ _ ⟨⟨hdC, HCX.out _ hdC⟩, eSC⟩ (fun hHC => ?_)
                            clear hK K
                            try simp only [Act.put, List.setIfInBounds_toArray, List.set_cons_zero, List.set_cons_succ]
                            refine wpAnyH_take (i := 14) (oi := ⟨some 49, _, _, _, _, _⟩) (v := ?_) rfl (by kernel_rfl) (by kernel_rfl) (by kernel_rfl) (fun _ _ _ h => h) (Or.inl ⟨by rfl, ?_⟩) (by assumption) ?_
                            rotate_left
                            focus (intro wq hSq; (try dsimp only at hSq); go_simp; try (with_reducible rfl))
                            try simp only [Act.put, List.setIfInBounds_toArray, List.set_cons_zero, List.set_cons_succ]
                            refine wpAnyH_take (i := 15) (oi := ⟨some 50, _, _, _, _, _⟩) (v := ?_) rfl (by kernel_rfl) (by kernel_rfl) (by kernel_rfl) (fun _ _ _ h => h) (Or.inl ⟨by rfl, ?_⟩) (by assumption) ?_
                            rotate_left
                            focus (intro wq hSq; (try dsimp only at hSq); go_simp; try (with_reducible rfl))
                            try simp only [Act.put, List.setIfInBounds_toArray, List.set_cons_zero, List.set_cons_succ]
                            refine wpAnyH_take (i := 21) (oi := ⟨some 56, _, _, _, _, _⟩) (v := ?_) rfl (by kernel_rfl) (by kernel_rfl) (by kernel_rfl) (fun _ _ _ h => h) (Or.inl ⟨by rfl, ?_⟩) (by assumption) ?_
                            rotate_left
                            focus (intro wq hSq; (try dsimp only at hSq); go_simp; try (with_reducible rfl))
                            try simp only [Act.put, List.setIfInBounds_toArray, List.set_cons_zero, List.set_cons_succ]
                            refine wpAnyH_take (i := 22) (oi := ⟨some 57, _, _, _, _, _⟩) (v := ?_) rfl (by kernel_rfl) (by kernel_rfl) (by kernel_rfl) (fun _ _ _ h => h) (Or.inl ⟨by rfl, ?_⟩) (by assumption) ?_
                            rotate_left
                            focus (intro wq hSq; (try dsimp only at hSq); go_simp; try (with_reducible rfl))
                            try simp only [Act.put, List.setIfInBounds_toArray, List.set_cons_zero, List.set_cons_succ]
                            refine wpAnyH_take (i := 23) (oi := ⟨some 3, _, _, _, _, _⟩) (v := ?_) rfl (by kernel_rfl) (by kernel_rfl) (by kernel_rfl) (fun _ _ _ h => h) (Or.inl ⟨by rfl, ?_⟩) (by assumption) ?_
                            rotate_left
                            focus (intro wq hSq; (try dsimp only at hSq); go_simp; try (with_reducible rfl))
                            try simp only [Act.put, List.setIfInBounds_toArray, List.set_cons_zero, List.set_cons_succ]
                            refine wpAnyH_done (by kernel_rfl) ?_ _
                            refine NoPanic.normal ?_
                            have HBF := Lib.hid (HBW.out.trans (hdC.mono HBW.out.size))
                            clear HMA HMB HMC HMA2 HMB2 HMC2 HCX
                            go_wp2_with fail
                            go_ret
                            exact ⟨congrArg (fun z => Ending.returned (Value.string (strB z))) HZ.out.symm, HBF.out⟩
                        · go_simp
                          have hdW := hd0.alloc hd0.size (.cells #[.string ⟨#[102, 97, 105, 108]⟩, .string ⟨#[111, 117, 114, 115]⟩, .string ⟨#[116, 104, 101, 105, 114, 115]⟩] 9)
                          refine hK.out _ _ ⟨hdW, HCX.out _ hdW⟩ (fun hHW => ?_)
                          clear hK K
                          try simp only [Act.put, List.setIfInBounds_toArray, List.set_cons_zero, List.set_cons_succ]
                          have eSW := HPN.out w1
                          refine wpAnyH_mono (S' := fun W => (Below w1.heap.size w1 W ∧ W.cell? ⟨g, 1, none⟩ = some (.int .i64 a) ∧ W.cell? ⟨g, 2, none⟩ = some (.int .i64 b) ∧ W.cell? ⟨g, 3, none⟩ = some (.int .i64 c) ∧ W.cell? ⟨g, 4, none⟩ = some (.int .i64 n)) ∧ W.cell? ⟨w1.heap.size, n.toNat, none⟩ = some (.string (strB (polOf n)))) (fun _ h => h.1) _ ?_
                          have hHW2 := And.intro hHW eSW
                          refine wpAnyH_take (i := 19) (oi := ⟨some 54, _, _, _, _, _⟩) (v := ?_) rfl (by kernel_rfl) (by kernel_rfl) (by kernel_rfl) (fun _ _ _ h => h) (Or.inl ⟨by rfl, ?_⟩) (by assumption) ?_
                          rotate_left
                          focus (intro wq hSq; (try dsimp only at hSq); go_simp; try (with_reducible rfl))
                          try simp only [Act.put, List.setIfInBounds_toArray, List.set_cons_zero, List.set_cons_succ]
                          refine wpAnyH_take (i := 20) (oi := ⟨some 55, _, _, _, _, _⟩) (v := ?_) rfl (by kernel_rfl) (by kernel_rfl) (by kernel_rfl) (fun _ _ _ h => h) (Or.inl ⟨by rfl, ?_⟩) (by assumption) ?_
                          rotate_left
                          focus (intro wq hSq; (try dsimp only at hSq); go_simp; try (with_reducible rfl))
                          try simp only [Act.put, List.setIfInBounds_toArray, List.set_cons_zero, List.set_cons_succ]
                          refine wpAnyH_ready (rs := [3]) (by kernel_rfl) (by simp) ?_
                          refine AllReadyH.cons (o := _) rfl (fun K hK => ?_) (AllReadyH.nil)
                          go_simp
                          go_at_call 23
                          refine (HMA2.out _ hdW).mono ?_
                          rintro e wA ⟨rfl, hbA⟩
                          have hdA := Below.trans hdW (hbA.mono (Below.size hdW))
                          have eSA := (hbA.cell (p := ⟨w1.heap.size, n.toNat, none⟩) (World.block_lt_of_cell? _ ⟨w1.heap.size, n.toNat, none⟩ eSW)).trans eSW
                          go_wp2_with fail
                          refine hK.out _ _ ⟨⟨hdA, HCX.out _ hdA⟩, eSA⟩ (fun hHA => ?_)
                          clear hK K
                          try simp only [Act.put, List.setIfInBounds_toArray, List.set_cons_zero, List.set_cons_succ]
                          refine wpAnyH_take (i := 4) (oi := ⟨some 39, _, _, _, _, _⟩) (v := ?_) rfl (by kernel_rfl) (by kernel_rfl) (by kernel_rfl) (fun _ _ _ h => h) (Or.inl ⟨by rfl, ?_⟩) (by assumption) ?_
                          rotate_left
                          focus (intro wq hSq; (try dsimp only at hSq); go_simp; try (with_reducible rfl))
                          try simp only [Act.put, List.setIfInBounds_toArray, List.set_cons_zero, List.set_cons_succ]
                          refine wpAnyH_take (i := 5) (oi := ⟨some 40, _, _, _, _, _⟩) (v := ?_) rfl (by kernel_rfl) (by kernel_rfl) (by kernel_rfl) (fun _ _ _ h => h) (Or.inl ⟨by rfl, ?_⟩) (by assumption) ?_
                          rotate_left
                          focus (intro wq hSq; (try dsimp only at hSq); go_simp; try (with_reducible rfl))
                          try simp only [Act.put, List.setIfInBounds_toArray, List.set_cons_zero, List.set_cons_succ]
                          refine wpAnyH_ready (rs := [8]) (by kernel_rfl) (by simp) ?_
                          refine AllReadyH.cons (o := _) rfl (fun K hK => ?_) (AllReadyH.nil)
                          go_simp
                          go_at_call 23
                          refine (HMB2.out _ hdA).mono ?_
                          rintro e wB ⟨rfl, hbB⟩
                          have hdB := Below.trans hdA (hbB.mono (Below.size hdA))
                          have eSB := (hbB.cell (p := ⟨w1.heap.size, n.toNat, none⟩) (World.block_lt_of_cell? _ ⟨w1.heap.size, n.toNat, none⟩ eSA)).trans eSA
                          go_wp2_with fail
                          refine hK.out _ _ ⟨⟨hdB, HCX.out _ hdB⟩, eSB⟩ (fun hHB => ?_)
                          clear hK K
                          try simp only [Act.put, List.setIfInBounds_toArray, List.set_cons_zero, List.set_cons_succ]
                          refine wpAnyH_take (i := 9) (oi := ⟨some 44, _, _, _, _, _⟩) (v := ?_) rfl (by kernel_rfl) (by kernel_rfl) (by kernel_rfl) (fun _ _ _ h => h) (Or.inl ⟨by rfl, ?_⟩) (by assumption) ?_
                          rotate_left
                          focus (intro wq hSq; (try dsimp only at hSq); go_simp; try (with_reducible rfl))
                          try simp only [Act.put, List.setIfInBounds_toArray, List.set_cons_zero, List.set_cons_succ]
                          refine wpAnyH_take (i := 10) (oi := ⟨some 45, _, _, _, _, _⟩) (v := ?_) rfl (by kernel_rfl) (by kernel_rfl) (by kernel_rfl) (fun _ _ _ h => h) (Or.inl ⟨by rfl, ?_⟩) (by assumption) ?_
                          rotate_left
                          focus (intro wq hSq; (try dsimp only at hSq); go_simp; try (with_reducible rfl))
                          try simp only [Act.put, List.setIfInBounds_toArray, List.set_cons_zero, List.set_cons_succ]
                          refine wpAnyH_ready (rs := [13]) (by kernel_rfl) (by simp) ?_
                          refine AllReadyH.cons (o := _) rfl (fun K hK => ?_) (AllReadyH.nil)
                          go_simp
                          go_at_call 23
                          refine (HMC2.out _ hdB).mono ?_
                          rintro e wC ⟨rfl, hbC⟩
                          have hdC := Below.trans hdB (hbC.mono (Below.size hdB))
                          have eSC := (hbC.cell (p := ⟨w1.heap.size, n.toNat, none⟩) (World.block_lt_of_cell? _ ⟨w1.heap.size, n.toNat, none⟩ eSB)).trans eSB
                          go_wp2_with fail
                          refine hK.out _ _ ⟨⟨hdC, HCX.out _ hdC⟩, eSC⟩ (fun hHC => ?_)
                          clear hK K
                          try simp only [Act.put, List.setIfInBounds_toArray, List.set_cons_zero, List.set_cons_succ]
                          refine wpAnyH_take (i := 14) (oi := ⟨some 49, _, _, _, _, _⟩) (v := ?_) rfl (by kernel_rfl) (by kernel_rfl) (by kernel_rfl) (fun _ _ _ h => h) (Or.inl ⟨by rfl, ?_⟩) (by assumption) ?_
                          rotate_left
                          focus (intro wq hSq; (try dsimp only at hSq); go_simp; try (with_reducible rfl))
                          try simp only [Act.put, List.setIfInBounds_toArray, List.set_cons_zero, List.set_cons_succ]
                          refine wpAnyH_take (i := 15) (oi := ⟨some 50, _, _, _, _, _⟩) (v := ?_) rfl (by kernel_rfl) (by kernel_rfl) (by kernel_rfl) (fun _ _ _ h => h) (Or.inl ⟨by rfl, ?_⟩) (by assumption) ?_
                          rotate_left
                          focus (intro wq hSq; (try dsimp only at hSq); go_simp; try (with_reducible rfl))
                          try simp only [Act.put, List.setIfInBounds_toArray, List.set_cons_zero, List.set_cons_succ]
                          refine wpAnyH_take (i := 21) (oi := ⟨some 56, _, _, _, _, _⟩) (v := ?_) rfl (by kernel_rfl) (by kernel_rfl) (by kernel_rfl) (fun _ _ _ h => h) (Or.inl ⟨by rfl, ?_⟩) (by assumption) ?_
                          rotate_left
                          focus (intro wq hSq; (try dsimp only at hSq); go_simp; try (with_reducible rfl))
                          try simp only [Act.put, List.setIfInBounds_toArray, List.set_cons_zero, List.set_cons_succ]
                          refine wpAnyH_take (i := 22) (oi := ⟨some 57, _, _, _, _, _⟩) (v := ?_) rfl (by kernel_rfl) (by kernel_rfl) (by kernel_rfl) (fun _ _ _ h => h) (Or.inl ⟨by rfl, ?_⟩) (by assumption) ?_
                          rotate_left
                          focus (intro wq hSq; (try dsimp only at hSq); go_simp; try (with_reducible rfl))
                          try simp only [Act.put, List.setIfInBounds_toArray, List.set_cons_zero, List.set_cons_succ]
                          refine wpAnyH_take (i := 23) (oi := ⟨some 3, _, _, _, _, _⟩) (v := ?_) rfl (by kernel_rfl) (by kernel_rfl) (by kernel_rfl) (fun _ _ _ h => h) (Or.inl ⟨by rfl, ?_⟩) (by assumption) ?_
                          rotate_left
                          focus (intro wq hSq; (try dsimp only at hSq); go_simp; try (with_reducible rfl))
                          try simp only [Act.put, List.setIfInBounds_toArray, List.set_cons_zero, List.set_cons_succ]
                          refine wpAnyH_done (by kernel_rfl) ?_ _
                          refine NoPanic.normal ?_
                          have HBF := Lib.hid (HBW.out.trans (hdC.mono HBW.out.size))
                          clear HMA HMB HMC HMA2 HMB2 HMC2 HCX
                          go_wp2_with fail
                          go_ret
                          exact ⟨congrArg (fun z => Ending.returned (Value.string (strB z))) HZ.out.symm, HBF.out⟩
                      · have e4 : (k == 4) = false := by simpa using f4
                        have f9 : k = 9 := by have := HKK.out; omega
                        subst f9
                        have hkl := HL.out.2.1
                        have htl := HL.out.2.2
                        obtain ⟨P0, hP0⟩ : ∃ P, P = wordOf 9 ++ [32, 107, 101, 101, 112, 32] := ⟨_, rfl⟩
                        have hp0 : P0.length ≤ 20 := by rw [hP0, List.length_append]; simp; omega
                        obtain ⟨JK, hJK⟩ : ∃ J : Nat → Bs, J = fun m => joi 44 ((keep.take m).map decI) := ⟨_, rfl⟩
                        obtain ⟨JT, hJT⟩ : ∃ J : Nat → Bs, J = fun m => joi 44 ((torn.take m).map putT) := ⟨_, rfl⟩
                        have hjk : ∀ m, (JK m).length ≤ 2000 := fun m => by
                          rw [hJK]
                          have h1 := joi_len 44 9 ((keep.take m).map decI) (fun x hx => by obtain ⟨y, h1, rfl⟩ := List.mem_map.1 hx; exact decI_len (HIN.out y (List.mem_of_mem_take h1)))
                          have h2 : ((keep.take m).map decI).length ≤ 200 := by rw [List.length_map, List.length_take]; omega
                          simp only
                          omega
                        have hjt : ∀ m, (JT m).length ≤ 1700000 := fun m => by
                          rw [hJT]
                          have h1 := joi_len 44 8300 ((torn.take m).map putT) (fun x hx => by
                            obtain ⟨y, h1, rfl⟩ := List.mem_map.1 hx
                            have hok := HOK.out y (List.mem_of_mem_take h1)
                            unfold tornOk at hok
                            simp only [Bool.and_eq_true, decide_eq_true_eq] at hok
                            have := putT_len hok.1
                            omega)
                          have h2 : ((torn.take m).map putT).length ≤ 200 := by rw [List.length_map, List.length_take]; omega
                          simp only
                          omega
                        have HJK1 : Hid (∀ m x, keep[m]? = some x → JK (m + 1) = if m = 0 then decI x else JK m ++ 44 :: decI x) := fun m x hx => by
                          rw [hJK]
                          simp only
                          rw [List.take_add_one, hx, Option.toList_some, List.map_append, List.map_singleton, joi_snoc]
                          have hml := (List.getElem?_eq_some_iff.1 hx).1
                          by_cases h : m = 0
                          · subst h; rfl
                          · rw [if_neg h, if_neg (fun e => h (by have := congrArg List.length e; rw [List.length_map, List.length_take] at this; simp at this; rcases this with e | e; exact e; rw [e] at hml; simp at hml))]
                        have HJT1 : Hid (∀ m x, torn[m]? = some x → JT (m + 1) = if m = 0 then putT x else JT m ++ 44 :: putT x) := fun m x hx => by
                          rw [hJT]
                          simp only
                          rw [List.take_add_one, hx, Option.toList_some, List.map_append, List.map_singleton, joi_snoc]
                          have hml := (List.getElem?_eq_some_iff.1 hx).1
                          by_cases h : m = 0
                          · subst h; rfl
                          · rw [if_neg h, if_neg (fun e => h (by have := congrArg List.length e; rw [List.length_map, List.length_take] at this; simp at this; rcases this with e | e; exact e; rw [e] at hml; simp at hml))]
                        have HJK0 : Hid (JK 0 = []) := by show _ = _; rw [hJK]; rfl
                        have HJT0 : Hid (JT 0 = []) := by show _ = _; rw [hJT]; rfl
                        have HJKF : Hid (keep ≠ [] → JK keep.length = putL decI keep) := fun h => by rw [hJK]; simp only [List.take_length]; unfold putL; rw [if_neg h]
                        have HJTF : Hid (torn ≠ [] → JT torn.length = putL putT torn) := fun h => by rw [hJT]; simp only [List.take_length]; unfold putL; rw [if_neg h]
                        have HJKN : Hid (keep = [] → putL decI keep = [45]) := fun h => by unfold putL; rw [if_pos h]
                        have HJTN : Hid (torn = [] → putL putT torn = [45]) := fun h => by unfold putL; rw [if_pos h]
                        have HJKL := Lib.hid hjk
                        have HJTL := Lib.hid hjt
                        obtain ⟨PK, hPK⟩ : ∃ P, P = putL decI keep := ⟨_, rfl⟩
                        obtain ⟨PT, hPT⟩ : ∃ P, P = putL putT torn := ⟨_, rfl⟩
                        have HZ : Hid (LL = ((P0 ++ PK) ++ [32, 116, 111, 114, 110, 32]) ++ PT) := by
                          show _ = _
                          rw [HLA.out, hP0, hPK, hPT]
                          show joi 32 [wordOf 9, keepW, putL decI keep, tornW, putL putT torn] = _
                          rw [joi_cons _ _ (by simp), joi_cons _ _ (by simp), joi_cons _ _ (by simp), joi_cons _ _ (by simp)]
                          simp [joi, keepW, tornW]
                        rw [← hPK] at HJKF HJKN
                        rw [← hPT] at HJTF HJTN
                        have a0 : ∀ W, (Op.stringOp .add (strB (wordOf 9)) ⟨#[32, 107, 101, 101, 112, 32]⟩).run Tryz.prog W = .ok (.string (strB P0)) W := fun W => by rw [hP0]; exact addS (wordOf 9) [32, 107, 101, 101, 112, 32] (by omega) (by simp) W
                        clear HLA hJK hJT hjk hjt hPK hPT hP0 f1 f3 f6 f11 f2 f7 f10 f8 f5 f4
                        go_wp2_with fail
                        go_loopw [3, 91] (fun s i wr => ∃ m : Nat, m ≤ keep.length ∧ i = .int .i64 m ∧ s = .string (strB (P0 ++ JK m)) ∧ Below w1.heap.size w1 wr) (fun _ i _ => keep.length - (intOf i).toNat)
                        case atStart => exact ⟨0, Nat.zero_le _, rfl, by rw [HJK0.out, List.append_nil], Below.refl _ _⟩
                        case round =>
                          obtain ⟨m, hm, rfl, rfl, hbe⟩ := hrel
                          have hjm := HJKL.out m
                          by_cases h1 : m < keep.length
                          · obtain ⟨x, hx⟩ : ∃ x, keep[m]? = some x := ⟨_, List.getElem?_eq_getElem h1⟩
                            obtain ⟨b', o, rfl, cx⟩ := rowCell (HK.out wr (HB1.out.trans (hbe.mono HB1.out.size))) hx
                            replace cx : wr.cell? ⟨b', o + m, none⟩ = some (.int .i64 x) := cx
                            have hin := HIN.out x (List.mem_of_getElem? hx)
                            have hdl := decI_len hin
                            have hst := HJK1.out m x hx
                            have HM := Lib.hid (HFG.out x hin wr)
                            clear hx hin
                            by_cases hm0 : m = 0
                            · subst hm0
                              rw [if_pos rfl] at hst
                              rw [Nat.add_zero] at cx
                              have HS : Hid (P0 ++ JK (0 + 1) = (P0 ++ JK 0) ++ decI x) := by show _ = _; rw [hst, HJK0.out, List.append_nil]
                              have a1 : ∀ W, (Op.stringOp .add (strB (P0 ++ JK 0)) (strB (decI x))).run Tryz.prog W = .ok (.string (strB ((P0 ++ JK 0) ++ decI x))) W := fun W => addS _ _ (by rw [List.length_append]; omega) (by omega) W
                              obtain ⟨Y, hY⟩ : ∃ Y, Y = (P0 ++ JK 0) ++ decI x := ⟨_, rfl⟩
                              obtain ⟨Y0, hY0⟩ : ∃ Y, Y = P0 ++ JK 0 := ⟨_, rfl⟩
                              rw [← hY] at a1 HS
                              rw [← hY0] at a1
                              rw [← hY0]
                              clear hst hY hY0
                              go_wp2_with fail
                              refine HM.out.mono ?_
                              rintro e w2 ⟨rfl, hb2⟩
                              have hbe2 := hbe.trans (hb2.mono hbe.size)
                              clear HM hb2
                              go_wp2_with fail
                              go_roundw
                              case rel => exact ⟨0 + 1, h1, by go_num, by rw [HS.out], hbe2⟩
                              case measure => simp only [intOf]; omega
                            · rw [if_neg hm0] at hst
                              have HS : Hid (P0 ++ JK (m + 1) = ((P0 ++ JK m) ++ [44]) ++ decI x) := by show _ = _; rw [hst]; simp
                              have t0 : decide ((0 : Int) < (m : Int)) = true := decide_eq_true (by omega)
                              have t0n : decide (0 < m) = true := decide_eq_true (by omega)
                              have a1 : ∀ W, (Op.stringOp .add (strB (P0 ++ JK m)) ⟨#[44]⟩).run Tryz.prog W = .ok (.string (strB ((P0 ++ JK m) ++ [44]))) W := fun W => addS _ [44] (by rw [List.length_append]; omega) (by simp) W
                              have a2 : ∀ W, (Op.stringOp .add (strB ((P0 ++ JK m) ++ [44])) (strB (decI x))).run Tryz.prog W = .ok (.string (strB (((P0 ++ JK m) ++ [44]) ++ decI x))) W := fun W => addS _ _ (by simp only [List.length_append, List.length_singleton]; omega) (by omega) W
                              obtain ⟨Y, hY⟩ : ∃ Y, Y = ((P0 ++ JK m) ++ [44]) ++ decI x := ⟨_, rfl⟩
                              obtain ⟨Y1, hY1⟩ : ∃ Y, Y = (P0 ++ JK m) ++ [44] := ⟨_, rfl⟩
                              obtain ⟨Y0, hY0⟩ : ∃ Y, Y = P0 ++ JK m := ⟨_, rfl⟩
                              rw [← hY] at a2 HS
                              rw [← hY1] at a1 a2
                              rw [← hY0] at a1
                              rw [← hY0]
                              clear hst hY hY0 hY1 hm0
                              go_wp2_with fail
                              refine HM.out.mono ?_
                              rintro e w2 ⟨rfl, hb2⟩
                              have hbe2 := hbe.trans (hb2.mono hbe.size)
                              clear HM hb2
                              go_wp2_with fail
                              go_roundw
                              case rel => exact ⟨m + 1, h1, by go_num, by rw [HS.out], hbe2⟩
                              case measure => simp only [intOf]; omega
                          · have hmk : m = keep.length := by omega
                            subst hmk
                            obtain ⟨w2, rfl⟩ : ∃ w2 : World, w2 = wr := ⟨_, rfl⟩
                            have hb02 := HB1.out.trans (hbe.mono HB1.out.size)
                            have hbw2 := HBW.out.trans (hbe.mono HBW.out.size)
                            obtain ⟨c0, c1, c2, c3, c4, c5, c6, c7⟩ := HC.out w2 hb02
                            have HB02 := Lib.hid hb02
                            have HBW2 := Lib.hid hbw2
                            -- the words of the numbers
                            have hS : ∃ SK : Bs, SK = P0 ++ PK ∧ SK.length ≤ 3000 := by
                              refine ⟨_, rfl, ?_⟩
                              rw [List.length_append]
                              by_cases h : keep = []
                              · rw [HJKN.out h]; simp; omega
                              · rw [← HJKF.out h]; omega
                            obtain ⟨SK, hSK, hskl⟩ := hS
                            have HSK := Lib.hid hSK
                            rw [← hSK] at HZ
                            have b0 : ∀ W, (Op.stringOp .add (strB SK) ⟨#[32, 116, 111, 114, 110, 32]⟩).run Tryz.prog W = .ok (.string (strB (SK ++ [32, 116, 111, 114, 110, 32]))) W := fun W => addS SK [32, 116, 111, 114, 110, 32] (by omega) (by simp) W
                            obtain ⟨Q0, hQ0⟩ : ∃ Q, Q = SK ++ [32, 116, 111, 114, 110, 32] := ⟨_, rfl⟩
                            have hq0 : Q0.length ≤ 4000 := by rw [hQ0, List.length_append]; simp; omega
                            rw [← hQ0] at b0 HZ
                            have HEND : Hid (keep = [] ∧ (∀ W, (Op.stringOp .add (strB (P0 ++ JK keep.length)) ⟨#[45]⟩).run Tryz.prog W = .ok (.string (strB SK)) W) ∧ ((keep.length : Int) == 0) = true ∨ strB (P0 ++ JK keep.length) = strB SK ∧ ((keep.length : Int) == 0) = false) := by
                              by_cases h : keep = []
                              · refine .inl ⟨h, fun W => ?_, by rw [h]; rfl⟩
                                have e1 : JK keep.length = [] := by rw [h]; exact HJK0.out
                                rw [e1, List.append_nil, hSK, HJKN.out h]
                                exact addS P0 [45] (by omega) (by simp) W
                              · exact .inr ⟨by rw [hSK, HJKF.out h], by simpa using h⟩
                            clear hbe hb02 hbw2 hSK hQ0 hjm
                            obtain ⟨SJ, hSJ⟩ : ∃ S, S = strB (P0 ++ JK keep.length) := ⟨_, rfl⟩
                            rw [← hSJ] at HEND
                            rw [← hSJ]
                            clear hSJ
                            rcases HEND.out with ⟨hke, b1, q1⟩ | ⟨hj, q1⟩
                            · clear HEND hke
                              go_wp2_with fail
                              go_loopw [3, 116] (fun s i wr => ∃ m : Nat, m ≤ torn.length ∧ i = .int .i64 m ∧ s = .string (strB (Q0 ++ JT m)) ∧ Below w2.heap.size w2 wr) (fun _ i _ => torn.length - (intOf i).toNat)
                              case atStart => exact ⟨0, Nat.zero_le _, rfl, by rw [HJT0.out, List.append_nil], Below.refl _ _⟩
                              case round =>
                                obtain ⟨m, hm, rfl, rfl, hbe⟩ := hrel
                                have hjm := HJTL.out m
                                have hb0r := HB02.out.trans (hbe.mono HB02.out.size)
                                have HBR := Lib.hid (HBW2.out.trans (hbe.mono HBW2.out.size))
                                by_cases h1 : m < torn.length
                                · obtain ⟨⟨z, zs⟩, hx⟩ : ∃ x, torn[m]? = some x := ⟨_, List.getElem?_eq_getElem h1⟩
                                  obtain ⟨aq, cq, hv, -, hcl⟩ := (HT.out wr hb0r).shape rtC_len
                                  cases hv
                                  obtain ⟨b', o, rfl, hcx⟩ := hcl m _ hx
                                  have x0 := hcx 0 _ rfl
                                  have x1 := hcx 1 _ rfl
                                  have hbb : b' < wr.heap.size := World.block_lt_of_cell? wr _ x0
                                  replace x0 : wr.cell? ⟨b', o + m * 2, none⟩ = some (.int .i64 z) := x0
                                  replace x1 : wr.cell? ⟨b', o + m * 2 + 1, none⟩ = some (.string (strB zs)) := x1
                                  have hok := HOK.out _ (List.mem_of_getElem? hx)
                                  unfold tornOk at hok
                                  simp only [Bool.and_eq_true, decide_eq_true_eq] at hok
                                  have hdl := decI_len hok.1
                                  have hpb := putB_len zs
                                  have hzl : zs.length ≤ 4096 := hok.2
                                  have hst := HJT1.out m _ hx
                                  have HMF := Lib.hid (HFG.out z hok.1)
                                  have HMH : Hid (∀ W, Calls Tryz.prog 22 #[.string (strB zs)] W fun e w' => e = .returned (.string (strB (putB zs))) ∧ Below W.heap.size W w') := fun W => rhex_any zs (by omega) W
                                  have hpt : putT (z, zs) = (decI z ++ [58]) ++ putB zs := by unfold putT; simp
                                  obtain ⟨D1, hD1⟩ : ∃ D, D = decI z := ⟨_, rfl⟩
                                  obtain ⟨D2, hD2⟩ : ∃ D, D = D1 ++ [58] := ⟨_, rfl⟩
                                  obtain ⟨D3, hD3⟩ : ∃ D, D = putB zs := ⟨_, rfl⟩
                                  obtain ⟨D4, hD4⟩ : ∃ D, D = D2 ++ D3 := ⟨_, rfl⟩
                                  rw [hpt, ← hD1, ← hD2, ← hD3, ← hD4] at hst
                                  rw [← hD1] at HMF hdl
                                  rw [← hD3] at HMH hpb
                                  have l2 : D2.length ≤ 10 := by rw [hD2, List.length_append]; simp; omega
                                  have l4 : D4.length ≤ 9000 := by rw [hD4, List.length_append]; omega
                                  have a1 : ∀ W, (Op.stringOp .add (strB D1) ⟨#[58]⟩).run Tryz.prog W = .ok (.string (strB D2)) W := fun W => by rw [hD2]; exact addS D1 [58] (by omega) (by simp) W
                                  have a2 : ∀ W, (Op.stringOp .add (strB D2) (strB D3)).run Tryz.prog W = .ok (.string (strB D4)) W := fun W => by rw [hD4]; exact addS D2 D3 (by omega) (by omega) W
                                  obtain ⟨Y0, hY0⟩ : ∃ Y, Y = Q0 ++ JT m := ⟨_, rfl⟩
                                  have ly0 : Y0.length ≤ 2000000 := by rw [hY0, List.length_append]; omega
                                  obtain ⟨Y1, hY1, hY1m, hY1a⟩ : ∃ Y1 : Bs, Y1.length ≤ 2000001 ∧ (m = 0 ∧ Y1 = Y0 ∨ 0 < m ∧ Y1 = Y0 ++ [44]) ∧ Q0 ++ JT (m + 1) = Y1 ++ D4 := by
                                    by_cases hm0 : m = 0
                                    · rw [if_pos hm0] at hst
                                      refine ⟨Y0, by omega, .inl ⟨hm0, rfl⟩, ?_⟩
                                      rw [hst, hY0, hm0, HJT0.out, List.append_nil]
                                    · rw [if_neg hm0] at hst
                                      refine ⟨Y0 ++ [44], by simp; omega, .inr ⟨by omega, rfl⟩, ?_⟩
                                      rw [hst, hY0]; simp
                                  have a4 : ∀ W, (Op.stringOp .add (strB Y1) (strB D4)).run Tryz.prog W = .ok (.string (strB (Y1 ++ D4))) W := fun W => addS Y1 D4 (by omega) (by omega) W
                                  obtain ⟨Y2, hY2⟩ : ∃ Y, Y = Y1 ++ D4 := ⟨_, rfl⟩
                                  rw [← hY2] at a4 hY1a
                                  rw [← hY0]
                                  have HA := Lib.hid hY1a
                                  have a3 : 0 < m → ∀ W, (Op.stringOp .add (strB Y0) ⟨#[44]⟩).run Tryz.prog W = .ok (.string (strB (Y0 ++ [44]))) W := fun _ W => addS Y0 [44] (by omega) (by simp) W
                                  have A3 := Lib.hid a3
                                  have hba : ∀ x : Array Value, Below w2.heap.size w2 (wr.alloc (.cells x 59)) := fun x => hbe.alloc hbe.size _
                                  have HBA := Lib.hid hba
                                  clear hst hpt hD1 hD2 hD3 hD4 hY0 hY2 hY1a hcx hcl hx hok hdl hpb hzl l2 l4 ly0 hY1 a3 hba hb0r hjm
                                  rcases hY1m with ⟨hm0, rfl⟩ | ⟨hm0, rfl⟩
                                  · subst hm0
                                    simp only [Nat.zero_mul, Nat.add_zero] at x0 x1
                                    go_upto_region 34 with fail
                                    have hca : CellsAt (wr.alloc (.cells #[.int .i64 z, .string (strB zs)] 59)) wr.heap.size 59 #[.int .i64 z, .string (strB zs)] := CellsAt.new wr _ _
                                    have hbn := HBA.out #[.int .i64 z, .string (strB zs)]
                                    have hbnw := HBR.out.alloc HBR.out.size (.cells #[.int .i64 z, .string (strB zs)] 59)
                                    obtain ⟨ge, hge⟩ : ∃ ge, ge = wr.heap.size := ⟨_, rfl⟩
                                    rw [← hge] at hca
                                    rw [← hge]
                                    clear x0 x1 hbb
                                    generalize wr.alloc (.cells #[.int .i64 z, .string (strB zs)] 59) = wn at hca hbn hbnw ⊢
                                    have HCA : Hid (∀ W, Below wn.heap.size wn W → W.cell? ⟨ge, 0, none⟩ = some (.int .i64 z) ∧ W.cell? ⟨ge, 1, none⟩ = some (.string (strB zs))) := fun W h => ⟨(hca.stays h).cell 0 rfl, (hca.stays h).cell 1 rfl⟩
                                    have HBN := Lib.hid hbn
                                    have hdq : Below wn.heap.size wn wn.drew := (Below.refl _ _).drew
                                    clear hca hbn hbnw hge hbe
                                    refine wp_region_quiet_in (C := fun W => Below wn.heap.size wn W) (by kernel_rfl) (by kernel_rfl) hdq ?_
                                    clear hdq
                                    repeat
                                      (first
                                         | go_big_quiet_skip
                                         | (go_big_quiet_want
                                            refine quiet_intro ?_ (fun wq hwq => ?_) ?_
                                            rotate_left
                                            focus
                                              (obtain ⟨y0, y1⟩ := HCA.out _ hwq
                                               go_simp
                                               try first
                                                 | with_reducible rfl
                                                 | (exact hwq)
                                                 | ((with_reducible refine (HMF.out _).mono ?_); rintro e wA ⟨rfl, hbA⟩; refine ⟨?_, hwq.trans (hbA.mono hwq.size)⟩; with_reducible rfl)
                                                 | ((with_reducible refine (HMH.out _).mono ?_); rintro e wA ⟨rfl, hbA⟩; refine ⟨?_, hwq.trans (hbA.mono hwq.size)⟩; with_reducible rfl))
                                            go_simp
                                            go_big_quiet_on))
                                    refine wpQuiet_nil ?_
                                    intro w5 hb5
                                    have hb5w := HBN.out.trans (hb5.mono HBN.out.size)
                                    clear HMF HMH HCA HBA hb5
                                    go_wp2_with fail
                                    go_roundw
                                    case rel => exact ⟨0 + 1, h1, by go_num, by rw [HA.out], hb5w⟩
                                    case measure => simp only [intOf]; omega
                                  · have t0 : decide ((0 : Int) < (m : Int)) = true := decide_eq_true (by omega)
                                    have t0n : decide (0 < m) = true := decide_eq_true hm0
                                    have b3 := A3.out hm0
                                    clear hm0
                                    go_upto_region 34 with fail
                                    have hca : CellsAt (wr.alloc (.cells #[.int .i64 z, .string (strB zs)] 59)) wr.heap.size 59 #[.int .i64 z, .string (strB zs)] := CellsAt.new wr _ _
                                    have hbn := HBA.out #[.int .i64 z, .string (strB zs)]
                                    have hbnw := HBR.out.alloc HBR.out.size (.cells #[.int .i64 z, .string (strB zs)] 59)
                                    obtain ⟨ge, hge⟩ : ∃ ge, ge = wr.heap.size := ⟨_, rfl⟩
                                    rw [← hge] at hca
                                    rw [← hge]
                                    clear x0 x1 hbb
                                    generalize wr.alloc (.cells #[.int .i64 z, .string (strB zs)] 59) = wn at hca hbn hbnw ⊢
                                    have HCA : Hid (∀ W, Below wn.heap.size wn W → W.cell? ⟨ge, 0, none⟩ = some (.int .i64 z) ∧ W.cell? ⟨ge, 1, none⟩ = some (.string (strB zs))) := fun W h => ⟨(hca.stays h).cell 0 rfl, (hca.stays h).cell 1 rfl⟩
                                    have HBN := Lib.hid hbn
                                    have hdq : Below wn.heap.size wn wn.drew := (Below.refl _ _).drew
                                    clear hca hbn hbnw hge hbe
                                    refine wp_region_quiet_in (C := fun W => Below wn.heap.size wn W) (by kernel_rfl) (by kernel_rfl) hdq ?_
                                    clear hdq
                                    repeat
                                      (first
                                         | go_big_quiet_skip
                                         | (go_big_quiet_want
                                            refine quiet_intro ?_ (fun wq hwq => ?_) ?_
                                            rotate_left
                                            focus
                                              (obtain ⟨y0, y1⟩ := HCA.out _ hwq
                                               go_simp
                                               try first
                                                 | with_reducible rfl
                                                 | (exact hwq)
                                                 | ((with_reducible refine (HMF.out _).mono ?_); rintro e wA ⟨rfl, hbA⟩; refine ⟨?_, hwq.trans (hbA.mono hwq.size)⟩; with_reducible rfl)
                                                 | ((with_reducible refine (HMH.out _).mono ?_); rintro e wA ⟨rfl, hbA⟩; refine ⟨?_, hwq.trans (hbA.mono hwq.size)⟩; with_reducible rfl))
                                            go_simp
                                            go_big_quiet_on))
                                    refine wpQuiet_nil ?_
                                    intro w5 hb5
                                    have hb5w := HBN.out.trans (hb5.mono HBN.out.size)
                                    clear HMF HMH HCA HBA hb5
                                    go_wp2_with fail
                                    go_roundw
                                    case rel => exact ⟨m + 1, h1, by go_num, by rw [HA.out], hb5w⟩
                                    case measure => simp only [intOf]; omega
                                · have hmt : m = torn.length := by omega
                                  subst hmt
                                  have hQ : Q0 ++ PT = LL := HZ.out.symm
                                  have HEND : Hid ((∀ W, (Op.stringOp .add (strB (Q0 ++ JT torn.length)) ⟨#[45]⟩).run Tryz.prog W = .ok (.string (strB LL)) W) ∧ ((torn.length : Int) == 0) = true ∨ strB (Q0 ++ JT torn.length) = strB LL ∧ ((torn.length : Int) == 0) = false) := by
                                    by_cases h : torn = []
                                    · refine .inl ⟨fun W => ?_, by rw [h]; rfl⟩
                                      have e1 : JT torn.length = [] := by rw [h]; exact HJT0.out
                                      rw [e1, List.append_nil, ← hQ, HJTN.out h]
                                      exact addS Q0 [45] (by omega) (by simp) W
                                    · exact .inr ⟨by rw [← hQ, HJTF.out h], by simpa using h⟩
                                  obtain ⟨c0, c1, c2, c3, c4, c5, c6, c7⟩ := HC.out wr hb0r
                                  obtain ⟨SJ2, hSJ⟩ : ∃ S, S = strB (Q0 ++ JT torn.length) := ⟨_, rfl⟩
                                  rw [← hSJ] at HEND
                                  rw [← hSJ]
                                  clear hSJ hQ hbe hb0r hjm
                                  rcases HEND.out with ⟨b1', q1'⟩ | ⟨hj, q1'⟩
                                  · clear HEND
                                    go_wp2_with fail
                                    go_ret
                                    exact ⟨rfl, HBR.out⟩
                                  · subst hj
                                    clear HEND
                                    go_wp2_with fail
                                    go_ret
                                    exact ⟨rfl, HBR.out⟩
                            · subst hj
                              clear HEND
                              go_wp2_with fail
                              go_loopw [3, 116] (fun s i wr => ∃ m : Nat, m ≤ torn.length ∧ i = .int .i64 m ∧ s = .string (strB (Q0 ++ JT m)) ∧ Below w2.heap.size w2 wr) (fun _ i _ => torn.length - (intOf i).toNat)
                              case atStart => exact ⟨0, Nat.zero_le _, rfl, by rw [HJT0.out, List.append_nil], Below.refl _ _⟩
                              case round =>
                                obtain ⟨m, hm, rfl, rfl, hbe⟩ := hrel
                                have hjm := HJTL.out m
                                have hb0r := HB02.out.trans (hbe.mono HB02.out.size)
                                have HBR := Lib.hid (HBW2.out.trans (hbe.mono HBW2.out.size))
                                by_cases h1 : m < torn.length
                                · obtain ⟨⟨z, zs⟩, hx⟩ : ∃ x, torn[m]? = some x := ⟨_, List.getElem?_eq_getElem h1⟩
                                  obtain ⟨aq, cq, hv, -, hcl⟩ := (HT.out wr hb0r).shape rtC_len
                                  cases hv
                                  obtain ⟨b', o, rfl, hcx⟩ := hcl m _ hx
                                  have x0 := hcx 0 _ rfl
                                  have x1 := hcx 1 _ rfl
                                  have hbb : b' < wr.heap.size := World.block_lt_of_cell? wr _ x0
                                  replace x0 : wr.cell? ⟨b', o + m * 2, none⟩ = some (.int .i64 z) := x0
                                  replace x1 : wr.cell? ⟨b', o + m * 2 + 1, none⟩ = some (.string (strB zs)) := x1
                                  have hok := HOK.out _ (List.mem_of_getElem? hx)
                                  unfold tornOk at hok
                                  simp only [Bool.and_eq_true, decide_eq_true_eq] at hok
                                  have hdl := decI_len hok.1
                                  have hpb := putB_len zs
                                  have hzl : zs.length ≤ 4096 := hok.2
                                  have hst := HJT1.out m _ hx
                                  have HMF := Lib.hid (HFG.out z hok.1)
                                  have HMH : Hid (∀ W, Calls Tryz.prog 22 #[.string (strB zs)] W fun e w' => e = .returned (.string (strB (putB zs))) ∧ Below W.heap.size W w') := fun W => rhex_any zs (by omega) W
                                  have hpt : putT (z, zs) = (decI z ++ [58]) ++ putB zs := by unfold putT; simp
                                  obtain ⟨D1, hD1⟩ : ∃ D, D = decI z := ⟨_, rfl⟩
                                  obtain ⟨D2, hD2⟩ : ∃ D, D = D1 ++ [58] := ⟨_, rfl⟩
                                  obtain ⟨D3, hD3⟩ : ∃ D, D = putB zs := ⟨_, rfl⟩
                                  obtain ⟨D4, hD4⟩ : ∃ D, D = D2 ++ D3 := ⟨_, rfl⟩
                                  rw [hpt, ← hD1, ← hD2, ← hD3, ← hD4] at hst
                                  rw [← hD1] at HMF hdl
                                  rw [← hD3] at HMH hpb
                                  have l2 : D2.length ≤ 10 := by rw [hD2, List.length_append]; simp; omega
                                  have l4 : D4.length ≤ 9000 := by rw [hD4, List.length_append]; omega
                                  have a1 : ∀ W, (Op.stringOp .add (strB D1) ⟨#[58]⟩).run Tryz.prog W = .ok (.string (strB D2)) W := fun W => by rw [hD2]; exact addS D1 [58] (by omega) (by simp) W
                                  have a2 : ∀ W, (Op.stringOp .add (strB D2) (strB D3)).run Tryz.prog W = .ok (.string (strB D4)) W := fun W => by rw [hD4]; exact addS D2 D3 (by omega) (by omega) W
                                  obtain ⟨Y0, hY0⟩ : ∃ Y, Y = Q0 ++ JT m := ⟨_, rfl⟩
                                  have ly0 : Y0.length ≤ 2000000 := by rw [hY0, List.length_append]; omega
                                  obtain ⟨Y1, hY1, hY1m, hY1a⟩ : ∃ Y1 : Bs, Y1.length ≤ 2000001 ∧ (m = 0 ∧ Y1 = Y0 ∨ 0 < m ∧ Y1 = Y0 ++ [44]) ∧ Q0 ++ JT (m + 1) = Y1 ++ D4 := by
                                    by_cases hm0 : m = 0
                                    · rw [if_pos hm0] at hst
                                      refine ⟨Y0, by omega, .inl ⟨hm0, rfl⟩, ?_⟩
                                      rw [hst, hY0, hm0, HJT0.out, List.append_nil]
                                    · rw [if_neg hm0] at hst
                                      refine ⟨Y0 ++ [44], by simp; omega, .inr ⟨by omega, rfl⟩, ?_⟩
                                      rw [hst, hY0]; simp
                                  have a4 : ∀ W, (Op.stringOp .add (strB Y1) (strB D4)).run Tryz.prog W = .ok (.string (strB (Y1 ++ D4))) W := fun W => addS Y1 D4 (by omega) (by omega) W
                                  obtain ⟨Y2, hY2⟩ : ∃ Y, Y = Y1 ++ D4 := ⟨_, rfl⟩
                                  rw [← hY2] at a4 hY1a
                                  rw [← hY0]
                                  have HA := Lib.hid hY1a
                                  have a3 : 0 < m → ∀ W, (Op.stringOp .add (strB Y0) ⟨#[44]⟩).run Tryz.prog W = .ok (.string (strB (Y0 ++ [44]))) W := fun _ W => addS Y0 [44] (by omega) (by simp) W
                                  have A3 := Lib.hid a3
                                  have hba : ∀ x : Array Value, Below w2.heap.size w2 (wr.alloc (.cells x 59)) := fun x => hbe.alloc hbe.size _
                                  have HBA := Lib.hid hba
                                  clear hst hpt hD1 hD2 hD3 hD4 hY0 hY2 hY1a hcx hcl hx hok hdl hpb hzl l2 l4 ly0 hY1 a3 hba hb0r hjm
                                  rcases hY1m with ⟨hm0, rfl⟩ | ⟨hm0, rfl⟩
                                  · subst hm0
                                    simp only [Nat.zero_mul, Nat.add_zero] at x0 x1
                                    go_upto_region 34 with fail
                                    have hca : CellsAt (wr.alloc (.cells #[.int .i64 z, .string (strB zs)] 59)) wr.heap.size 59 #[.int .i64 z, .string (strB zs)] := CellsAt.new wr _ _
                                    have hbn := HBA.out #[.int .i64 z, .string (strB zs)]
                                    have hbnw := HBR.out.alloc HBR.out.size (.cells #[.int .i64 z, .string (strB zs)] 59)
                                    obtain ⟨ge, hge⟩ : ∃ ge, ge = wr.heap.size := ⟨_, rfl⟩
                                    rw [← hge] at hca
                                    rw [← hge]
                                    clear x0 x1 hbb
                                    generalize wr.alloc (.cells #[.int .i64 z, .string (strB zs)] 59) = wn at hca hbn hbnw ⊢
                                    have HCA : Hid (∀ W, Below wn.heap.size wn W → W.cell? ⟨ge, 0, none⟩ = some (.int .i64 z) ∧ W.cell? ⟨ge, 1, none⟩ = some (.string (strB zs))) := fun W h => ⟨(hca.stays h).cell 0 rfl, (hca.stays h).cell 1 rfl⟩
                                    have HBN := Lib.hid hbn
                                    have hdq : Below wn.heap.size wn wn.drew := (Below.refl _ _).drew
                                    clear hca hbn hbnw hge hbe
                                    refine wp_region_quiet_in (C := fun W => Below wn.heap.size wn W) (by kernel_rfl) (by kernel_rfl) hdq ?_
                                    clear hdq
                                    repeat
                                      (first
                                         | go_big_quiet_skip
                                         | (go_big_quiet_want
                                            refine quiet_intro ?_ (fun wq hwq => ?_) ?_
                                            rotate_left
                                            focus
                                              (obtain ⟨y0, y1⟩ := HCA.out _ hwq
                                               go_simp
                                               try first
                                                 | with_reducible rfl
                                                 | (exact hwq)
                                                 | ((with_reducible refine (HMF.out _).mono ?_); rintro e wA ⟨rfl, hbA⟩; refine ⟨?_, hwq.trans (hbA.mono hwq.size)⟩; with_reducible rfl)
                                                 | ((with_reducible refine (HMH.out _).mono ?_); rintro e wA ⟨rfl, hbA⟩; refine ⟨?_, hwq.trans (hbA.mono hwq.size)⟩; with_reducible rfl))
                                            go_simp
                                            go_big_quiet_on))
                                    refine wpQuiet_nil ?_
                                    intro w5 hb5
                                    have hb5w := HBN.out.trans (hb5.mono HBN.out.size)
                                    clear HMF HMH HCA HBA hb5
                                    go_wp2_with fail
                                    go_roundw
                                    case rel => exact ⟨0 + 1, h1, by go_num, by rw [HA.out], hb5w⟩
                                    case measure => simp only [intOf]; omega
                                  · have t0 : decide ((0 : Int) < (m : Int)) = true := decide_eq_true (by omega)
                                    have t0n : decide (0 < m) = true := decide_eq_true hm0
                                    have b3 := A3.out hm0
                                    clear hm0
                                    go_upto_region 34 with fail
                                    have hca : CellsAt (wr.alloc (.cells #[.int .i64 z, .string (strB zs)] 59)) wr.heap.size 59 #[.int .i64 z, .string (strB zs)] := CellsAt.new wr _ _
                                    have hbn := HBA.out #[.int .i64 z, .string (strB zs)]
                                    have hbnw := HBR.out.alloc HBR.out.size (.cells #[.int .i64 z, .string (strB zs)] 59)
                                    obtain ⟨ge, hge⟩ : ∃ ge, ge = wr.heap.size := ⟨_, rfl⟩
                                    rw [← hge] at hca
                                    rw [← hge]
                                    clear x0 x1 hbb
                                    generalize wr.alloc (.cells #[.int .i64 z, .string (strB zs)] 59) = wn at hca hbn hbnw ⊢
                                    have HCA : Hid (∀ W, Below wn.heap.size wn W → W.cell? ⟨ge, 0, none⟩ = some (.int .i64 z) ∧ W.cell? ⟨ge, 1, none⟩ = some (.string (strB zs))) := fun W h => ⟨(hca.stays h).cell 0 rfl, (hca.stays h).cell 1 rfl⟩
                                    have HBN := Lib.hid hbn
                                    have hdq : Below wn.heap.size wn wn.drew := (Below.refl _ _).drew
                                    clear hca hbn hbnw hge hbe
                                    refine wp_region_quiet_in (C := fun W => Below wn.heap.size wn W) (by kernel_rfl) (by kernel_rfl) hdq ?_
                                    clear hdq
                                    repeat
                                      (first
                                         | go_big_quiet_skip
                                         | (go_big_quiet_want
                                            refine quiet_intro ?_ (fun wq hwq => ?_) ?_
                                            rotate_left
                                            focus
                                              (obtain ⟨y0, y1⟩ := HCA.out _ hwq
                                               go_simp
                                               try first
                                                 | with_reducible rfl
                                                 | (exact hwq)
                                                 | ((with_reducible refine (HMF.out _).mono ?_); rintro e wA ⟨rfl, hbA⟩; refine ⟨?_, hwq.trans (hbA.mono hwq.size)⟩; with_reducible rfl)
                                                 | ((with_reducible refine (HMH.out _).mono ?_); rintro e wA ⟨rfl, hbA⟩; refine ⟨?_, hwq.trans (hbA.mono hwq.size)⟩; with_reducible rfl))
                                            go_simp
                                            go_big_quiet_on))
                                    refine wpQuiet_nil ?_
                                    intro w5 hb5
                                    have hb5w := HBN.out.trans (hb5.mono HBN.out.size)
                                    clear HMF HMH HCA HBA hb5
                                    go_wp2_with fail
                                    go_roundw
                                    case rel => exact ⟨m + 1, h1, by go_num, by rw [HA.out], hb5w⟩
                                    case measure => simp only [intOf]; omega
                                · have hmt : m = torn.length := by omega
                                  subst hmt
                                  have hQ : Q0 ++ PT = LL := HZ.out.symm
                                  have HEND : Hid ((∀ W, (Op.stringOp .add (strB (Q0 ++ JT torn.length)) ⟨#[45]⟩).run Tryz.prog W = .ok (.string (strB LL)) W) ∧ ((torn.length : Int) == 0) = true ∨ strB (Q0 ++ JT torn.length) = strB LL ∧ ((torn.length : Int) == 0) = false) := by
                                    by_cases h : torn = []
                                    · refine .inl ⟨fun W => ?_, by rw [h]; rfl⟩
                                      have e1 : JT torn.length = [] := by rw [h]; exact HJT0.out
                                      rw [e1, List.append_nil, ← hQ, HJTN.out h]
                                      exact addS Q0 [45] (by omega) (by simp) W
                                    · exact .inr ⟨by rw [← hQ, HJTF.out h], by simpa using h⟩
                                  obtain ⟨c0, c1, c2, c3, c4, c5, c6, c7⟩ := HC.out wr hb0r
                                  obtain ⟨SJ2, hSJ⟩ : ∃ S, S = strB (Q0 ++ JT torn.length) := ⟨_, rfl⟩
                                  rw [← hSJ] at HEND
                                  rw [← hSJ]
                                  clear hSJ hQ hbe hb0r hjm
                                  rcases HEND.out with ⟨b1', q1'⟩ | ⟨hj, q1'⟩
                                  · clear HEND
                                    go_wp2_with fail
                                    go_ret
                                    exact ⟨rfl, HBR.out⟩
                                  · subst hj
                                    clear HEND
                                    go_wp2_with fail
                                    go_ret
                                    exact ⟨rfl, HBR.out⟩
end Go.Proofs.YtbcpciegdmminaaGreatDoor
