/- The program's pairs; Right. -/
import Derived.Test.YtcjflglpkpkflaaDoorVk
import Derived.Test.YtcjflglpkpkflaaDoorVd
import Derived.Deep.QuietTactic
import Derived.BigQuiet
namespace Go.Proofs.YtcjflglpkpkflaaDoor
open Go Go.RowKit
set_option linter.unusedVariables false
section
variable {k : Int} {n : Nat} {t r : List UInt8} {fs : List (Int × V)} {ls : List V} {ps : List (V × V)} {fa la pa : Option Addr} {fc lc pc : Nat} {S : Nat → Prop} {w : World}
theorem rightP_cons (last : Option V) (a b : V) (r : List (V × V)) : rightP last ((a, b) :: r) = (decide (a.k ≤ 2) && singleK a.k && rightV a && singleK b.k && rightV b && risesB last a && rightP (some a) r) := by rw [rightP]
theorem keyK_iff (k : Int) : (decide (k ≤ 2) && singleK k) = (k == 1 || k == 2) := by
  unfold singleK
  rw [Bool.eq_iff_iff]
  simp only [Bool.or_eq_true, beq_iff_eq, Bool.and_eq_true, decide_eq_true_eq]
  omega
theorem below_drewV {B : Nat} {w w' : World} (n : Nat) (h : Below B w w') : Below B w (w'.drewN n) := ⟨h.os, h.tape, h.output, h.size, h.block⟩
/-- the key ahead of place m -/
def lastK (ps : List (V × V)) (m : Nat) : Option V := if m = 0 then none else (ps[m - 1]?).map Prod.fst
theorem lastK_zero (ps : List (V × V)) : lastK ps 0 = none := rfl
theorem lastK_succ {ps : List (V × V)} {m : Nat} {p : V × V} (h : ps[m]? = some p) : lastK ps (m + 1) = some p.1 := by unfold lastK; rw [if_neg (by omega), Nat.add_sub_cancel, h]; rfl
set_option maxRecDepth 100000 in
set_option maxHeartbeats 8000000 in
theorem pairs_any (ihp : ∀ p ∈ ps, RightC p.1 ∧ RightC p.2) (hr : Rep S w (.mk k n t fs r ls ps) ⟨fa, fc, la, lc, pa, pc⟩) :
    Calls Tryd.prog 74 #[.slice pa ps.length pc] w fun e w' => e = .returned (.bool (rightP none ps && decide (0 < ps.length))) ∧ Below w.heap.size w w' := by
  obtain ⟨hk, hn, hfl, hll, hpl⟩ := hr.bds
  unfold maxLen at hfl hll hpl
  have HR : Hid (∀ W, Below w.heap.size w W → Rep S W (.mk k n t fs r ls ps) ⟨fa, fc, la, lc, pa, pc⟩) := fun W hb => hr.stays hb
  have IHP := Lib.hid ihp
  clear ihp hr
  go_enter Tryd.func74, Tryd.ntmps74
  go_wp2_with fail
  go_loopw [7] (fun i wr => ∃ (m : Nat), m ≤ ps.length ∧ i = .int .i64 m ∧ Hid (rightP (lastK ps m) (ps.drop m) = rightP none ps) ∧ Below w.heap.size w wr) (fun i _ => ps.length - (intOf i).toNat)
  case atStart => exact ⟨0, Nat.zero_le _, rfl, by show _ = _; rw [lastK_zero]; rfl, Below.refl _ _⟩
  case round =>
    obtain ⟨m, hm, rfl, HI, hbe⟩ := hrel
    by_cases h1 : m < ps.length
    · obtain ⟨⟨⟨k', n', t', fs', r', ls', ps'⟩, ⟨k2, n2, t2, fs2, r2, ls2, ps2⟩⟩, hq⟩ : ∃ p, ps[m]? = some p := ⟨_, List.getElem?_eq_getElem h1⟩
      obtain ⟨b, o, fa', la', pa', fc', lc', pc', fa2, la2, pa2, fc2, lc2, pc2, rfl, hrx, hry, c0, c1, c2, c3, c4, c5, c6, c7, c8, c9, c10, c11, c12, c13⟩ := (HR.out wr hbe).pairAt hq
      have hlt : b < wr.heap.size := World.block_lt_of_cell? wr _ c0
      have hI := HI.out
      rw [drop_fields hq, rightP_cons] at hI
      replace hI : (decide (k' ≤ 2) && singleK k' && rightV (.mk k' n' t' fs' r' ls' ps') && singleK k2 && rightV (.mk k2 n2 t2 fs2 r2 ls2 ps2) && risesB (lastK ps m) (.mk k' n' t' fs' r' ls' ps') && rightP (some (.mk k' n' t' fs' r' ls' ps')) (ps.drop (m + 1))) = rightP none ps := hI
      rw [keyK_iff] at hI
      have HC : Hid (∀ W, Below wr.heap.size wr W → Calls _ _ _ W _) := fun W hb => part_lit (IHP.out _ (List.mem_of_getElem? hq)).1 (hrx.stays hb)
      have HD : Hid (∀ W, Below wr.heap.size wr W → Calls _ _ _ W _) := fun W hb => part_lit (IHP.out _ (List.mem_of_getElem? hq)).2 (hry.stays hb)
      have HBR : Hid (Below wr.heap.size wr (wr.alloc (.cells #[.int .i64 k', .int .u64 (n' : Int), .string (strB t'), .slice fa' fs'.length fc', .string (strB r'), .slice la' ls'.length lc', .slice pa' ps'.length pc', .int .i64 k2, .int .u64 (n2 : Int), .string (strB t2), .slice fa2 fs2.length fc2, .string (strB r2), .slice la2 ls2.length lc2, .slice pa2 ps2.length pc2] 56))) := (Below.refl _ _).alloc (Nat.le_refl _) _
      have HBE : Hid (Below w.heap.size w wr) := hbe
      have HQ := Lib.hid hq
      have HRX : Hid (Rep S wr (.mk k' n' t' fs' r' ls' ps') ⟨fa', fc', la', lc', pa', pc'⟩) := hrx
      have HV : Hid (∃ b : V, b = .mk k' n' t' fs' r' ls' ps') := ⟨_, rfl⟩
      rw [Bool.and_assoc (k' == 1 || k' == 2), show (rightV (.mk k' n' t' fs' r' ls' ps') && singleK k2) = (singleK k2 && rightV (.mk k' n' t' fs' r' ls' ps')) from Bool.and_comm _ _] at hI
      have hI2 : ((k' == 1 || k' == 2) && (singleK k' && rightV (.mk k' n' t' fs' r' ls' ps')) && (singleK k2 && rightV (.mk k2 n2 t2 fs2 r2 ls2 ps2)) && risesB (lastK ps m) (.mk k' n' t' fs' r' ls' ps') && rightP (some (.mk k' n' t' fs' r' ls' ps')) (ps.drop (m + 1))) = rightP none ps := by
        rw [← hI]
        by_cases h : k' = 1 ∨ k' = 2
        · have : singleK k' = true := by rw [singleK_iff]; simp; omega
          rw [this]; simp [Bool.and_assoc, Bool.and_left_comm]
        · have : (k' == 1 || k' == 2) = false := by simp; omega
          rw [this]; simp
      generalize (singleK k' && rightV (.mk k' n' t' fs' r' ls' ps')) = R1 at HC hI2
      generalize (singleK k2 && rightV (.mk k2 n2 t2 fs2 r2 ls2 ps2)) = R2 at HD hI2
      have HI2 := Lib.hid hI2
      clear hI hI2 HI hrx hry hq hbe
      by_cases tk : (k' == 1 || k' == 2) = true
      · have HK : ((k' != 1) = false) ∨ ((k' != 1) = true ∧ (k' != 2) = false) := by
          simp only [Bool.or_eq_true, beq_iff_eq] at tk
          rcases tk with h | h
          · exact .inl (by simp [h])
          · exact .inr (by simp [h])
        have HI3 : Hid ((R1 && R2 && risesB (lastK ps m) (.mk k' n' t' fs' r' ls' ps') && rightP (some (.mk k' n' t' fs' r' ls' ps')) (ps.drop (m + 1))) = rightP none ps) := by have := HI2.out; rw [tk, Bool.true_and] at this; exact this
        clear tk HI2
        rcases HK with g1 | ⟨g1, g2⟩
        all_goals
          go_wp2_with fail
          refine (HC.out _ HBR.out).mono ?_
          rintro e w2 ⟨rfl, hb2⟩
          have hbr2 : Below wr.heap.size wr w2 := HBR.out.trans (hb2.mono HBR.out.size)
          have hcx2 := (CellsAt.new wr #[.int .i64 k', .int .u64 (n' : Int), .string (strB t'), .slice fa' fs'.length fc', .string (strB r'), .slice la' ls'.length lc', .slice pa' ps'.length pc', .int .i64 k2, .int .u64 (n2 : Int), .string (strB t2), .slice fa2 fs2.length fc2, .string (strB r2), .slice la2 ls2.length lc2, .slice pa2 ps2.length pc2] 56).stays hb2
          have HCX2 := Lib.hid hcx2
          have x7 := hcx2.cell 7 (v := .int .i64 k2) rfl
          have x8 := hcx2.cell 8 (v := .int .u64 (n2 : Int)) rfl
          have x9 := hcx2.cell 9 (v := .string (strB t2)) rfl
          have x10 := hcx2.cell 10 (v := .slice fa2 fs2.length fc2) rfl
          have x11 := hcx2.cell 11 (v := .string (strB r2)) rfl
          have x12 := hcx2.cell 12 (v := .slice la2 ls2.length lc2) rfl
          have x13 := hcx2.cell 13 (v := .slice pa2 ps2.length pc2) rfl
          clear hb2 hcx2 HC
          cases R1 with
          | false =>
            have HZ : Hid (false = rightP none ps) := by have := HI3.out; show _ = _; simpa using this
            have HB9 : Hid (Below w.heap.size w w2) := HBE.out.trans (hbr2.mono HBE.out.size)
            go_wp2_with fail
            go_ret
            exact ⟨congrArg (fun z => Ending.returned (Value.bool z)) (by rw [← HZ.out, Bool.false_and]), HB9.out⟩
          | true =>
            clear c0 c1 c2 c3 c4 c5 c6 c7 c8 c9 c10 c11 c12 c13
            go_wp2_with fail
            refine (HD.out _ hbr2).mono ?_
            rintro e w3 ⟨rfl, hb3⟩
            have hbr3 : Below wr.heap.size wr w3 := hbr2.trans (hb3.mono hbr2.size)
            have hcx3 := HCX2.out.stays hb3
            have HCX3 := Lib.hid hcx3
            have HB9 : Hid (Below w.heap.size w w3) := HBE.out.trans (hbr3.mono HBE.out.size)
            have HBR3 := Lib.hid hbr3
            have hlt3 : b < w3.heap.size := Nat.lt_of_lt_of_le hlt hbr3.size
            clear x7 x8 x9 x10 x11 x12 x13 hb3 hcx3 HCX2 HD hbr2 hbr3
            cases R2 with
            | false =>
              have HZ : Hid (false = rightP none ps) := by have := HI3.out; show _ = _; simpa using this
              go_wp2_with fail
              go_ret
              exact ⟨congrArg (fun z => Ending.returned (Value.bool z)) (by rw [← HZ.out, Bool.false_and]), HB9.out⟩
            | true =>
              have HI4 : Hid ((risesB (lastK ps m) (.mk k' n' t' fs' r' ls' ps') && rightP (some (.mk k' n' t' fs' r' ls' ps')) (ps.drop (m + 1))) = rightP none ps) := by have := HI3.out; rwa [Bool.true_and, Bool.true_and] at this
              clear HI3
              obtain rfl | ⟨q, rfl⟩ : m = 0 ∨ ∃ q, m = q + 1 := by
                cases m with
                | zero => exact .inl rfl
                | succ q => exact .inr ⟨q, rfl⟩
              · have HN : Hid (rightP (lastK ps (0 + 1)) (ps.drop (0 + 1)) = rightP none ps) := by
                  show _ = _
                  rw [lastK_succ HQ.out, ← HI4.out, lastK_zero]
                  rfl
                clear HI4
                go_wp2_with fail
                go_quiet (fail)
                go_wp2_with fail
                go_roundw
                case rel => exact ⟨0 + 1, by omega, rfl, HN, below_drewV _ HB9.out⟩
                case measure => simp only [intOf]; omega
              · obtain ⟨⟨⟨k9, n9, t9, fs9, r9, ls9, ps9⟩, ⟨k8, n8, t8, fs8, r8, ls8, ps8⟩⟩, hq9⟩ : ∃ p, ps[q]? = some p := ⟨_, List.getElem?_eq_getElem (by omega)⟩
                obtain ⟨b', o', fa9, la9, pa9, fc9, lc9, pc9, fa8, la8, pa8, fc8, lc8, pc8, hbo, hr9, hr8, e0, e1, e2, e3, e4, e5, e6, -⟩ := (HR.out wr HBE.out).pairAt hq9
                cases hbo
                have HK9 : Hid (lastK ps (q + 1) = some (.mk k9 n9 t9 fs9 r9 ls9 ps9)) := lastK_succ hq9
                have HC9 : Hid (∀ W, Below wr.heap.size wr W → Calls _ _ _ W _) := fun W hb => compare_lit (hr9.stays hb) (HRX.out.stays hb)
                by_cases hkk : k' = k9
                · obtain rfl : k' = k9 := hkk
                  have HI5 : Hid ((decide (cmpV (.mk k' n9 t9 fs9 r9 ls9 ps9) (.mk k' n' t' fs' r' ls' ps') < 0) && rightP (some (.mk k' n' t' fs' r' ls' ps')) (ps.drop (q + 1 + 1))) = rightP none ps) := by
                    have := HI4.out
                    rw [HK9.out] at this
                    simp only [risesB, V.k, beq_self_eq_true, Bool.true_and] at this
                    exact this
                  have HN : Hid (rightP (lastK ps (q + 1 + 1)) (ps.drop (q + 1 + 1)) = rightP (some (.mk k' n' t' fs' r' ls' ps')) (ps.drop (q + 1 + 1))) := by
                    show _ = _
                    rw [lastK_succ HQ.out]
                  have HCC : Hid (∀ W, Below w3.heap.size w3 W → Calls Tryd.prog 77 #[.agg #[.int .i64 k', .int .u64 (n9 : Int), .string (strB t9), .slice fa9 fs9.length fc9, .string (strB r9), .slice la9 ls9.length lc9, .slice pa9 ps9.length pc9], .agg #[.int .i64 k', .int .u64 (n' : Int), .string (strB t'), .slice fa' fs'.length fc', .string (strB r'), .slice la' ls'.length lc', .slice pa' ps'.length pc']] W fun e w' => e = .returned (.int .i64 (cmpV (.mk k' n9 t9 fs9 r9 ls9 ps9) (.mk k' n' t' fs' r' ls' ps'))) ∧ Below W.heap.size W w') := fun W hb => HC9.out W (HBR3.out.trans (hb.mono HBR3.out.size))
                  generalize cmpV (.mk k' n9 t9 fs9 r9 ls9 ps9) (.mk k' n' t' fs' r' ls' ps') = C at HCC HI5
                  have hkq : (k' != k') = false := by simp
                  have x0 := later1 e0 hlt HBR3.out
                  have x1 := later1 e1 hlt HBR3.out
                  have x2 := later1 e2 hlt HBR3.out
                  have x3 := later1 e3 hlt HBR3.out
                  have x4 := later1 e4 hlt HBR3.out
                  have x5 := later1 e5 hlt HBR3.out
                  have x6 := later1 e6 hlt HBR3.out
                  obtain ⟨g, hg⟩ : ∃ g, g = wr.heap.size := ⟨_, rfl⟩
                  have HS : Hid (∀ W, Below w3.heap.size w3 W → Below w3.heap.size w3 W ∧ W.cell? ⟨g, 0, none⟩ = some (.int .i64 k') ∧ W.cell? ⟨g, 1, none⟩ = some (.int .u64 (n' : Int)) ∧ W.cell? ⟨g, 2, none⟩ = some (.string (strB t')) ∧ W.cell? ⟨g, 3, none⟩ = some (.slice fa' fs'.length fc') ∧ W.cell? ⟨g, 4, none⟩ = some (.string (strB r')) ∧ W.cell? ⟨g, 5, none⟩ = some (.slice la' ls'.length lc') ∧ W.cell? ⟨g, 6, none⟩ = some (.slice pa' ps'.length pc') ∧ W.cell? ⟨b, o + q * 14, none⟩ = some (.int .i64 k') ∧ W.cell? ⟨b, o + q * 14 + 1, none⟩ = some (.int .u64 (n9 : Int)) ∧ W.cell? ⟨b, o + q * 14 + 2, none⟩ = some (.string (strB t9)) ∧ W.cell? ⟨b, o + q * 14 + 3, none⟩ = some (.slice fa9 fs9.length fc9) ∧ W.cell? ⟨b, o + q * 14 + 4, none⟩ = some (.string (strB r9)) ∧ W.cell? ⟨b, o + q * 14 + 5, none⟩ = some (.slice la9 ls9.length lc9) ∧ W.cell? ⟨b, o + q * 14 + 6, none⟩ = some (.slice pa9 ps9.length pc9)) := fun W hb => by
                    have h1 := HCX3.out.stays hb
                    rw [← hg] at h1
                    exact ⟨hb, h1.cell 0 rfl, h1.cell 1 rfl, h1.cell 2 rfl, h1.cell 3 rfl, h1.cell 4 rfl, h1.cell 5 rfl, h1.cell 6 rfl, later1 x0 hlt3 hb, later1 x1 hlt3 hb, later1 x2 hlt3 hb, later1 x3 hlt3 hb, later1 x4 hlt3 hb, later1 x5 hlt3 hb, later1 x6 hlt3 hb⟩
                  have HGG := Lib.hid hg
                  clear hg e0 e1 e2 e3 e4 e5 e6 x0 x1 x2 x3 x4 x5 x6 hq9 hr9 hr8 HC9 HK9 HI4 HCX3
                  go_wp2_with fail
                  have hg := HGG.out
                  rw [← hg]
                  clear hg HGG
                  have hd0 : Below w3.heap.size w3 w3 := Below.refl _ _
                  have hd1 : Below w3.heap.size w3 w3.drew := hd0.drew
                  have iq0 : (0 : Int) ≤ (q : Int) := by omega
                  have iq1 : (q : Int) < (ps.length : Int) := by omega
                  have iq2 : q < ps.length := by omega
                  have iq3 : IntKind.i64.wrap ((q : Int) + 1 - 1) = (q : Int) := by rw [show (q : Int) + 1 - 1 = q by omega]; exact IntWalk.i64_in _ (by omega)
                  have iq4 : IntKind.i64.wrap (q : Int) = (q : Int) := IntWalk.i64_in _ (by omega)
                  go_region_held3 (fun W => Below w3.heap.size w3 W ∧ W.cell? ⟨g, 0, none⟩ = some (.int .i64 k') ∧ W.cell? ⟨g, 1, none⟩ = some (.int .u64 (n' : Int)) ∧ W.cell? ⟨g, 2, none⟩ = some (.string (strB t')) ∧ W.cell? ⟨g, 3, none⟩ = some (.slice fa' fs'.length fc') ∧ W.cell? ⟨g, 4, none⟩ = some (.string (strB r')) ∧ W.cell? ⟨g, 5, none⟩ = some (.slice la' ls'.length lc') ∧ W.cell? ⟨g, 6, none⟩ = some (.slice pa' ps'.length pc') ∧ W.cell? ⟨b, o + q * 14, none⟩ = some (.int .i64 k') ∧ W.cell? ⟨b, o + q * 14 + 1, none⟩ = some (.int .u64 (n9 : Int)) ∧ W.cell? ⟨b, o + q * 14 + 2, none⟩ = some (.string (strB t9)) ∧ W.cell? ⟨b, o + q * 14 + 3, none⟩ = some (.slice fa9 fs9.length fc9) ∧ W.cell? ⟨b, o + q * 14 + 4, none⟩ = some (.string (strB r9)) ∧ W.cell? ⟨b, o + q * 14 + 5, none⟩ = some (.slice la9 ls9.length lc9) ∧ W.cell? ⟨b, o + q * 14 + 6, none⟩ = some (.slice pa9 ps9.length pc9))
                    (exact HS.out _ (by assumption))
                    ((first
                      | (go_at_call 77; (with_reducible refine (HCC.out _ (by assumption)).mono ?_); rintro e w6 ⟨rfl, hb6⟩; have hb7 := hd1.trans (hb6.mono hd1.size))))
                  have hbe6 : Below w.heap.size w w6 := HB9.out.trans (hb7.mono HB9.out.size)
                  clear HS HCC hd0 hd1 hb6 hb7 iq0 iq1 iq2 iq3 iq4
                  by_cases hC : C < 0
                  · have HI6 : Hid (rightP (lastK ps (q + 1 + 1)) (ps.drop (q + 1 + 1)) = rightP none ps) := by have := HI5.out; rw [decide_eq_true hC, Bool.true_and] at this; exact HN.out.trans this
                    go_wp2_with fail
                    go_roundw
                    case rel => exact ⟨q + 1 + 1, h1, by go_num, HI6, hbe6⟩
                    case measure => simp only [intOf]; omega
                  · have HZ : Hid (false = rightP none ps) := by have := HI5.out; rw [decide_eq_false hC, Bool.false_and] at this; exact this
                    go_wp2_with fail
                    go_ret
                    exact ⟨congrArg (fun z => Ending.returned (Value.bool z)) (by rw [← HZ.out, Bool.false_and]), hbe6⟩
                · have t9 : (k9 != k') = true := by simpa using fun h => hkk (Eq.symm h)
                  have HZ : Hid (false = rightP none ps) := by
                    have := HI4.out
                    rw [HK9.out] at this
                    simp only [risesB, V.k, show (k9 == k') = false by simpa using fun h => hkk (Eq.symm h), Bool.false_and] at this
                    exact this
                  have x0 := later1 e0 hlt HBR3.out
                  have y0 := HCX3.out.cell 0 (v := .int .i64 k') rfl
                  clear hkk e0 e1 e2 e3 e4 e5 e6 hq9 hr9 hr8 HC9 HK9 HI4 HCX3
                  go_wp2_with fail
                  go_quiet (fail)
                  go_wp2_with fail
                  go_ret
                  exact ⟨congrArg (fun z => Ending.returned (Value.bool z)) (by rw [← HZ.out, Bool.false_and]), below_drewV _ HB9.out⟩
      · have HZ : Hid (false = rightP none ps) := by
          have := HI2.out
          rw [show (k' == 1 || k' == 2) = false by simpa using tk] at this
          show _ = _
          simpa using this
        have g1 : (k' != 1) = true := by simp at tk; simp; exact tk.1
        have g2 : (k' != 2) = true := by simp at tk; simp; exact tk.2
        have HB9 : Hid (∀ o, Below w.heap.size w (wr.alloc o)) := fun o => HBE.out.alloc HBE.out.size o
        clear tk HI2
        go_wp2_with fail
        go_ret
        exact ⟨congrArg (fun z => Ending.returned (Value.bool z)) (by rw [← HZ.out, Bool.false_and]), HB9.out _⟩
    · have HZ : Hid (true = rightP none ps) := by show _ = _; rw [← HI.out, List.drop_of_length_le (by omega), rightP]
      clear HI
      go_wp2_with fail
      go_ret
      exact ⟨congrArg (fun z => Ending.returned (Value.bool z)) (by rw [← HZ.out, Bool.true_and]), hbe⟩
theorem bareB_iff {k : Int} {n : Nat} {t r : List UInt8} {fs : List (Int × V)} {ls : List V} {ps : List (V × V)} : bareB k n t r fs ls ps = true ↔ (k ≠ 1 → n = 0) ∧ (k ≠ 2 → t = []) ∧ (k ≠ 3 → fs = [] ∧ r = []) ∧ (k ≠ 4 → ls = []) ∧ (k ≠ 5 → ps = []) := by
  unfold bareB
  simp only [Bool.and_eq_true, beq_iff_eq, isEmpty_nil]
  constructor
  · rintro ⟨⟨⟨⟨⟨h1, h2⟩, h3⟩, h4⟩, h5⟩, h6⟩
    exact ⟨fun h => by rwa [if_neg h] at h1, fun h => by rwa [if_neg h] at h2, fun h => ⟨by rwa [if_neg h] at h3, by rwa [if_neg h] at h4⟩, fun h => by rwa [if_neg h] at h5, fun h => by rwa [if_neg h] at h6⟩
  · rintro ⟨h1, h2, h3, h4, h5⟩
    refine ⟨⟨⟨⟨⟨?_, ?_⟩, ?_⟩, ?_⟩, ?_⟩, ?_⟩ <;> split <;> simp_all
/-- which values are right, part by part -/
theorem rightV_parts (k : Int) (n : Nat) (t r : List UInt8) (fs : List (Int × V)) (ls : List V) (ps : List (V × V)) : rightV (.mk k n t fs r ls ps) = (bareB k n t r fs ls ps && (if k = 0 ∨ k = 1 ∨ k = 2 then true else if k = 3 then rightF 0 fs else if k = 4 then decide (0 < ls.length) && rightL ls else if k = 5 then rightP none ps && decide (0 < ps.length) else false)) := by
  have hiff : rightV (.mk k n t fs r ls ps) = true ↔ ((0 ≤ k ∧ k ≤ 5) ∧ (k ≠ 1 → n = 0) ∧ (k ≠ 2 → t = []) ∧ (k ≠ 3 → fs = [] ∧ r = []) ∧ (k = 4 ↔ ls ≠ []) ∧ (k = 5 ↔ ps ≠ [])) ∧ rightF 0 fs = true ∧ rightL ls = true ∧ rightP none ps = true := rightV_iff (.mk k n t fs r ls ps)
  rw [Bool.eq_iff_iff, hiff, Bool.and_eq_true, bareB_iff]
  have e4 : 0 < ls.length ↔ ls ≠ [] := by cases ls <;> simp
  have e5 : 0 < ps.length ↔ ps ≠ [] := by cases ps <;> simp
  constructor
  · rintro ⟨⟨⟨h0, h1⟩, h2, h3, h4, h5, h6⟩, hf, hl, hp⟩
    refine ⟨⟨h2, h3, h4, fun h => ?_, fun h => ?_⟩, ?_⟩
    · by_cases e : ls = []
      · exact e
      · exact absurd (h5.2 e) h
    · by_cases e : ps = []
      · exact e
      · exact absurd (h6.2 e) h
    · by_cases k0 : k = 0 ∨ k = 1 ∨ k = 2
      · rw [if_pos k0]
      · rw [if_neg k0]
        by_cases k3 : k = 3
        · rw [if_pos k3]; exact hf
        · rw [if_neg k3]
          by_cases k4 : k = 4
          · rw [if_pos k4, hl, Bool.and_true, decide_eq_true_eq, e4]; exact h5.1 k4
          · rw [if_neg k4, if_pos (by omega), hp, Bool.true_and, decide_eq_true_eq, e5]; exact h6.1 (by omega)
  · rintro ⟨⟨h2, h3, h4, h5, h6⟩, h⟩
    by_cases k0 : k = 0 ∨ k = 1 ∨ k = 2
    · have a3 := h4 (by omega)
      have a4 := h5 (by omega)
      have a5 := h6 (by omega)
      exact ⟨⟨⟨by omega, by omega⟩, h2, h3, h4, ⟨fun e2 => by omega, fun e2 => absurd a4 e2⟩, ⟨fun e2 => by omega, fun e2 => absurd a5 e2⟩⟩, by rw [a3.1, rightF], by rw [a4, rightL], by rw [a5, rightP]⟩
    · rw [if_neg k0] at h
      by_cases k3 : k = 3
      · rw [if_pos k3] at h
        have a4 := h5 (by omega)
        have a5 := h6 (by omega)
        exact ⟨⟨⟨by omega, by omega⟩, h2, h3, h4, ⟨fun e2 => by omega, fun e2 => absurd a4 e2⟩, ⟨fun e2 => by omega, fun e2 => absurd a5 e2⟩⟩, h, by rw [a4, rightL], by rw [a5, rightP]⟩
      · rw [if_neg k3] at h
        by_cases k4 : k = 4
        · rw [if_pos k4, Bool.and_eq_true, decide_eq_true_eq, e4] at h
          have a3 := h4 (by omega)
          have a5 := h6 (by omega)
          exact ⟨⟨⟨by omega, by omega⟩, h2, h3, h4, ⟨fun _ => h.1, fun _ => k4⟩, ⟨fun e2 => by omega, fun e2 => absurd a5 e2⟩⟩, by rw [a3.1, rightF], h.2, by rw [a5, rightP]⟩
        · rw [if_neg k4] at h
          by_cases k5 : k = 5
          · rw [if_pos k5, Bool.and_eq_true, decide_eq_true_eq, e5] at h
            have a3 := h4 (by omega)
            have a4 := h5 (by omega)
            exact ⟨⟨⟨by omega, by omega⟩, h2, h3, h4, ⟨fun e2 => by omega, fun e2 => absurd a4 e2⟩, ⟨fun _ => h.2, fun _ => k5⟩⟩, by rw [a3.1, rightF], by rw [a4, rightL], h.1⟩
          · rw [if_neg k5] at h
            cases h
end
section
variable {k : Int} {n : Nat} {t r : List UInt8} {fs : List (Int × V)} {ls : List V} {ps : List (V × V)} {fa la pa : Option Addr} {fc lc pc : Nat} {S : Nat → Prop} {w : World}
end
end Go.Proofs.YtcjflglpkpkflaaDoor
