/- The reference's single, Right. -/
import Derived.Test.YtcjflglpkpkflaaGreatDoorVs
import Derived.Test.YtcjflglpkpkflaaGreatDoorVl
import Derived.Deep.CutBlock
import Derived.Deep.DeepCutAuto
namespace Go.Proofs.YtcjflglpkpkflaaGreatDoor
open Go Go.RowKit
set_option linter.unusedVariables false
theorem quiet_wanted {P : Program} {ops : Array Oper} {C : World → Prop} {o : Oper} {a : Act} {K : Act → Prop} {E : Prop} (h : Region.wanted o (yielded ops a.tmps) = true) (v : Value)
    (h1 : ∀ w, C w → o.quietAt P a C w v) (h2 : K (a.put o.dst v)) : if Region.wanted o (yielded ops a.tmps) then o.quiet P a C K else E := by rw [if_pos h]; exact ⟨v, h1, h2⟩
theorem quiet_intro {P : Program} {C : World → Prop} {o : Oper} {a : Act} {K : Act → Prop} (v : Value) (h1 : ∀ w, C w → o.quietAt P a C w v) (h2 : K (a.put o.dst v)) : o.quiet P a C K := ⟨v, h1, h2⟩
theorem quiet_unwanted {ops : Array Oper} {o : Oper} {a : Act} {K : Act → Prop} {E : Prop} (h : Region.wanted o (yielded ops a.tmps) = false)
    (h2 : K (a.put o.dst undef)) : if Region.wanted o (yielded ops a.tmps) then E else K (a.put o.dst undef) := by rw [if_neg (by rw [h]; exact Bool.false_ne_true)]; exact h2
theorem wp_region_quiet_in {P : Program} {C : World → Prop} {id : Nat} {Q : Exit → Act → World → Prop} {a : Act} {w : World} {l : List Oper} (hm : P.follows .mixedOrders = true) (hB : Region.lexB .any l.toArray = true) (hC : C w.drew)
    (h : wpQuiet P l.toArray C (fun a' => ∀ w', C w' → Q .normal a' w') l a) : (Code.region id l.toArray true).wp P Q a w := wp_region_quiet (C := C) hm hB hC (by simpa using h)
def RRightC (v : V) : Prop := ∀ (a : A3) (S : Nat → Prop) (w : World), Rep S w v a → wV v ≤ 1000000 → Calls Tryz.prog 66 #[vG (v, a)] w fun e w' => e = .returned (.bool (rightV v)) ∧ Below w.heap.size w w'
section
variable {k : Int} {n : Nat} {t r : List UInt8} {fs : List (Int × V)} {ls : List V} {ps : List (V × V)} {fa la pa : Option Addr} {fc lc pc : Nat} {S : Nat → Prop} {w : World}
theorem RRightC.lit (h : RRightC (.mk k n t fs r ls ps)) (hr : Rep S w (.mk k n t fs r ls ps) ⟨fa, fc, la, lc, pa, pc⟩) (hw : wV (.mk k n t fs r ls ps) ≤ 1000000) : Calls Tryz.prog 66 #[.agg #[.int .i64 k, .int .u64 (n : Int), .string (strB t), .slice fa fs.length fc, .string (strB r), .slice la ls.length lc, .slice pa ps.length pc]] w fun e w' => e = .returned (.bool (rightV (.mk k n t fs r ls ps))) ∧ Below w.heap.size w w' := by
  have := h _ S w hr hw
  rw [vG_lit] at this
  exact this
set_option maxRecDepth 100000 in
set_option maxHeartbeats 4000000 in
theorem rsingle_lit (h : RRightC (.mk k n t fs r ls ps)) (hr : Rep S w (.mk k n t fs r ls ps) ⟨fa, fc, la, lc, pa, pc⟩) (hw : wV (.mk k n t fs r ls ps) ≤ 1000000) : Calls Tryz.prog 89 #[.agg #[.int .i64 k, .int .u64 (n : Int), .string (strB t), .slice fa fs.length fc, .string (strB r), .slice la ls.length lc, .slice pa ps.length pc]] w fun e w' => e = .returned (.bool (singleK k && rightV (.mk k n t fs r ls ps))) ∧ Below w.heap.size w w' := by
  have HC : Hid (∀ W, Below w.heap.size w W → Calls _ _ _ W _) := fun W hb => RRightC.lit h (hr.stays hb) hw
  have HBA : Hid (Below w.heap.size w (w.alloc (.cells #[.int .i64 k, .int .u64 (n : Int), .string (strB t), .slice fa fs.length fc, .string (strB r), .slice la ls.length lc, .slice pa ps.length pc] 47))) := (Below.refl _ _).alloc (Nat.le_refl _) _
  clear h hr hw
  generalize rightV (.mk k n t fs r ls ps) = R at HC ⊢
  by_cases h123 : k = 1 ∨ k = 2 ∨ k = 3
  · rcases h123 with rfl | rfl | rfl
    all_goals
      go_enter Tryz.func89, Tryz.ntmps89
      go_wp2_with fail
      refine (HC.out _ HBA.out).mono ?_
      rintro e w1 ⟨rfl, hb1⟩
      have HB1 := Lib.hid (HBA.out.trans (hb1.mono HBA.out.size))
      clear hb1
      go_wp2_with fail
      go_ret
      exact ⟨congrArg (fun z => Ending.returned (Value.bool z)) (by cases R <;> rfl), HB1.out⟩
  · have HZ : Hid (singleK k = false) := by show _ = _; unfold singleK; simp; omega
    have g1 : (k == 1) = false := by simp; omega
    have g2 : (k == 2) = false := by simp; omega
    have g3 : (k == 3) = false := by simp; omega
    clear h123
    go_enter Tryz.func89, Tryz.ntmps89
    go_wp2_with fail
    go_ret
    exact ⟨congrArg (fun z => Ending.returned (Value.bool z)) (by rw [HZ.out]; rfl), HBA.out⟩
end
/-- is there something that the kind doesn't have, or not what it must have? -/
def badB (k : Int) (n : Nat) (t r : List UInt8) (fs : List (Int × V)) (ls : List V) (ps : List (V × V)) : Bool :=
  (k != 1 && n != 0) || (k != 2 && decide (0 < t.length)) || (k != 3 && decide (0 < fs.length + r.length)) || ((k == 4) != decide (0 < ls.length)) || ((k == 5) != decide (0 < ps.length))
theorem rightV_bad (k : Int) (n : Nat) (t r : List UInt8) (fs : List (Int × V)) (ls : List V) (ps : List (V × V)) (h0 : 0 ≤ k) (h5 : k ≤ 5) : rightV (.mk k n t fs r ls ps) = (!badB k n t r fs ls ps && rightF 0 fs && rightL ls && rightP none ps) := by
  have hiff : rightV (.mk k n t fs r ls ps) = true ↔ ((0 ≤ k ∧ k ≤ 5) ∧ (k ≠ 1 → n = 0) ∧ (k ≠ 2 → t = []) ∧ (k ≠ 3 → fs = [] ∧ r = []) ∧ (k = 4 ↔ ls ≠ []) ∧ (k = 5 ↔ ps ≠ [])) ∧ rightF 0 fs = true ∧ rightL ls = true ∧ rightP none ps = true := rightV_iff (.mk k n t fs r ls ps)
  have e1 : (0 < t.length) ↔ t ≠ [] := by cases t <;> simp
  have e2 : (0 < fs.length + r.length) ↔ ¬ (fs = [] ∧ r = []) := by cases fs <;> cases r <;> simp <;> omega
  have e3 : (0 < ls.length) ↔ ls ≠ [] := by cases ls <;> simp
  have e4 : (0 < ps.length) ↔ ps ≠ [] := by cases ps <;> simp
  have hb : badB k n t r fs ls ps = false ↔ ((k ≠ 1 → n = 0) ∧ (k ≠ 2 → t = []) ∧ (k ≠ 3 → fs = [] ∧ r = []) ∧ (k = 4 ↔ ls ≠ []) ∧ (k = 5 ↔ ps ≠ [])) := by
    unfold badB
    simp only [Bool.or_eq_false_iff, Bool.and_eq_false_iff, bne_eq_false_iff_eq, decide_eq_false_iff_not, e1, e2, e3, e4]
    constructor
    · rintro ⟨⟨⟨⟨h1, h2⟩, h3⟩, h4⟩, h5⟩
      refine ⟨fun h => h1.resolve_left h, fun h => Decidable.not_not.1 (h2.resolve_left h), fun h => Decidable.not_not.1 (h3.resolve_left h), ?_, ?_⟩
      · rw [Bool.eq_iff_iff] at h4; simpa using h4
      · rw [Bool.eq_iff_iff] at h5; simpa using h5
    · rintro ⟨h1, h2, h3, h4, h5⟩
      refine ⟨⟨⟨⟨?_, ?_⟩, ?_⟩, ?_⟩, ?_⟩
      · by_cases e : k = 1
        · exact .inl e
        · exact .inr (h1 e)
      · by_cases e : k = 2
        · exact .inl e
        · exact .inr (fun h => h (h2 e))
      · by_cases e : k = 3
        · exact .inl e
        · exact .inr (fun h => h (h3 e))
      · rw [Bool.eq_iff_iff]; simpa using h4
      · rw [Bool.eq_iff_iff]; simpa using h5
  rw [Bool.eq_iff_iff, hiff]
  simp only [Bool.and_eq_true, Bool.not_eq_true', hb]
  constructor
  · rintro ⟨⟨_, h⟩, hf, hl, hp⟩; exact ⟨⟨⟨h, hf⟩, hl⟩, hp⟩
  · rintro ⟨⟨⟨h, hf⟩, hl⟩, hp⟩; exact ⟨⟨⟨h0, h5⟩, h⟩, hf, hl, hp⟩
theorem rightV_kind (k : Int) (n : Nat) (t r : List UInt8) (fs : List (Int × V)) (ls : List V) (ps : List (V × V)) (h : k < 0 ∨ 5 < k) : rightV (.mk k n t fs r ls ps) = false := by
  cases e : rightV (.mk k n t fs r ls ps) with
  | false => rfl
  | true =>
    have := ((rightV_iff (.mk k n t fs r ls ps)).1 e).1.1
    simp only [V.k] at this
    omega
/-- the number of the field ahead of place m -/
def lastN (fs : List (Int × V)) (m : Nat) : Int := if m = 0 then 0 else ((fs[m - 1]?).map Prod.fst).getD 0
theorem lastN_succ {fs : List (Int × V)} {m : Nat} {p : Int × V} (h : fs[m]? = some p) : lastN fs (m + 1) = p.1 := by unfold lastN; rw [if_neg (by omega), Nat.add_sub_cancel, h]; rfl
set_option maxRecDepth 100000 in
set_option maxHeartbeats 16000000 in
theorem rright_any : ∀ (v : V), RRightC v := by
  intro v
  induction v using V.ind with
  | h v ihf ihl ihp =>
    intro a S w hr hw
    obtain ⟨k, n, t, fs, r, ls, ps⟩ := v
    obtain ⟨fa, fc, la, lc, pa, pc⟩ := a
    rw [vG_lit]
    have hww : wF fs + wL ls + wP ps ≤ 1000000 ∧ t.length ≤ 1000000 ∧ r.length ≤ 1000000 := by rw [wV_eq] at hw; simp only [V.fs, V.ls, V.ps, V.t, V.r] at hw; omega
    have hf6 : fs.length ≤ 1000000 := by have := wF_len fs; omega
    have hl6 : ls.length ≤ 1000000 := by have := wL_len ls; omega
    have hp6 : ps.length ≤ 1000000 := by have := wP_len ps; omega
    have ht6 := hww.2.1
    have hr6 := hww.2.2
    have IHF : Hid (∀ p ∈ fs, RRightC p.2 ∧ wV p.2 ≤ 1000000) := fun p hp => ⟨ihf p hp, by have := wF_mem fs p hp; omega⟩
    have IHL : Hid (∀ x ∈ ls, RRightC x ∧ wV x ≤ 1000000) := fun x hx => ⟨ihl x hx, by have := wL_mem ls x hx; omega⟩
    have IHP : Hid (∀ p ∈ ps, (RRightC p.1 ∧ RRightC p.2) ∧ wV p.1 ≤ 1000000 ∧ wV p.2 ≤ 1000000) := fun p hp => ⟨ihp p hp, by have := wP_mem ps p hp; omega, by have := wP_mem ps p hp; omega⟩
    have e1 : (strB t).size = t.length := strB_size t
    have e2 : (strB r).size = r.length := strB_size r
    obtain ⟨W0, hW0⟩ : ∃ W0, W0 = w.alloc (.cells #[.int .i64 k, .int .u64 (n : Int), .string (strB t), .slice fa fs.length fc, .string (strB r), .slice la ls.length lc, .slice pa ps.length pc] 47) := ⟨_, rfl⟩
    obtain ⟨g, hg⟩ : ∃ g, g = w.heap.size := ⟨_, rfl⟩
    have hbA : Below w.heap.size w W0 := by rw [hW0]; exact (Below.refl _ _).alloc (Nat.le_refl _) _
    have hcA : CellsAt W0 g 47 #[.int .i64 k, .int .u64 (n : Int), .string (strB t), .slice fa fs.length fc, .string (strB r), .slice la ls.length lc, .slice pa ps.length pc] := by rw [hW0, hg]; exact CellsAt.new w _ _
    have HX : Hid (∀ W, Below W0.heap.size W0 W → CellsAt W g 47 #[.int .i64 k, .int .u64 (n : Int), .string (strB t), .slice fa fs.length fc, .string (strB r), .slice la ls.length lc, .slice pa ps.length pc] ∧ Below w.heap.size w W) := fun W hb => ⟨hcA.stays hb, hbA.trans (hb.mono hbA.size)⟩
    have HR : Hid (∀ W, Below W0.heap.size W0 W → Rep S W (.mk k n t fs r ls ps) ⟨fa, fc, la, lc, pa, pc⟩) := fun W hb => hr.stays (hbA.trans (hb.mono hbA.size))
    have HW := Lib.hid hW0
    have HG := Lib.hid hg
    have HBA := Lib.hid hbA
    clear ihf ihl ihp hr hW0 hg hbA hcA hw hww
    by_cases hk0 : k < 0
    · have HZ : Hid (false = rightV (.mk k n t fs r ls ps)) := (rightV_kind k n t r fs ls ps (.inl hk0)).symm
      go_enter Tryz.func66, Tryz.ntmps66
      go_wp2_with fail
      have hW0 := HW.out
      rw [← hW0]
      clear hW0
      go_ret
      exact ⟨congrArg (fun z => Ending.returned (Value.bool z)) HZ.out, HBA.out⟩
    by_cases hk5 : 5 < k
    · have HZ : Hid (false = rightV (.mk k n t fs r ls ps)) := (rightV_kind k n t r fs ls ps (.inr hk5)).symm
      go_enter Tryz.func66, Tryz.ntmps66
      go_wp2_with fail
      have hW0 := HW.out
      rw [← hW0]
      clear hW0
      go_ret
      exact ⟨congrArg (fun z => Ending.returned (Value.bool z)) HZ.out, HBA.out⟩
    have HZ := Lib.hid (rightV_bad k n t r fs ls ps (by omega) (by omega))
    have HBB : Hid (badB k n t r fs ls ps = ((k != 1 && n != 0) || (k != 2 && decide (0 < t.length)) || (k != 3 && decide (0 < fs.length + r.length)) || ((k == 4) != decide (0 < ls.length)) || ((k == 5) != decide (0 < ps.length)))) := rfl
    generalize badB k n t r fs ls ps = BAD at HZ HBB
    go_enter Tryz.func66, Tryz.ntmps66
    go_upto_region 3 with fail
    have hW0 := HW.out
    have hg := HG.out
    rw [← hW0, ← hg]
    clear hW0 hg HW HG
    obtain ⟨x0, x1, x2, x3, x4, x5, x6⟩ := box7 (HX.out W0 (Below.refl _ _)).1
    go_cut [70] from 17 to 70 (fun v wx => v = .bool BAD ∧ wx = W0)
    case first =>
      have hB := HBB.out
      obtain ⟨B1, q1⟩ : ∃ b, (k != 1) = b := ⟨_, rfl⟩
      obtain ⟨Bn, qn⟩ : ∃ b, ((n : Int) != 0) = b := ⟨_, rfl⟩
      obtain ⟨B2, q2⟩ : ∃ b, (k != 2) = b := ⟨_, rfl⟩
      obtain ⟨Bt, qt⟩ : ∃ b, decide (0 < t.length) = b := ⟨_, rfl⟩
      obtain ⟨B3, q3⟩ : ∃ b, (k != 3) = b := ⟨_, rfl⟩
      obtain ⟨Bf, qf⟩ : ∃ b, decide (0 < fs.length + r.length) = b := ⟨_, rfl⟩
      obtain ⟨B4, q4⟩ : ∃ b, (k == 4) = b := ⟨_, rfl⟩
      obtain ⟨Bl, ql⟩ : ∃ b, decide (0 < ls.length) = b := ⟨_, rfl⟩
      obtain ⟨B5, q5⟩ : ∃ b, (k == 5) = b := ⟨_, rfl⟩
      obtain ⟨Bp, qp⟩ : ∃ b, decide (0 < ps.length) = b := ⟨_, rfl⟩
      have qn' : (n != 0) = Bn := by rw [← qn, Bool.eq_iff_iff]; simp
      have qt' : decide ((0 : Int) < (t.length : Int)) = Bt := by rw [← qt]; simp
      have qf' : decide ((0 : Int) < (fs.length : Int) + (r.length : Int)) = Bf := by rw [← qf]; simp [← Int.natCast_add]
      have ql' : decide ((0 : Int) < (ls.length : Int)) = Bl := by rw [← ql]; simp
      have qp' : decide ((0 : Int) < (ps.length : Int)) = Bp := by rw [← qp]; simp
      rw [q1, qn', q2, qt, q3, qf, q4, ql, q5, qp] at hB
      have HB := Lib.hid hB
      clear hB qn' HBB
      go_wp2_with fail
      all_goals go_meet
      all_goals refine ⟨congrArg Value.bool ?_, rfl⟩
      all_goals rw [HB.out]
      all_goals clear HB HX HR IHF IHL IHP HZ x0 x1 x2 x3 x4 x5 x6 q1 qn q2 qt q3 qf q4 ql q5 qp qt' qf' ql' qp'
      all_goals simp_all
      all_goals (cases B5 <;> cases Bp <;> rfl)
    case rest =>
      obtain ⟨rfl, rfl⟩ := hcut
      clear HBB x0 x1 x2 x4 x5 x6
      cases BAD with
      | true =>
        have HZ2 : Hid (false = rightV (.mk k n t fs r ls ps)) := by show _ = _; rw [HZ.out]; rfl
        go_wp2_with fail
        go_ret
        exact ⟨congrArg (fun z => Ending.returned (Value.bool z)) HZ2.out, HBA.out⟩
      | false =>
        have HZ2 : Hid ((rightF 0 fs && rightL ls && rightP none ps) = rightV (.mk k n t fs r ls ps)) := by show _ = _; rw [HZ.out]; rfl
        clear HZ
        go_wp2_with fail
        go_loopw [74] (fun i wr => ∃ m : Nat, m ≤ fs.length ∧ i = .int .i64 m ∧ Hid (rightF (lastN fs m) (fs.drop m) = rightF 0 fs) ∧ Hid (0 ≤ lastN fs m) ∧ Below wc.heap.size wc wr) (fun i _ => fs.length - (intOf i).toNat)
        case atStart => exact ⟨0, Nat.zero_le _, rfl, rfl, by show (0 : Int) ≤ 0; omega, Below.refl _ _⟩
        case round =>
          clear x3
          obtain ⟨m, hm, rfl, HI, HL0, hbe⟩ := hrel
          have hbx := (HX.out wr hbe).2
          by_cases h1 : m < fs.length
          · obtain ⟨⟨num, ⟨k', n', t', fs', r', ls', ps'⟩⟩, hq⟩ : ∃ p, fs[m]? = some p := ⟨_, List.getElem?_eq_getElem h1⟩
            obtain ⟨b, o, fa', la', pa', fc', lc', pc', rfl, hnum, hrx, c0, c1, c2, c3, c4, c5, c6, c7⟩ := (HR.out wr hbe).fieldAt hq
            have hlb : b < wr.heap.size := World.block_lt_of_cell? wr _ c0
            have hI := HI.out
            rw [drop_fields hq, rightF_cons] at hI
            replace hI : (decide (lastN fs m < num) && decide (num ≤ 536870911) && (k' != 0) && rightV (.mk k' n' t' fs' r' ls' ps') && rightF num (fs.drop (m + 1))) = rightF 0 fs := hI
            have HC : Hid (∀ W, Below wr.heap.size wr W → Calls _ _ _ W _) := fun W hb => RRightC.lit (IHF.out _ (List.mem_of_getElem? hq)).1 (hrx.stays hb) (IHF.out _ (List.mem_of_getElem? hq)).2
            generalize rightV (.mk k' n' t' fs' r' ls' ps') = R at HC hI
            have HI2 := Lib.hid hI
            have HBE := Lib.hid hbe
            have HQ := Lib.hid hq
            have HBX : Hid (∀ o n, Below w.heap.size w ((wr.alloc o).drewN n)) := fun o n => below_drewV _ ((HX.out wr HBE.out).2.alloc (HX.out wr HBE.out).2.size o)
            have hl0 := HL0.out
            clear hI HI hrx hq hbx hbe
            by_cases tA : num < 1
            · have HF0 : Hid (false = rightV (.mk k n t fs r ls ps)) := by
                have h9 := HI2.out
                rw [decide_eq_false (by omega : ¬ lastN fs m < num)] at h9
                have h8 : rightF 0 fs = false := by rw [← h9]; simp
                show _ = _
                rw [← HZ2.out, h8]; rfl
              have tA' : decide (num < 1) = true := decide_eq_true tA
              clear HC
              go_wp2_with fail
              go_quiet (fail)
              go_wp2_with fail
              go_ret
              exact ⟨congrArg (fun z => Ending.returned (Value.bool z)) HF0.out, HBX.out _ _⟩
            have tA' : decide (num < 1) = false := decide_eq_false tA
            by_cases tB : 536870911 < num
            · have HF0 : Hid (false = rightV (.mk k n t fs r ls ps)) := by
                have h9 := HI2.out
                rw [decide_eq_false (by omega : ¬ num ≤ 536870911)] at h9
                have h8 : rightF 0 fs = false := by rw [← h9]; simp
                show _ = _
                rw [← HZ2.out, h8]; rfl
              have tB' : decide (536870911 < num) = true := decide_eq_true tB
              clear HC
              go_wp2_with fail
              go_quiet (fail)
              go_wp2_with fail
              go_ret
              exact ⟨congrArg (fun z => Ending.returned (Value.bool z)) HF0.out, HBX.out _ _⟩
            have tB' : decide (536870911 < num) = false := decide_eq_false tB
            obtain rfl | ⟨q, rfl⟩ : m = 0 ∨ ∃ q, m = q + 1 := by
              cases m with
              | zero => exact .inl rfl
              | succ q => exact .inr ⟨q, rfl⟩
            · have hlt9 : lastN fs 0 < num := by show (0 : Int) < num; omega
              rw [Nat.zero_mul, Nat.add_zero] at c0 c1 c2 c3 c4 c5 c6 c7
              by_cases tD : k' = 0
              · have HF0 : Hid (false = rightV (.mk k n t fs r ls ps)) := by
                  have h9 := HI2.out
                  rw [tD] at h9
                  have h8 : rightF 0 fs = false := by rw [← h9]; simp
                  show _ = _
                  rw [← HZ2.out, h8]; rfl
                subst tD
                go_wp2_with fail
                go_quiet (fail)
                go_wp2_with fail
                go_ret
                exact ⟨congrArg (fun z => Ending.returned (Value.bool z)) HF0.out, HBX.out _ _⟩
              · have tD' : (k' == 0) = false := by simpa using tD
                have HI5 : Hid ((R && rightF num (fs.drop (0 + 1))) = rightF 0 fs) := by
                  have h9 := HI2.out
                  rw [show (k' != 0) = true by simpa using tD, decide_eq_true hlt9, decide_eq_true (by omega : num ≤ 536870911)] at h9
                  show _ = _
                  simpa using h9
                obtain ⟨W1, hW1⟩ : ∃ W1, W1 = wr.alloc (.cells #[.int .i64 num, .int .i64 k', .int .u64 (n' : Int), .string (strB t'), .slice fa' fs'.length fc', .string (strB r'), .slice la' ls'.length lc', .slice pa' ps'.length pc'] 90) := ⟨_, rfl⟩
                obtain ⟨h, hh⟩ : ∃ h, h = wr.heap.size := ⟨_, rfl⟩
                have hbA : Below wr.heap.size wr W1 := by rw [hW1]; exact (Below.refl _ _).alloc (Nat.le_refl _) _
                have hcv : CellsAt W1 h 90 #[.int .i64 num, .int .i64 k', .int .u64 (n' : Int), .string (strB t'), .slice fa' fs'.length fc', .string (strB r'), .slice la' ls'.length lc', .slice pa' ps'.length pc'] := by rw [hW1, hh]; exact CellsAt.new wr _ _
                have HS : Hid (∀ W, Below W1.heap.size W1 W → Below W1.heap.size W1 W ∧ W.cell? ⟨h, 0, none⟩ = some (.int .i64 num) ∧ W.cell? ⟨h, 1, none⟩ = some (.int .i64 k') ∧ W.cell? ⟨h, 2, none⟩ = some (.int .u64 (n' : Int)) ∧ W.cell? ⟨h, 3, none⟩ = some (.string (strB t')) ∧ W.cell? ⟨h, 4, none⟩ = some (.slice fa' fs'.length fc') ∧ W.cell? ⟨h, 5, none⟩ = some (.string (strB r')) ∧ W.cell? ⟨h, 6, none⟩ = some (.slice la' ls'.length lc') ∧ W.cell? ⟨h, 7, none⟩ = some (.slice pa' ps'.length pc')) := fun W hb => by
                  have hv := hcv.stays hb
                  exact ⟨hb, hv.cell 0 rfl, hv.cell 1 rfl, hv.cell 2 rfl, hv.cell 3 rfl, hv.cell 4 rfl, hv.cell 5 rfl, hv.cell 6 rfl, hv.cell 7 rfl⟩
                have HC1 : Hid (∀ W, Below W1.heap.size W1 W → Calls _ _ _ W _) := fun W hb => HC.out W (hbA.trans (hb.mono hbA.size))
                have HB1 : Hid (Below wc.heap.size wc W1) := HBE.out.trans (hbA.mono HBE.out.size)
                have HW1 := Lib.hid hW1
                have HH := Lib.hid hh
                clear tD HI2 HC hW1 hh hbA hcv
                go_wp2_with fail
                have hW1 := HW1.out
                have hh := HH.out
                rw [← hW1, ← hh]
                clear hW1 hh HW1 HH c0 c1 c2 c3 c4 c5 c6 c7 
                have hd0 : Below W1.heap.size W1 W1 := Below.refl _ _
                have hd1 : Below W1.heap.size W1 W1.drew := hd0.drew
                refine wp_region_quiet_in (C := fun W => Below W1.heap.size W1 W) (by kernel_rfl) (by kernel_rfl) hd1 ?_
                repeat
                  (first
                     | go_big_quiet_skip
                     | (go_big_quiet_want
                        refine quiet_intro ?_ (fun wq hwq => ?_) ?_
                        rotate_left
                        focus
                          (obtain ⟨-, s0, s1, s2, s3, s4, s5, s6, s7⟩ := HS.out _ hwq
                           go_simp
                           try first
                             | with_reducible rfl
                             | (exact hwq)
                             | ((with_reducible refine (HC1.out _ hwq).mono ?_); rintro e wA ⟨rfl, hbA⟩; refine ⟨?_, hwq.trans (hbA.mono hwq.size)⟩; with_reducible rfl))
                        go_simp
                        go_big_quiet_on))
                refine wpQuiet_nil ?_
                intro w6 hb7
                have hb6 := hb7
                have hbe6 : Below wc.heap.size wc w6 := HB1.out.trans (hb7.mono HB1.out.size)
                clear HS HC1 HB1 hd0 hd1 hb6 hb7
                cases R with
                | true =>
                  have HN : Hid (rightF (lastN fs (0 + 1)) (fs.drop (0 + 1)) = rightF 0 fs) := by
                    have h9 := HI5.out
                    rw [Bool.true_and] at h9
                    show _ = _
                    rw [lastN_succ HQ.out]
                    exact h9
                  have HNL : Hid (0 ≤ lastN fs (0 + 1)) := by show _ ≤ _; rw [lastN_succ HQ.out]; show 0 ≤ num; omega
                  go_wp2_with fail
                  go_roundw
                  case rel => exact ⟨0 + 1, h1, by go_num, HN, HNL, hbe6⟩
                  case measure => simp only [intOf]; omega
                | false =>
                  have HF0 : Hid (false = rightV (.mk k n t fs r ls ps)) := by
                    have h9 := HI5.out
                    rw [Bool.false_and] at h9
                    show _ = _
                    rw [← HZ2.out, ← h9]; rfl
                  have HFB := Lib.hid ((HX.out w6 hbe6).2)
                  go_wp2_with fail
                  go_ret
                  exact ⟨congrArg (fun z => Ending.returned (Value.bool z)) HF0.out, HFB.out⟩
            · obtain ⟨⟨pn, ⟨k9, n9, t9, fs9, r9, ls9, ps9⟩⟩, hq9⟩ : ∃ p, fs[q]? = some p := ⟨_, List.getElem?_eq_getElem (by omega)⟩
              obtain ⟨b', o', fa9, la9, pa9, fc9, lc9, pc9, hbo, hpn, -, p0, -⟩ := (HR.out wr HBE.out).fieldAt hq9
              cases hbo
              have hL9 : lastN fs (q + 1) = pn := lastN_succ hq9
              have x3 := (HX.out wr HBE.out).1.cell 3 (v := .slice (some ⟨b, o, none⟩) fs.length fc) rfl
              have hgl : g < wr.heap.size := (HX.out wr HBE.out).1.lt
              have iq0 : (0 : Int) ≤ (q : Int) := by omega
              have iq1 : (q : Int) < (fs.length : Int) := by omega
              have iq2 : q < fs.length := by omega
              have iq3 : IntKind.i64.wrap (q : Int) = (q : Int) := IntWalk.i64_in _ (by omega)
              rw [hL9] at hl0
              have HL9 := Lib.hid hL9
              clear hq9 hL9
              by_cases tC : num ≤ pn
              · have HF0 : Hid (false = rightV (.mk k n t fs r ls ps)) := by
                  have h9 := HI2.out
                  rw [decide_eq_false (by rw [HL9.out]; omega : ¬ lastN fs (q + 1) < num)] at h9
                  have h8 : rightF 0 fs = false := by rw [← h9]; simp
                  show _ = _
                  rw [← HZ2.out, h8]; rfl
                have tC' : decide (num ≤ pn) = true := decide_eq_true tC
                clear HC
                go_wp2_with fail
                go_quiet (fail)
                go_wp2_with fail
                go_ret
                exact ⟨congrArg (fun z => Ending.returned (Value.bool z)) HF0.out, HBX.out _ _⟩
              have tC' : decide (num ≤ pn) = false := decide_eq_false tC
              have hlt9 : lastN fs (q + 1) < num := by rw [HL9.out]; omega
              by_cases tD : k' = 0
              · have HF0 : Hid (false = rightV (.mk k n t fs r ls ps)) := by
                  have h9 := HI2.out
                  rw [tD] at h9
                  have h8 : rightF 0 fs = false := by rw [← h9]; simp
                  show _ = _
                  rw [← HZ2.out, h8]; rfl
                subst tD
                go_wp2_with fail
                go_quiet (fail)
                go_wp2_with fail
                go_ret
                exact ⟨congrArg (fun z => Ending.returned (Value.bool z)) HF0.out, HBX.out _ _⟩
              · have tD' : (k' == 0) = false := by simpa using tD
                have HI5 : Hid ((R && rightF num (fs.drop (q + 1 + 1))) = rightF 0 fs) := by
                  have h9 := HI2.out
                  rw [show (k' != 0) = true by simpa using tD, decide_eq_true hlt9, decide_eq_true (by omega : num ≤ 536870911)] at h9
                  show _ = _
                  simpa using h9
                obtain ⟨W1, hW1⟩ : ∃ W1, W1 = wr.alloc (.cells #[.int .i64 num, .int .i64 k', .int .u64 (n' : Int), .string (strB t'), .slice fa' fs'.length fc', .string (strB r'), .slice la' ls'.length lc', .slice pa' ps'.length pc'] 90) := ⟨_, rfl⟩
                obtain ⟨h, hh⟩ : ∃ h, h = wr.heap.size := ⟨_, rfl⟩
                have hbA : Below wr.heap.size wr W1 := by rw [hW1]; exact (Below.refl _ _).alloc (Nat.le_refl _) _
                have hcv : CellsAt W1 h 90 #[.int .i64 num, .int .i64 k', .int .u64 (n' : Int), .string (strB t'), .slice fa' fs'.length fc', .string (strB r'), .slice la' ls'.length lc', .slice pa' ps'.length pc'] := by rw [hW1, hh]; exact CellsAt.new wr _ _
                have HS : Hid (∀ W, Below W1.heap.size W1 W → Below W1.heap.size W1 W ∧ W.cell? ⟨h, 0, none⟩ = some (.int .i64 num) ∧ W.cell? ⟨h, 1, none⟩ = some (.int .i64 k') ∧ W.cell? ⟨h, 2, none⟩ = some (.int .u64 (n' : Int)) ∧ W.cell? ⟨h, 3, none⟩ = some (.string (strB t')) ∧ W.cell? ⟨h, 4, none⟩ = some (.slice fa' fs'.length fc') ∧ W.cell? ⟨h, 5, none⟩ = some (.string (strB r')) ∧ W.cell? ⟨h, 6, none⟩ = some (.slice la' ls'.length lc') ∧ W.cell? ⟨h, 7, none⟩ = some (.slice pa' ps'.length pc') ∧ W.cell? ⟨g, 3, none⟩ = some (.slice (some ⟨b, o, none⟩) fs.length fc) ∧ W.cell? ⟨b, o + q * 8, none⟩ = some (.int .i64 pn)) := fun W hb => by
                  have hv := hcv.stays hb
                  exact ⟨hb, hv.cell 0 rfl, hv.cell 1 rfl, hv.cell 2 rfl, hv.cell 3 rfl, hv.cell 4 rfl, hv.cell 5 rfl, hv.cell 6 rfl, hv.cell 7 rfl, (later1 x3 hgl (hbA.trans (hb.mono hbA.size))), (later1 p0 hlb (hbA.trans (hb.mono hbA.size)))⟩
                have HC1 : Hid (∀ W, Below W1.heap.size W1 W → Calls _ _ _ W _) := fun W hb => HC.out W (hbA.trans (hb.mono hbA.size))
                have HB1 : Hid (Below wc.heap.size wc W1) := HBE.out.trans (hbA.mono HBE.out.size)
                have HW1 := Lib.hid hW1
                have HH := Lib.hid hh
                clear tD HI2 HC hW1 hh hbA hcv
                go_wp2_with fail
                have hW1 := HW1.out
                have hh := HH.out
                rw [← hW1, ← hh]
                clear hW1 hh HW1 HH c0 c1 c2 c3 c4 c5 c6 c7 x3 p0
                have hd0 : Below W1.heap.size W1 W1 := Below.refl _ _
                have hd1 : Below W1.heap.size W1 W1.drew := hd0.drew
                go_region_held3 (fun W => Below W1.heap.size W1 W ∧ W.cell? ⟨h, 0, none⟩ = some (.int .i64 num) ∧ W.cell? ⟨h, 1, none⟩ = some (.int .i64 k') ∧ W.cell? ⟨h, 2, none⟩ = some (.int .u64 (n' : Int)) ∧ W.cell? ⟨h, 3, none⟩ = some (.string (strB t')) ∧ W.cell? ⟨h, 4, none⟩ = some (.slice fa' fs'.length fc') ∧ W.cell? ⟨h, 5, none⟩ = some (.string (strB r')) ∧ W.cell? ⟨h, 6, none⟩ = some (.slice la' ls'.length lc') ∧ W.cell? ⟨h, 7, none⟩ = some (.slice pa' ps'.length pc') ∧ W.cell? ⟨g, 3, none⟩ = some (.slice (some ⟨b, o, none⟩) fs.length fc) ∧ W.cell? ⟨b, o + q * 8, none⟩ = some (.int .i64 pn))
                  (exact HS.out _ (by assumption))
                  ((first
                    | (go_at_call 66; (with_reducible refine (HC1.out _ (by assumption)).mono ?_); rintro e w6 ⟨rfl, hb6⟩; have hb7 := hd1.trans (hb6.mono hd1.size))))
                have hbe6 : Below wc.heap.size wc w6 := HB1.out.trans (hb7.mono HB1.out.size)
                clear HS HC1 HB1 hd0 hd1 hb6 hb7
                cases R with
                | true =>
                  have HN : Hid (rightF (lastN fs (q + 1 + 1)) (fs.drop (q + 1 + 1)) = rightF 0 fs) := by
                    have h9 := HI5.out
                    rw [Bool.true_and] at h9
                    show _ = _
                    rw [lastN_succ HQ.out]
                    exact h9
                  have HNL : Hid (0 ≤ lastN fs (q + 1 + 1)) := by show _ ≤ _; rw [lastN_succ HQ.out]; show 0 ≤ num; omega
                  go_wp2_with fail
                  go_roundw
                  case rel => exact ⟨q + 1 + 1, h1, by go_num, HN, HNL, hbe6⟩
                  case measure => simp only [intOf]; omega
                | false =>
                  have HF0 : Hid (false = rightV (.mk k n t fs r ls ps)) := by
                    have h9 := HI5.out
                    rw [Bool.false_and] at h9
                    show _ = _
                    rw [← HZ2.out, ← h9]; rfl
                  have HFB := Lib.hid ((HX.out w6 hbe6).2)
                  go_wp2_with fail
                  go_ret
                  exact ⟨congrArg (fun z => Ending.returned (Value.bool z)) HF0.out, HFB.out⟩
          · have HI2 : Hid (rightF 0 fs = true) := by show _ = _; rw [← HI.out, List.drop_of_length_le (by omega), rightF]
            have x5 := (HX.out wr hbe).1.cell 5 (v := .slice la ls.length lc) rfl
            have HZ3 : Hid ((rightL ls && rightP none ps) = rightV (.mk k n t fs r ls ps)) := by show _ = _; rw [← HZ2.out, HI2.out, Bool.true_and]
            clear HI HL0 hbx HI2
            go_wp2_with fail
            obtain ⟨wa, rfl⟩ : ∃ wx : World, wx = wr := ⟨_, rfl⟩
            go_loopw [119] (fun i wr => ∃ m : Nat, m ≤ ls.length ∧ i = .int .i64 m ∧ Hid (rightL (ls.drop m) = rightL ls) ∧ Below wc.heap.size wc wr) (fun i _ => ls.length - (intOf i).toNat)
            case atStart => exact ⟨0, Nat.zero_le _, rfl, rfl, hbe⟩
            case round =>
              clear hbe x5 h1 hm
              obtain ⟨m, hm, rfl, HI, hbe⟩ := hrel
              by_cases h1 : m < ls.length
              · obtain ⟨⟨k', n', t', fs', r', ls', ps'⟩, hq⟩ : ∃ p, ls[m]? = some p := ⟨_, List.getElem?_eq_getElem h1⟩
                obtain ⟨b, o, fa', la', pa', fc', lc', pc', rfl, hrx, c0, c1, c2, c3, c4, c5, c6⟩ := (HR.out wr hbe).partAt hq
                have hI := HI.out
                rw [drop_fields hq, rightL_cons] at hI
                replace hI : (singleK k' && rightV (.mk k' n' t' fs' r' ls' ps') && rightL (ls.drop (m + 1))) = rightL ls := hI
                have HC : Hid (∀ W, Below wr.heap.size wr W → Calls _ _ _ W _) := fun W hb => rsingle_lit (IHL.out _ (List.mem_of_getElem? hq)).1 (hrx.stays hb) (IHL.out _ (List.mem_of_getElem? hq)).2
                generalize (singleK k' && rightV (.mk k' n' t' fs' r' ls' ps')) = R at HC hI
                have HI2 := Lib.hid hI
                clear hI HI hrx hq
                go_wp2_with fail
                refine (HC.out _ ((Below.refl _ _).alloc (Nat.le_refl _) _)).mono ?_
                rintro e w2 ⟨rfl, hb2⟩
                have hbe2 : Below wc.heap.size wc w2 := (hbe.alloc hbe.size _).trans (hb2.mono (by have := hbe.size; simp; omega))
                clear HC hb2 c0 c1 c2 c3 c4 c5 c6
                cases R with
                | true =>
                  have HN : Hid (rightL (ls.drop (m + 1)) = rightL ls) := by have := HI2.out; rwa [Bool.true_and] at this
                  go_wp2_with fail
                  go_roundw
                  case rel => exact ⟨m + 1, h1, by go_num, HN, hbe2⟩
                  case measure => simp only [intOf]; omega
                | false =>
                  have HF0 : Hid (false = rightV (.mk k n t fs r ls ps)) := by
                    have h9 := HI2.out
                    rw [Bool.false_and] at h9
                    show _ = _
                    rw [← HZ3.out, ← h9]; rfl
                  have HFB := Lib.hid ((HX.out w2 hbe2).2)
                  go_wp2_with fail
                  go_ret
                  exact ⟨congrArg (fun z => Ending.returned (Value.bool z)) HF0.out, HFB.out⟩
              · have HI2 : Hid (rightL ls = true) := by show _ = _; rw [← HI.out, List.drop_of_length_le (by omega), rightL]
                have x6 := (HX.out wr hbe).1.cell 6 (v := .slice pa ps.length pc) rfl
                have HZ4 : Hid (rightP none ps = rightV (.mk k n t fs r ls ps)) := by show _ = _; rw [← HZ3.out, HI2.out, Bool.true_and]
                clear HI HI2
                go_wp2_with fail
                obtain ⟨wb, rfl⟩ : ∃ wx : World, wx = wr := ⟨_, rfl⟩
                go_loopw [130] (fun i wr => ∃ m : Nat, m ≤ ps.length ∧ i = .int .i64 m ∧ Hid (rightP (lastK ps m) (ps.drop m) = rightP none ps) ∧ Hid (∀ q p0 pq, q < m → ps[0]? = some p0 → ps[q]? = some pq → pq.1.k = p0.1.k) ∧ Below wc.heap.size wc wr) (fun i _ => ps.length - (intOf i).toNat)
                case atStart => exact ⟨0, Nat.zero_le _, rfl, by show _ = _; rw [lastK_zero]; rfl, fun q p0 pq h => by omega, hbe⟩
                case round =>
                  clear hbe x6 h1 hm
                  obtain ⟨m, hm, rfl, HI, HKK, hbe⟩ := hrel
                  by_cases h1 : m < ps.length
                  · obtain ⟨⟨⟨k', n', t', fs', r', ls', ps'⟩, ⟨k2, n2, t2, fs2, r2, ls2, ps2⟩⟩, hq⟩ : ∃ p, ps[m]? = some p := ⟨_, List.getElem?_eq_getElem h1⟩
                    obtain ⟨b, o, fa', la', pa', fc', lc', pc', fa2, la2, pa2, fc2, lc2, pc2, rfl, hrx, hry, c0, c1, c2, c3, c4, c5, c6, c7, c8, c9, c10, c11, c12, c13⟩ := (HR.out wr hbe).pairAt hq
                    have hlb : b < wr.heap.size := World.block_lt_of_cell? wr _ c0
                    have hI := HI.out
                    rw [drop_fields hq, rightP_cons] at hI
                    replace hI : (decide (k' ≤ 2) && singleK k' && rightV (.mk k' n' t' fs' r' ls' ps') && singleK k2 && rightV (.mk k2 n2 t2 fs2 r2 ls2 ps2) && risesB (lastK ps m) (.mk k' n' t' fs' r' ls' ps') && rightP (some (.mk k' n' t' fs' r' ls' ps')) (ps.drop (m + 1))) = rightP none ps := hI
                    have hI2 : (decide (k' ≤ 2) && (singleK k' && rightV (.mk k' n' t' fs' r' ls' ps')) && (singleK k2 && rightV (.mk k2 n2 t2 fs2 r2 ls2 ps2)) && risesB (lastK ps m) (.mk k' n' t' fs' r' ls' ps') && rightP (some (.mk k' n' t' fs' r' ls' ps')) (ps.drop (m + 1))) = rightP none ps := by rw [← hI]; simp only [Bool.and_assoc]
                    have HC : Hid (∀ W, Below wr.heap.size wr W → Calls _ _ _ W _) := fun W hb => rsingle_lit (IHP.out _ (List.mem_of_getElem? hq)).1.1 (hrx.stays hb) (IHP.out _ (List.mem_of_getElem? hq)).2.1
                    have HD : Hid (∀ W, Below wr.heap.size wr W → Calls _ _ _ W _) := fun W hb => rsingle_lit (IHP.out _ (List.mem_of_getElem? hq)).1.2 (hry.stays hb) (IHP.out _ (List.mem_of_getElem? hq)).2.2
                    have HBR : Hid (Below wr.heap.size wr (wr.alloc (.cells #[.int .i64 k', .int .u64 (n' : Int), .string (strB t'), .slice fa' fs'.length fc', .string (strB r'), .slice la' ls'.length lc', .slice pa' ps'.length pc', .int .i64 k2, .int .u64 (n2 : Int), .string (strB t2), .slice fa2 fs2.length fc2, .string (strB r2), .slice la2 ls2.length lc2, .slice pa2 ps2.length pc2] 94))) := (Below.refl _ _).alloc (Nat.le_refl _) _
                    have HBE : Hid (Below wc.heap.size wc wr) := hbe
                    have HQ := Lib.hid hq
                    have HRX : Hid (Rep S wr (.mk k' n' t' fs' r' ls' ps') ⟨fa', fc', la', lc', pa', pc'⟩) := hrx
                    generalize (singleK k' && rightV (.mk k' n' t' fs' r' ls' ps')) = R1 at HC hI2
                    generalize (singleK k2 && rightV (.mk k2 n2 t2 fs2 r2 ls2 ps2)) = R2 at HD hI2
                    have HI2 := Lib.hid hI2
                    clear hI hI2 HI hrx hry hq hbe
                    by_cases tk : 2 < k'
                    · have HF0 : Hid (false = rightV (.mk k n t fs r ls ps)) := by
                        have h9 := HI2.out
                        rw [decide_eq_false (by omega : ¬ k' ≤ 2)] at h9
                        show _ = _
                        rw [← HZ4.out, ← h9]; simp
                      have HFB : Hid (∀ o, Below w.heap.size w (wr.alloc o)) := fun o => (HX.out wr HBE.out).2.alloc (HX.out wr HBE.out).2.size o
                      clear HC HD HBR
                      go_wp2_with fail
                      go_ret
                      exact ⟨congrArg (fun z => Ending.returned (Value.bool z)) HF0.out, HFB.out _⟩
                    have HI3 : Hid ((R1 && R2 && risesB (lastK ps m) (.mk k' n' t' fs' r' ls' ps') && rightP (some (.mk k' n' t' fs' r' ls' ps')) (ps.drop (m + 1))) = rightP none ps) := by have h9 := HI2.out; rw [decide_eq_true (by omega : k' ≤ 2), Bool.true_and] at h9; exact h9
                    clear HI2
                    go_wp2_with fail
                    refine (HC.out _ HBR.out).mono ?_
                    rintro e w2 ⟨rfl, hb2⟩
                    have hbr2 : Below wr.heap.size wr w2 := HBR.out.trans (hb2.mono HBR.out.size)
                    have hcx2 := (CellsAt.new wr #[.int .i64 k', .int .u64 (n' : Int), .string (strB t'), .slice fa' fs'.length fc', .string (strB r'), .slice la' ls'.length lc', .slice pa' ps'.length pc', .int .i64 k2, .int .u64 (n2 : Int), .string (strB t2), .slice fa2 fs2.length fc2, .string (strB r2), .slice la2 ls2.length lc2, .slice pa2 ps2.length pc2] 94).stays hb2
                    have HCX2 := Lib.hid hcx2
                    have x7 := hcx2.cell 7 (v := .int .i64 k2) rfl
                    have x8 := hcx2.cell 8 (v := .int .u64 (n2 : Int)) rfl
                    have x9 := hcx2.cell 9 (v := .string (strB t2)) rfl
                    have x10 := hcx2.cell 10 (v := .slice fa2 fs2.length fc2) rfl
                    have x11 := hcx2.cell 11 (v := .string (strB r2)) rfl
                    have x12 := hcx2.cell 12 (v := .slice la2 ls2.length lc2) rfl
                    have x13 := hcx2.cell 13 (v := .slice pa2 ps2.length pc2) rfl
                    clear hb2 hcx2 HC c0 c1 c2 c3 c4 c5 c6 c7 c8 c9 c10 c11 c12 c13
                    cases R1 with
                    | false =>
                      have HF0 : Hid (false = rightV (.mk k n t fs r ls ps)) := by
                        have h9 := HI3.out
                        show _ = _
                        rw [← HZ4.out, ← h9]; simp
                      have HFB := Lib.hid ((HX.out w2 (HBE.out.trans (hbr2.mono HBE.out.size))).2)
                      go_wp2_with fail
                      go_ret
                      exact ⟨congrArg (fun z => Ending.returned (Value.bool z)) HF0.out, HFB.out⟩
                    | true =>
                      go_wp2_with fail
                      refine (HD.out _ hbr2).mono ?_
                      rintro e w3 ⟨rfl, hb3⟩
                      have hbr3 : Below wr.heap.size wr w3 := hbr2.trans (hb3.mono hbr2.size)
                      have hcx3 := HCX2.out.stays hb3
                      have HCX3 := Lib.hid hcx3
                      have HB9 : Hid (Below wc.heap.size wc w3) := HBE.out.trans (hbr3.mono HBE.out.size)
                      have HBR3 := Lib.hid hbr3
                      have hlt3 : b < w3.heap.size := Nat.lt_of_lt_of_le hlb hbr3.size
                      clear x7 x8 x9 x10 x11 x12 x13 hb3 hcx3 HCX2 HD hbr2 hbr3
                      cases R2 with
                      | false =>
                        have HF0 : Hid (false = rightV (.mk k n t fs r ls ps)) := by
                          have h9 := HI3.out
                          show _ = _
                          rw [← HZ4.out, ← h9]; simp
                        have HFB := Lib.hid ((HX.out w3 HB9.out).2)
                        go_wp2_with fail
                        go_ret
                        exact ⟨congrArg (fun z => Ending.returned (Value.bool z)) HF0.out, HFB.out⟩
                      | true =>
                        have HI4 : Hid ((risesB (lastK ps m) (.mk k' n' t' fs' r' ls' ps') && rightP (some (.mk k' n' t' fs' r' ls' ps')) (ps.drop (m + 1))) = rightP none ps) := by have h9 := HI3.out; rwa [Bool.true_and, Bool.true_and] at h9
                        clear HI3
                        obtain rfl | ⟨q, rfl⟩ : m = 0 ∨ ∃ q, m = q + 1 := by
                          cases m with
                          | zero => exact .inl rfl
                          | succ q => exact .inr ⟨q, rfl⟩
                        · have HN : Hid (rightP (lastK ps (0 + 1)) (ps.drop (0 + 1)) = rightP none ps) := by
                            show _ = _
                            rw [lastK_succ HQ.out, ← HI4.out, lastK_zero]
                            rfl
                          have HKN : Hid (∀ q p0 pq, q < 0 + 1 → ps[0]? = some p0 → ps[q]? = some pq → pq.1.k = p0.1.k) := fun q p0 pq h h0 hq => by
                            obtain rfl : q = 0 := by omega
                            rw [h0] at hq
                            cases hq
                            rfl
                          clear HI4 HKK
                          go_wp2_with fail
                          go_quiet (fail)
                          go_wp2_with fail
                          go_roundw
                          case rel => exact ⟨0 + 1, by omega, rfl, HN, HKN, below_drewV _ HB9.out⟩
                          case measure => simp only [intOf]; omega
                        · obtain ⟨⟨⟨k9, n9, t9, fs9, r9, ls9, ps9⟩, ⟨k8, n8, t8, fs8, r8, ls8, ps8⟩⟩, hq9⟩ : ∃ p, ps[q]? = some p := ⟨_, List.getElem?_eq_getElem (by omega)⟩
                          obtain ⟨b', o', fa9, la9, pa9, fc9, lc9, pc9, fa8, la8, pa8, fc8, lc8, pc8, hbo, hr9, hr8, e0, e1, e2, e3, e4, e5, e6, -⟩ := (HR.out wr HBE.out).pairAt hq9
                          cases hbo
                          obtain ⟨⟨⟨k7, n7, t7, fs7, r7, ls7, ps7⟩, ⟨k6, n6, t6, fs6, r6, ls6, ps6⟩⟩, hq7⟩ : ∃ p, ps[0]? = some p := ⟨_, List.getElem?_eq_getElem (by omega)⟩
                          obtain ⟨b', o', fa7, la7, pa7, fc7, lc7, pc7, fa6, la6, pa6, fc6, lc6, pc6, hbo, hr7, hr6, z0, -⟩ := (HR.out wr HBE.out).pairAt hq7
                          cases hbo
                          rw [Nat.zero_mul, Nat.add_zero] at z0
                          have hk97 : k9 = k7 := HKK.out q _ _ (by omega) hq7 hq9
                          have HQ7 := Lib.hid hq7
                          have HK9 : Hid (lastK ps (q + 1) = some (.mk k9 n9 t9 fs9 r9 ls9 ps9)) := lastK_succ hq9
                          have x6 := (HX.out w3 HB9.out).1.cell 6 (v := .slice (some ⟨b, o, none⟩) ps.length pc) rfl
                          have hgl : g < w3.heap.size := (HX.out w3 HB9.out).1.lt
                          have iz0 : (0 : Int) < (ps.length : Int) := by omega
                          have iz1 : 0 < ps.length := by omega
                          have iq0 : (0 : Int) ≤ (q : Int) := by omega
                          have iq1 : (q : Int) < (ps.length : Int) := by omega
                          have iq2 : q < ps.length := by omega
                          have iq3 : IntKind.i64.wrap ((q : Int) + 1 - 1) = (q : Int) := by rw [show (q : Int) + 1 - 1 = q by omega]; exact IntWalk.i64_in _ (by omega)
                          have iq4 : IntKind.i64.wrap (q : Int) = (q : Int) := IntWalk.i64_in _ (by omega)
                          subst hk97
                          by_cases hkk : k' = k9
                          · obtain rfl : k' = k9 := hkk
                            have HI5 : Hid ((decide (cmpV (.mk k' n9 t9 fs9 r9 ls9 ps9) (.mk k' n' t' fs' r' ls' ps') < 0) && rightP (some (.mk k' n' t' fs' r' ls' ps')) (ps.drop (q + 1 + 1))) = rightP none ps) := by
                              have h9 := HI4.out
                              rw [HK9.out] at h9
                              simp only [risesB, V.k, beq_self_eq_true, Bool.true_and] at h9
                              exact h9
                            have HN : Hid (rightP (lastK ps (q + 1 + 1)) (ps.drop (q + 1 + 1)) = rightP (some (.mk k' n' t' fs' r' ls' ps')) (ps.drop (q + 1 + 1))) := by
                              show _ = _
                              rw [lastK_succ HQ.out]
                            have HKN : Hid (∀ q' p0 pq, q' < q + 1 + 1 → ps[0]? = some p0 → ps[q']? = some pq → pq.1.k = p0.1.k) := fun q' p0 pq h h0 h' => by
                              by_cases hqq : q' < q + 1
                              · exact HKK.out q' p0 pq hqq h0 h'
                              · obtain rfl : q' = q + 1 := by omega
                                rw [HQ.out] at h'
                                rw [HQ7.out] at h0
                                cases h'
                                cases h0
                                rfl
                            have HCC : Hid (∀ W, Below w3.heap.size w3 W → Calls Tryz.prog 43 #[.agg #[.int .i64 k', .int .u64 (n9 : Int), .string (strB t9), .slice fa9 fs9.length fc9, .string (strB r9), .slice la9 ls9.length lc9, .slice pa9 ps9.length pc9], .agg #[.int .i64 k', .int .u64 (n' : Int), .string (strB t'), .slice fa' fs'.length fc', .string (strB r'), .slice la' ls'.length lc', .slice pa' ps'.length pc']] W fun e w' => e = .returned (.int .i64 (cmpV (.mk k' n9 t9 fs9 r9 ls9 ps9) (.mk k' n' t' fs' r' ls' ps'))) ∧ Below W.heap.size W w') := fun W hb => RCmpC.lit (rcompare_any _) (hr9.stays (HBR3.out.trans (hb.mono HBR3.out.size))) (HRX.out.stays (HBR3.out.trans (hb.mono HBR3.out.size)))
                            generalize cmpV (.mk k' n9 t9 fs9 r9 ls9 ps9) (.mk k' n' t' fs' r' ls' ps') = C at HCC HI5
                            have hkq : (k' != k') = false := by simp
                            have x0 := later1 e0 hlb HBR3.out
                            have x1 := later1 e1 hlb HBR3.out
                            have x2 := later1 e2 hlb HBR3.out
                            have x3 := later1 e3 hlb HBR3.out
                            have x4 := later1 e4 hlb HBR3.out
                            have x5 := later1 e5 hlb HBR3.out
                            have x7 := later1 e6 hlb HBR3.out
                            have xz := later1 z0 hlb HBR3.out
                            obtain ⟨gp, hg⟩ : ∃ gp, gp = wr.heap.size := ⟨_, rfl⟩
                            have HS : Hid (∀ W, Below w3.heap.size w3 W → Below w3.heap.size w3 W ∧ W.cell? ⟨g, 6, none⟩ = some (.slice (some ⟨b, o, none⟩) ps.length pc) ∧ W.cell? ⟨b, o, none⟩ = some (.int .i64 k') ∧ W.cell? ⟨gp, 0, none⟩ = some (.int .i64 k') ∧ W.cell? ⟨gp, 1, none⟩ = some (.int .u64 (n' : Int)) ∧ W.cell? ⟨gp, 2, none⟩ = some (.string (strB t')) ∧ W.cell? ⟨gp, 3, none⟩ = some (.slice fa' fs'.length fc') ∧ W.cell? ⟨gp, 4, none⟩ = some (.string (strB r')) ∧ W.cell? ⟨gp, 5, none⟩ = some (.slice la' ls'.length lc') ∧ W.cell? ⟨gp, 6, none⟩ = some (.slice pa' ps'.length pc') ∧ W.cell? ⟨b, o + q * 14, none⟩ = some (.int .i64 k') ∧ W.cell? ⟨b, o + q * 14 + 1, none⟩ = some (.int .u64 (n9 : Int)) ∧ W.cell? ⟨b, o + q * 14 + 2, none⟩ = some (.string (strB t9)) ∧ W.cell? ⟨b, o + q * 14 + 3, none⟩ = some (.slice fa9 fs9.length fc9) ∧ W.cell? ⟨b, o + q * 14 + 4, none⟩ = some (.string (strB r9)) ∧ W.cell? ⟨b, o + q * 14 + 5, none⟩ = some (.slice la9 ls9.length lc9) ∧ W.cell? ⟨b, o + q * 14 + 6, none⟩ = some (.slice pa9 ps9.length pc9)) := fun W hb => by
                              have h1 := HCX3.out.stays hb
                              rw [← hg] at h1
                              exact ⟨hb, later1 x6 hgl hb, later1 xz hlt3 hb, h1.cell 0 rfl, h1.cell 1 rfl, h1.cell 2 rfl, h1.cell 3 rfl, h1.cell 4 rfl, h1.cell 5 rfl, h1.cell 6 rfl, later1 x0 hlt3 hb, later1 x1 hlt3 hb, later1 x2 hlt3 hb, later1 x3 hlt3 hb, later1 x4 hlt3 hb, later1 x5 hlt3 hb, later1 x7 hlt3 hb⟩
                            have HGG := Lib.hid hg
                            clear hg e0 e1 e2 e3 e4 e5 e6 z0 x0 x1 x2 x3 x4 x5 x6 x7 xz hq9 hr9 hr8 hr7 hr6 hq7 HK9 HI4 HCX3 HKK
                            go_wp2_with fail
                            have hg := HGG.out
                            rw [← hg]
                            clear hg HGG
                            have hd0 : Below w3.heap.size w3 w3 := Below.refl _ _
                            have hd1 : Below w3.heap.size w3 w3.drew := hd0.drew
                            go_region_held3 (fun W => Below w3.heap.size w3 W ∧ W.cell? ⟨g, 6, none⟩ = some (.slice (some ⟨b, o, none⟩) ps.length pc) ∧ W.cell? ⟨b, o, none⟩ = some (.int .i64 k') ∧ W.cell? ⟨gp, 0, none⟩ = some (.int .i64 k') ∧ W.cell? ⟨gp, 1, none⟩ = some (.int .u64 (n' : Int)) ∧ W.cell? ⟨gp, 2, none⟩ = some (.string (strB t')) ∧ W.cell? ⟨gp, 3, none⟩ = some (.slice fa' fs'.length fc') ∧ W.cell? ⟨gp, 4, none⟩ = some (.string (strB r')) ∧ W.cell? ⟨gp, 5, none⟩ = some (.slice la' ls'.length lc') ∧ W.cell? ⟨gp, 6, none⟩ = some (.slice pa' ps'.length pc') ∧ W.cell? ⟨b, o + q * 14, none⟩ = some (.int .i64 k') ∧ W.cell? ⟨b, o + q * 14 + 1, none⟩ = some (.int .u64 (n9 : Int)) ∧ W.cell? ⟨b, o + q * 14 + 2, none⟩ = some (.string (strB t9)) ∧ W.cell? ⟨b, o + q * 14 + 3, none⟩ = some (.slice fa9 fs9.length fc9) ∧ W.cell? ⟨b, o + q * 14 + 4, none⟩ = some (.string (strB r9)) ∧ W.cell? ⟨b, o + q * 14 + 5, none⟩ = some (.slice la9 ls9.length lc9) ∧ W.cell? ⟨b, o + q * 14 + 6, none⟩ = some (.slice pa9 ps9.length pc9))
                              (exact HS.out _ (by assumption))
                              ((first
                                | (go_at_call 43; (with_reducible refine (HCC.out _ (by assumption)).mono ?_); rintro e w6 ⟨rfl, hb6⟩; have hb7 := hd1.trans (hb6.mono hd1.size))))
                            have hbe6 : Below wc.heap.size wc w6 := HB9.out.trans (hb7.mono HB9.out.size)
                            clear HS HCC hd0 hd1 hb6 hb7 iq0 iq1 iq2 iq3 iq4
                            by_cases hC : C < 0
                            · have HI6 : Hid (rightP (lastK ps (q + 1 + 1)) (ps.drop (q + 1 + 1)) = rightP none ps) := by have h9 := HI5.out; rw [decide_eq_true hC, Bool.true_and] at h9; exact HN.out.trans h9
                              go_wp2_with fail
                              go_roundw
                              case rel => exact ⟨q + 1 + 1, h1, by go_num, HI6, HKN, hbe6⟩
                              case measure => simp only [intOf]; omega
                            · have HF0 : Hid (false = rightV (.mk k n t fs r ls ps)) := by
                                have h9 := HI5.out
                                rw [decide_eq_false hC, Bool.false_and] at h9
                                show _ = _
                                rw [← HZ4.out, ← h9]
                              have HFB := Lib.hid ((HX.out w6 hbe6).2)
                              go_wp2_with fail
                              go_ret
                              exact ⟨congrArg (fun z => Ending.returned (Value.bool z)) HF0.out, HFB.out⟩
                          · have t9 : (k9 != k') = true := by simpa using fun h => hkk (Eq.symm h)
                            have HF0 : Hid (false = rightV (.mk k n t fs r ls ps)) := by
                              have h9 := HI4.out
                              rw [HK9.out] at h9
                              simp only [risesB, V.k, show (k9 == k') = false by simpa using fun h => hkk (Eq.symm h), Bool.false_and] at h9
                              show _ = _
                              rw [← HZ4.out, ← h9]
                            have HFB : Hid (∀ n, Below w.heap.size w (w3.drewN n)) := fun n => below_drewV _ (HX.out w3 HB9.out).2
                            have x0 := later1 z0 hlb HBR3.out
                            have y0 := HCX3.out.cell 0 (v := .int .i64 k') rfl
                            clear hkk e0 e1 e2 e3 e4 e5 e6 z0 hq9 hr9 hr8 hr7 hr6 hq7 HK9 HI4 HCX3 HKK
                            go_wp2_with fail
                            go_quiet (fail)
                            go_wp2_with fail
                            go_ret
                            exact ⟨congrArg (fun z => Ending.returned (Value.bool z)) HF0.out, HFB.out _⟩
                  · have HF0 : Hid (true = rightV (.mk k n t fs r ls ps)) := by
                      show _ = _
                      rw [← HZ4.out, ← HI.out, List.drop_of_length_le (by omega), rightP]
                    have HFB := Lib.hid ((HX.out wr hbe).2)
                    clear HI HKK
                    go_wp2_with fail
                    go_ret
                    exact ⟨congrArg (fun z => Ending.returned (Value.bool z)) HF0.out, HFB.out⟩
end Go.Proofs.YtcjflglpkpkflaaGreatDoor
