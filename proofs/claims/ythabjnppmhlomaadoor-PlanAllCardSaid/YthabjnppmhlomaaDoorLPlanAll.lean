/- The law PlanAll: for every input the call returns true and its arguments read behind it as before: the card, over what the package-level errors hold by the program's text. -/
import Derived.Test.YthabjnppmhlomaaDoorCards
import Derived.Test.YthabjnppmhlomaaDoorTie
import Derived.ProofKit
import Derived.OpenShut
import Derived.ChangeOld
import Derived.ShutString
import Derived.LaidMore
import Derived.LaidHandle
import Derived.LaidLaws
import Derived.Stop.LaidErr
import Derived.Stop.LaidTwo
import Derived.SevenTiedAt
import Derived.Lib.SmallJoins
import Derived.Deep.DeepHandedRow
import Derived.Deep.DeepWitnessRowRef
import Derived.Test.YthabjnppmhlomaaDoorWPlanAll
namespace Go.Proofs.YthabjnppmhlomaaDoor.planAll
open Go Go.ChangeShapes Go.WideShapes Go.ChangeAt Go.RowKit
open Go.ChangeMaps (open_string shut_string)
set_option linter.unusedVariables false
theorem own : ownKnob Tryd.prog.godebug = none := by kernel_rfl
theorem laidOut : laidOutB Tryd.prog = true := by kernel_rfl
theorem star : "*" ++ "errors.errorString" = "*errors.errorString" := by decide
theorem rowE (u : TypeId) (h : Tryd.prog.typeName? 3 u = some "*errors.errorString") : u = 130 :=
  typeName_ptr_named (nm := "errors.errorString") (by rw [star]; kernel_rfl) (by kernel_rfl) (by decide) u (by rw [star]; exact h)
theorem cellsE : Tryd.prog.cellsOf 154 = 1 := by kernel_rfl
theorem cellsS : Tryd.prog.cellsOf 9 = 1 := by kernel_rfl
theorem errOf {n : String} {text : List UInt8} {r : List (String × DataW Unit)} {W : World} {g : Nat}
    (h : laidMet Tryd.prog ((n, .iface "*errors.errorString" (.ptr (.agg [.lit (.string text)]))) :: r) W) (hg : Tryd.prog.globalNamed n = some g) (ht : (Tryd.prog.globals[g]?).map (·.type) = some 27) :
    ∃ a : Addr, ErrAt W g a ∧ ∃ s : ByteArray, W.cell? a = some (.string s) ∧ s.data.toList = text := by
  obtain ⟨a, s, h1, h2, h3, _⟩ := laid_sentinel (ti := 27) (tp := 130) (te := 154) (ts := 9) h hg ht Tryd.underlying27 rowE Tryd.underlying130 Tryd.underlying154 rfl rfl Tryd.underlying9 cellsE cellsS
  exact ⟨a, by simpa [ErrAt] using World.var?_cell hg h1 0, s, h2, h3⟩
theorem errOf2 {n0 n1 : String} {t0 t1 : List UInt8} {r : List (String × DataW Unit)} {W : World} {g0 g1 : Nat}
    (h : laidMet Tryd.prog ((n0, .iface "*errors.errorString" (.ptr (.agg [.lit (.string t0)]))) :: (n1, .iface "*errors.errorString" (.ptr (.agg [.lit (.string t1)]))) :: r) W) (hg0 : Tryd.prog.globalNamed n0 = some g0) (ht0 : (Tryd.prog.globals[g0]?).map (·.type) = some 27) (hg1 : Tryd.prog.globalNamed n1 = some g1) (ht1 : (Tryd.prog.globals[g1]?).map (·.type) = some 27) :
    (∃ a : Addr, ErrAt W g0 a ∧ ∃ (s : ByteArray) (c : Array Value) (t : TypeId), W.cell? a = some (.string s) ∧ s.data.toList = t0 ∧ W.heap[a.block]? = some (.cells c t (0, 0))) ∧
    (∃ a : Addr, ErrAt W g1 a ∧ ∃ (s : ByteArray) (c : Array Value) (t : TypeId), W.cell? a = some (.string s) ∧ s.data.toList = t1 ∧ W.heap[a.block]? = some (.cells c t (0, 0))) := by
  obtain ⟨a0, a1, s0, s1, c0, c1, u0, u1, hv0, hv1, hc0, hs0, _, hc1, hs1, _, _, hb0, hb1⟩ := laid_sentinels2 (ti := 27) (tp := 130) (te := 154) (ts := 9) h hg0 ht0 hg1 ht1 Tryd.underlying27 rowE Tryd.underlying130 Tryd.underlying154 rfl rfl Tryd.underlying9 cellsE cellsS
  exact ⟨⟨a0, by simpa [ErrAt] using World.var?_cell hg0 hv0 0, s0, c0, u0, hc0, hs0, hb0⟩, ⟨a1, by simpa [ErrAt] using World.var?_cell hg1 hv1 0, s1, c1, u1, hc1, hs1, hb1⟩⟩
theorem errs {W : World} (h : laidMetH Tryd.prog Rows.planAllRow.laid W) : ∃ ea : Nat → Addr, ErrsAll ea W := by
  have q0 : laidMet Tryd.prog Rows.planAllRow.laid W := h
  have q1 := q0.tail
  have q2 := q1.tail
  have q3 := q2.tail
  have q4 := q3.tail
  have q5 := q4.tail
  have q6 := q5.tail
  have q7 := q6.tail
  have q8 := q7.tail
  have q9 := q8.tail
  have q10 := q9.tail
  have q11 := q10.tail
  have q12 := q11.tail
  have q13 := q12.tail
  have q14 := q13.tail
  have q15 := q14.tail
  have q16 := q15.tail
  have q17 := q16.tail
  obtain ⟨⟨a0, e0, t0⟩, ⟨a1, e1, t1⟩⟩ := errOf2 q0 (by kernel_rfl) (by kernel_rfl) (by kernel_rfl) (by kernel_rfl)
  obtain ⟨⟨a2, e2, t2⟩, ⟨a3, e3, t3⟩⟩ := errOf2 q2 (by kernel_rfl) (by kernel_rfl) (by kernel_rfl) (by kernel_rfl)
  obtain ⟨⟨a4, e4, t4⟩, ⟨a5, e5, t5⟩⟩ := errOf2 q4 (by kernel_rfl) (by kernel_rfl) (by kernel_rfl) (by kernel_rfl)
  obtain ⟨⟨a6, e6, t6⟩, ⟨a7, e7, t7⟩⟩ := errOf2 q6 (by kernel_rfl) (by kernel_rfl) (by kernel_rfl) (by kernel_rfl)
  obtain ⟨⟨a8, e8, t8⟩, ⟨a9, e9, t9⟩⟩ := errOf2 q8 (by kernel_rfl) (by kernel_rfl) (by kernel_rfl) (by kernel_rfl)
  obtain ⟨⟨a10, e10, t10⟩, ⟨a11, e11, t11⟩⟩ := errOf2 q10 (by kernel_rfl) (by kernel_rfl) (by kernel_rfl) (by kernel_rfl)
  obtain ⟨⟨a12, e12, t12⟩, ⟨a13, e13, t13⟩⟩ := errOf2 q12 (by kernel_rfl) (by kernel_rfl) (by kernel_rfl) (by kernel_rfl)
  obtain ⟨⟨a14, e14, t14⟩, ⟨a15, e15, t15⟩⟩ := errOf2 q14 (by kernel_rfl) (by kernel_rfl) (by kernel_rfl) (by kernel_rfl)
  obtain ⟨⟨a16, e16, t16⟩, ⟨a17, e17, t17⟩⟩ := errOf2 q16 (by kernel_rfl) (by kernel_rfl) (by kernel_rfl) (by kernel_rfl)
  obtain ⟨_, ⟨a18, e18, t18⟩⟩ := errOf2 (g0 := 17) q17 (by kernel_rfl) (by kernel_rfl) (by kernel_rfl) (by kernel_rfl)
  exact ⟨fun k => match k with | 1 => a0 | 2 => a1 | 3 => a2 | 4 => a3 | 5 => a4 | 6 => a5 | 7 => a6 | 8 => a7 | 9 => a8 | 10 => a9 | 11 => a10 | 12 => a11 | 13 => a12 | 14 => a13 | 15 => a14 | 16 => a15 | 17 => a16 | 18 => a17 | 19 => a18 | _ => a0, errsAll e0 t0 e1 t1 e2 t2 e3 t3 e4 t4 e5 t5 e6 t6 e7 t7 e8 t8 e9 t9 e10 t10 e11 t11 e12 t12 e13 t13 e14 t14 e15 t15 e16 t16 e17 t17 e18 t18⟩
theorem door_met (os : Os) (args : Array Value) : laidMetH Tryd.prog Rows.planAllRow.laid ((World.doorLaid Tryd.prog 370 os).forCall (fun _ _ => 0) ⟨#[], args, []⟩).memory :=
  laidMetH_of_parts3 (fuel := 8) (laidMet_of_run' 8 (by kernel_rfl) (by kernel_rfl)) (by kernel_rfl) (by kernel_rfl)
theorem reads (os : Os) {H : Type} (enc : TypeId × Value → H) : ∃ places, DataW.whole enc Tryd.prog ((World.doorLaid Tryd.prog 370 os).forCall (fun _ _ => 0) ⟨#[], #[.slice none 0 0, .int .i64 0], []⟩).memory Tryd.f5.params.toList Rows.planAllSpec.vars false #[Value.slice none 0 0, Value.int .i64 0].toList 8 = some ([.nil, .lit (.int .i64 0)], [], places) :=
  ⟨[], by kernel_rfl⟩

set_option maxRecDepth 100000 in
theorem lifted (os : Os) (started : os.Started) (H : Type) (enc : TypeId × Value → H) (F : Stop.Interp) :
    ReturnsInHanded {} Tryd.checked os 5 .any ((OpenSpec.ofChange Rows.planAllSpec).preRow enc Tryd.prog Tryd.f5 Rows.planAllRow.domain false Rows.planAllRow.laid) (((OpenSpec.ofChange Rows.planAllSpec).at F).post enc Tryd.prog Tryd.f5 false true false false) := by
  obtain ⟨places, hx⟩ := reads os enc
  refine returnsInHanded_of_row (C := Tryd.checked) (s := OpenSpec.ofChange Rows.planAllSpec) own started (by kernel_rfl) Tryd.func5
    (witness_row_atRef (enc := enc) (C := Tryd.checked) false (World.doorLaid Tryd.prog 370 os) #[.slice none 0 0, .int .i64 0] rfl (by kernel_rfl) (by kernel_rfl) (by kernel_rfl)
      (OpenSpec.preRow_of_cond 8 hx (by kernel_rfl) (fun k hk => by cases hk) (by kernel_rfl) (door_met os _))) ?_
  intro W base args ds gs before hval hW _ _ hR hL _ _
  have hW' := hW
  obtain ⟨p, q, hA0, hV, rfl, hfz, hnd⟩ := hW
  have hA : DataW.TrodAll enc Tryd.prog W 0 (fun _ => true) true Tryd.f5.params.toList args.toList ds p := hA0
  rw [Tryd.params5] at hA hval hR
  obtain ⟨v0, vs0, d0, ds0, p0, q0, hargs, rfl, rfl, h0, r0⟩ := trodAll_cons hA
  obtain ⟨v1, vs1, d1, ds1, p1, q1, rfl, rfl, rfl, h1, r1⟩ := trodAll_cons r0
  obtain ⟨rfl, rfl, rfl⟩ := trodAll_nil r1
  obtain rfl : args = #[v0, v1] := by cases args; simp_all
  obtain ⟨rfl, rfl⟩ := trodVars_none hV
  obtain ⟨a0, len0, cap0, rfl⟩ := okWide_slice Tryd.underlying22 (hval 0 22 v0 rfl rfl)
  have k0 := h0
  have lt0 : ∀ x ∈ p0, x.block < W.heap.size := by obtain ⟨m, hm⟩ := k0; exact DataW.trod_lt m _ _ _ hm
  obtain ⟨x0, xl0, rr0, xb0⟩ := open_sliceS (cs := eC) (good := eG) Tryd.underlying22 (by kernel_rfl) (by decide) eC_len (fun n cs' y h => e_dec n cs' y h) h0
  obtain ⟨x1, rfl, rfl, rfl, w1⟩ := open_int Tryd.underlying3 (hval 1 3 v1 rfl rfl) h1
  have bd1 := bounds_i64 w1
  clear hA0
  obtain ⟨ea, he⟩ := errs hL
  refine (walkPlanAll W _ x0 rr0 xb0 x1 bd1 ea he).mono fun e W' ⟨he', bel⟩ => ?_
  subst he'
  exact ⟨_, rfl, _, _, _, [], _, [], hW', trodAll_mk1 (shut_bool Tryd.underlying4 _), (trodAll_cons_mk (Below.trod laidOut (by kernel_rfl) (of_decide_eq_true (by kernel_rfl)) k0 bel lt0) (trodAll_cons_mk (shut_int Tryd.underlying3 w1) (trodAll_mk0))), rfl, bel.frame _, fun h => by cases h⟩

theorem said : Rows.PlanAllSaid :=
  OpenClaim.holds_of_cond 5 Tryd.f5 rfl rfl rfl rfl rfl rfl rfl ⟨rfl, rfl, rfl, rfl, rfl⟩ rfl rfl rfl rfl rfl (by kernel_rfl) Tryd.func5 (by kernel_rfl)
    (of_decide_eq_true (by kernel_rfl)) (by unfold Func.isWrapper; first | (rw [if_pos (by decide +kernel)]; kernel_rfl) | (rw [if_neg (by decide +kernel)]; exact ⟨rfl, rfl⟩))
    (fun os started H enc _ F => by rw [OpenClaim.pre_eq_preRow]; exact lifted os started H enc F)

theorem plain (f : FuncId) (fn : Func) (hf : Tryd.pinned.checked.prog.funcNamed "redline/redlinelaw35.PlanAll" = some f) (hfn : Tryd.pinned.checked.prog.funcs[f]? = some fn) :
    true = Tryd.pinned.checked.prog.looks [] ∧ ∀ (j : Nat) t, fn.params[j]? = some t → Tryd.pinned.checked.prog.wantsStandIn t = false := by
  obtain rfl : f = 5 := Option.some.inj ((show Tryd.prog.funcNamed "redline/redlinelaw35.PlanAll" = some 5 by kernel_rfl).symm.trans hf) |>.symm
  obtain rfl : fn = Tryd.f5 := (Option.some.inj (Tryd.func5.symm.trans hfn)).symm
  refine ⟨by kernel_rfl, fun j t ht => ?_⟩
  have hall : (Tryd.f5.params.all fun t => !Tryd.prog.wantsStandIn t) = true := by kernel_rfl
  have hone := Array.all_eq_true'.1 hall t (Array.mem_of_getElem? ht)
  have hz : Tryd.prog.wantsStandIn t = false := by simpa using hone
  exact hz

theorem card : Rows.PlanAllCardSaid :=
  Claim7.holds_tied_plain_at .later [] _ _ _ _ said (fun _ h => by cases h) (by kernel_rfl) (fun _ h => by cases h) planAll_row_tie rfl ⟨rfl, rfl⟩ (by kernel_rfl) rfl plain (by kernel_rfl)

end Go.Proofs.YthabjnppmhlomaaDoor.planAll
