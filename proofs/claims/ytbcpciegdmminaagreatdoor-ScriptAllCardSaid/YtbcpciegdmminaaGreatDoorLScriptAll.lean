/- The law ScriptAll: for every input the call returns true and its arguments read behind it as before: the card, over what the package-level errors hold by the program's text. -/
import Derived.Test.YtbcpciegdmminaaGreatDoorCards
import Derived.Test.YtbcpciegdmminaaGreatDoorTie
import Derived.ProofKit
import Derived.OpenShut
import Derived.ChangeOld
import Derived.ShutString
import Derived.LaidMore
import Derived.LaidHandle
import Derived.LaidLaws
import Derived.Stop.LaidErr
import Derived.Stop.LaidTwo
import Derived.SevenTiedAt
import Derived.Lib.SmallJoins
import Derived.Deep.DeepHandedRow
import Derived.Deep.DeepWitnessRowRef
import Derived.Test.YtbcpciegdmminaaGreatDoorWScriptAll
namespace Go.Proofs.YtbcpciegdmminaaGreatDoor.scriptAll
open Go Go.ChangeShapes Go.WideShapes Go.ChangeAt Go.RowKit
open Go.ChangeMaps (open_string shut_string)
set_option linter.unusedVariables false
theorem own : ownKnob Tryz.prog.godebug = none := by kernel_rfl
theorem laidOut : laidOutB Tryz.prog = true := by kernel_rfl
theorem star : "*" ++ "errors.errorString" = "*errors.errorString" := by decide
theorem rowE (u : TypeId) (h : Tryz.prog.typeName? 3 u = some "*errors.errorString") : u = 157 :=
  typeName_ptr_named (nm := "errors.errorString") (by rw [star]; kernel_rfl) (by kernel_rfl) (by decide) u (by rw [star]; exact h)
theorem cellsE : Tryz.prog.cellsOf 159 = 1 := by kernel_rfl
theorem cellsS : Tryz.prog.cellsOf 9 = 1 := by kernel_rfl
theorem errOf {n : String} {text : List UInt8} {r : List (String × DataW Unit)} {W : World} {g : Nat}
    (h : laidMet Tryz.prog ((n, .iface "*errors.errorString" (.ptr (.agg [.lit (.string text)]))) :: r) W) (hg : Tryz.prog.globalNamed n = some g) (ht : (Tryz.prog.globals[g]?).map (·.type) = some 43) :
    ∃ a : Addr, ErrAt W g a ∧ ∃ s : ByteArray, W.cell? a = some (.string s) ∧ s.data.toList = text := by
  obtain ⟨a, s, h1, h2, h3, _⟩ := laid_sentinel (ti := 43) (tp := 157) (te := 159) (ts := 9) h hg ht Tryz.underlying43 rowE Tryz.underlying157 Tryz.underlying159 rfl rfl Tryz.underlying9 cellsE cellsS
  exact ⟨a, by simpa [ErrAt] using World.var?_cell hg h1 0, s, h2, h3⟩
theorem facts {W : World} (h : laidMetH Tryz.prog Rows.scriptAllRow.laid W) (hs : W.ShapedOpen Tryz.prog) : ∃ aS aR aF : Addr, VarsP aS aR aF W ∧ PowAt W := by
  have q0 : laidMet Tryz.prog Rows.scriptAllRow.laid W := h
  have q1 := q0.tail
  have q2 := q1.tail
  have q3 := q2.tail
  have q4 := q3.tail
  have q5 := q4.tail
  have q6 := q5.tail
  have q7 := q6.tail
  have q8 := q7.tail
  have q9 := q8.tail
  have q10 := q9.tail
  have q11 := q10.tail
  have q12 := q11.tail
  have q13 := q12.tail
  have q14 := q13.tail
  have q15 := q14.tail
  have q16 := q15.tail
  have q17 := q16.tail
  have q18 := q17.tail
  have q19 := q18.tail
  have q20 := q19.tail
  have q21 := q20.tail
  have q22 := q21.tail
  have q23 := q22.tail
  have q24 := q23.tail
  have q25 := q24.tail
  have q26 := q25.tail
  obtain ⟨aF, eF, -⟩ := errOf (g := 1) q12 (by kernel_rfl) (by kernel_rfl)
  obtain ⟨aR, eR, -⟩ := errOf (g := 24) q23 (by kernel_rfl) (by kernel_rfl)
  obtain ⟨aS, eS, -⟩ := errOf (g := 23) q24 (by kernel_rfl) (by kernel_rfl)
  have hw : WordsAt W := words_of_head (t := 69) (e := 9) (by kernel_rfl) (by kernel_rfl) Tryz.underlying69 Tryz.underlying9 (by kernel_rfl) (by kernel_rfl) q25
  have hp : PowAt W := Lib.tabIs_of_head (g := 25) (t := 154) (e := 111) (n := 20) (k := .u64) (zs := Lib.pow10Tab) (by kernel_rfl) (by kernel_rfl) Tryz.underlying154 Tryz.underlying111 (by kernel_rfl) (by kernel_rfl) q2
  have hm := cell_of_shapedOpen_int (P := Tryz.prog) (g := 20) (t := 3) (zero := #[.int .i64 0]) hs (of_decide_eq_true (by kernel_rfl)) (by kernel_rfl) rfl (by kernel_rfl) (by kernel_rfl) Tryz.underlying3
  exact ⟨aS, aR, aF, ⟨⟨eS, eR, hm⟩, hw, eF⟩, hp⟩
theorem errOf2 {n0 n1 : String} {t0 t1 : List UInt8} {r : List (String × DataW Unit)} {W : World} {g0 g1 : Nat}
    (h : laidMet Tryz.prog ((n0, .iface "*errors.errorString" (.ptr (.agg [.lit (.string t0)]))) :: (n1, .iface "*errors.errorString" (.ptr (.agg [.lit (.string t1)]))) :: r) W) (hg0 : Tryz.prog.globalNamed n0 = some g0) (ht0 : (Tryz.prog.globals[g0]?).map (·.type) = some 43) (hg1 : Tryz.prog.globalNamed n1 = some g1) (ht1 : (Tryz.prog.globals[g1]?).map (·.type) = some 43) :
    (∃ a : Addr, ErrAt W g0 a ∧ ∃ (s : ByteArray) (c : Array Value) (t : TypeId), W.cell? a = some (.string s) ∧ s.data.toList = t0 ∧ W.heap[a.block]? = some (.cells c t (0, 0))) ∧
    (∃ a : Addr, ErrAt W g1 a ∧ ∃ (s : ByteArray) (c : Array Value) (t : TypeId), W.cell? a = some (.string s) ∧ s.data.toList = t1 ∧ W.heap[a.block]? = some (.cells c t (0, 0))) := by
  obtain ⟨a0, a1, s0, s1, c0, c1, u0, u1, hv0, hv1, hc0, hs0, _, hc1, hs1, _, _, hb0, hb1⟩ := laid_sentinels2 (ti := 43) (tp := 157) (te := 159) (ts := 9) h hg0 ht0 hg1 ht1 Tryz.underlying43 rowE Tryz.underlying157 Tryz.underlying159 rfl rfl Tryz.underlying9 cellsE cellsS
  exact ⟨⟨a0, by simpa [ErrAt] using World.var?_cell hg0 hv0 0, s0, c0, u0, hc0, hs0, hb0⟩, ⟨a1, by simpa [ErrAt] using World.var?_cell hg1 hv1 0, s1, c1, u1, hc1, hs1, hb1⟩⟩
theorem errs {W : World} (h : laidMetH Tryz.prog Rows.scriptAllRow.laid W) : ∃ ea : Nat → Addr, ErrsAll ea W := by
  have q0 : laidMet Tryz.prog Rows.scriptAllRow.laid W := h
  have q1 := q0.tail
  have q2 := q1.tail
  have q3 := q2.tail
  have q4 := q3.tail
  have q5 := q4.tail
  have q6 := q5.tail
  have q7 := q6.tail
  have q8 := q7.tail
  have q9 := q8.tail
  have q10 := q9.tail
  have q11 := q10.tail
  have q12 := q11.tail
  have q13 := q12.tail
  have q14 := q13.tail
  have q15 := q14.tail
  have q16 := q15.tail
  have q17 := q16.tail
  have q18 := q17.tail
  have q19 := q18.tail
  have q20 := q19.tail
  have q21 := q20.tail
  obtain ⟨⟨a0, e0, t0⟩, ⟨a1, e1, t1⟩⟩ := errOf2 q4 (by kernel_rfl) (by kernel_rfl) (by kernel_rfl) (by kernel_rfl)
  obtain ⟨⟨a2, e2, t2⟩, ⟨a3, e3, t3⟩⟩ := errOf2 q6 (by kernel_rfl) (by kernel_rfl) (by kernel_rfl) (by kernel_rfl)
  obtain ⟨⟨a4, e4, t4⟩, ⟨a5, e5, t5⟩⟩ := errOf2 q8 (by kernel_rfl) (by kernel_rfl) (by kernel_rfl) (by kernel_rfl)
  obtain ⟨⟨a6, e6, t6⟩, ⟨a7, e7, t7⟩⟩ := errOf2 q10 (by kernel_rfl) (by kernel_rfl) (by kernel_rfl) (by kernel_rfl)
  obtain ⟨⟨a8, e8, t8⟩, ⟨a9, e9, t9⟩⟩ := errOf2 q12 (by kernel_rfl) (by kernel_rfl) (by kernel_rfl) (by kernel_rfl)
  obtain ⟨⟨a10, e10, t10⟩, ⟨a11, e11, t11⟩⟩ := errOf2 q14 (by kernel_rfl) (by kernel_rfl) (by kernel_rfl) (by kernel_rfl)
  obtain ⟨⟨a12, e12, t12⟩, ⟨a13, e13, t13⟩⟩ := errOf2 q16 (by kernel_rfl) (by kernel_rfl) (by kernel_rfl) (by kernel_rfl)
  obtain ⟨⟨a14, e14, t14⟩, ⟨a15, e15, t15⟩⟩ := errOf2 q18 (by kernel_rfl) (by kernel_rfl) (by kernel_rfl) (by kernel_rfl)
  obtain ⟨⟨a16, e16, t16⟩, ⟨a17, e17, t17⟩⟩ := errOf2 q20 (by kernel_rfl) (by kernel_rfl) (by kernel_rfl) (by kernel_rfl)
  obtain ⟨_, ⟨a18, e18, t18⟩⟩ := errOf2 (g0 := 18) q21 (by kernel_rfl) (by kernel_rfl) (by kernel_rfl) (by kernel_rfl)
  exact ⟨fun k => match k with | 1 => a0 | 2 => a1 | 3 => a2 | 4 => a3 | 5 => a4 | 6 => a5 | 7 => a6 | 8 => a7 | 9 => a8 | 10 => a9 | 11 => a10 | 12 => a11 | 13 => a12 | 14 => a13 | 15 => a14 | 16 => a15 | 17 => a16 | 18 => a17 | 19 => a18 | _ => a0, errsAll e0 t0 e1 t1 e2 t2 e3 t3 e4 t4 e5 t5 e6 t6 e7 t7 e8 t8 e9 t9 e10 t10 e11 t11 e12 t12 e13 t13 e14 t14 e15 t15 e16 t16 e17 t17 e18 t18⟩
def firstCells : Array Value := match Go.Pinned.utf8First with
  | .agg ds => (ds.map fun d => match d with | .lit (.int k n) => Value.int k n | _ => undef).toArray
  | _ => #[]
theorem door_met (os : Os) (args : Array Value) : laidMetH Tryz.prog Rows.scriptAllRow.laid (((World.doorLaid Tryz.prog 438 os).setRow 21 firstCells).forCall (fun _ _ => 0) ⟨#[], args, []⟩).memory :=
  laidMetH_of_parts3 (fuel := 8) (laidMet_of_run' 8 (by kernel_rfl) (by kernel_rfl)) (by kernel_rfl) (by kernel_rfl)
theorem reads (os : Os) {H : Type} (enc : TypeId × Value → H) : ∃ places, DataW.whole enc Tryz.prog (((World.doorLaid Tryz.prog 438 os).setRow 21 firstCells).forCall (fun _ _ => 0) ⟨#[], #[.slice none 0 0], []⟩).memory Tryz.f5.params.toList Rows.scriptAllSpec.vars false #[Value.slice none 0 0].toList 8 = some ([.nil], [], places) :=
  ⟨[], by kernel_rfl⟩

set_option maxRecDepth 100000 in
theorem lifted (os : Os) (started : os.Started) (H : Type) (enc : TypeId × Value → H) (F : Stop.Interp) :
    ReturnsInHanded {} Tryz.checked os 5 .any ((OpenSpec.ofChange Rows.scriptAllSpec).preRow enc Tryz.prog Tryz.f5 Rows.scriptAllRow.domain false Rows.scriptAllRow.laid) (((OpenSpec.ofChange Rows.scriptAllSpec).at F).post enc Tryz.prog Tryz.f5 false true false false) := by
  obtain ⟨places, hx⟩ := reads os enc
  refine returnsInHanded_of_row (C := Tryz.checked) (s := OpenSpec.ofChange Rows.scriptAllSpec) own started (by kernel_rfl) Tryz.func5
    (witness_row_atRef (enc := enc) (C := Tryz.checked) false ((World.doorLaid Tryz.prog 438 os).setRow 21 firstCells) #[.slice none 0 0] rfl (by kernel_rfl) (by kernel_rfl) (by kernel_rfl)
      (OpenSpec.preRow_of_cond 8 hx (by kernel_rfl) (fun k hk => by cases hk) (by kernel_rfl) (door_met os _))) ?_
  intro W base args ds gs before hval hW _ _ hR hL hSh _
  have hW' := hW
  obtain ⟨p, q, hA0, hV, rfl, hfz, hnd⟩ := hW
  have hA : DataW.TrodAll enc Tryz.prog W 0 (fun _ => true) true Tryz.f5.params.toList args.toList ds p := hA0
  rw [Tryz.params5] at hA hval hR
  obtain ⟨v0, vs0, d0, ds0, p0, q0, hargs, rfl, rfl, h0, r0⟩ := trodAll_cons hA
  obtain ⟨rfl, rfl, rfl⟩ := trodAll_nil r0
  obtain rfl : args = #[v0] := by cases args; simp_all
  obtain ⟨rfl, rfl⟩ := trodVars_none hV
  obtain ⟨a0, len0, cap0, rfl⟩ := okWide_slice Tryz.underlying33 (hval 0 33 v0 rfl rfl)
  have k0 := h0
  have lt0 : ∀ x ∈ p0, x.block < W.heap.size := by obtain ⟨m, hm⟩ := k0; exact DataW.trod_lt m _ _ _ hm
  obtain ⟨x0, xl0, rr0, xb0⟩ := open_sliceS (cs := stC) (good := stG) Tryz.underlying33 (by kernel_rfl) (by decide) stC_len (fun n cs' y h => st_dec n cs' y h) h0
  clear hA0
  obtain ⟨aS, aR, aF, hV, hP⟩ := facts hL hSh
  obtain ⟨ea, he⟩ := errs hL
  refine (walkScriptAll W _ x0 rr0 xb0 ea he hV hP).mono fun e W' ⟨he', bel⟩ => ?_
  subst he'
  exact ⟨_, rfl, _, _, _, [], _, [], hW', trodAll_mk1 (shut_bool Tryz.underlying4 _), (trodAll_cons_mk (Below.trod laidOut (by kernel_rfl) (of_decide_eq_true (by kernel_rfl)) k0 bel lt0) (trodAll_mk0)), rfl, bel.frame _, fun h => by cases h⟩

theorem said : Rows.ScriptAllSaid :=
  OpenClaim.holds_of_cond 5 Tryz.f5 rfl rfl rfl rfl rfl rfl rfl ⟨rfl, rfl, rfl, rfl, rfl⟩ rfl rfl rfl rfl rfl (by kernel_rfl) Tryz.func5 (by kernel_rfl)
    (of_decide_eq_true (by kernel_rfl)) (by unfold Func.isWrapper; first | (rw [if_pos (by decide +kernel)]; kernel_rfl) | (rw [if_neg (by decide +kernel)]; exact ⟨rfl, rfl⟩))
    (fun os started H enc _ F => by rw [OpenClaim.pre_eq_preRow]; exact lifted os started H enc F)

theorem plain (f : FuncId) (fn : Func) (hf : Tryz.pinned.checked.prog.funcNamed "redline/redlinelaw39.ScriptAll" = some f) (hfn : Tryz.pinned.checked.prog.funcs[f]? = some fn) :
    true = Tryz.pinned.checked.prog.looks [] ∧ ∀ (j : Nat) t, fn.params[j]? = some t → Tryz.pinned.checked.prog.wantsStandIn t = false := by
  obtain rfl : f = 5 := Option.some.inj ((show Tryz.prog.funcNamed "redline/redlinelaw39.ScriptAll" = some 5 by kernel_rfl).symm.trans hf) |>.symm
  obtain rfl : fn = Tryz.f5 := (Option.some.inj (Tryz.func5.symm.trans hfn)).symm
  refine ⟨by kernel_rfl, fun j t ht => ?_⟩
  have hall : (Tryz.f5.params.all fun t => !Tryz.prog.wantsStandIn t) = true := by kernel_rfl
  have hone := Array.all_eq_true'.1 hall t (Array.mem_of_getElem? ht)
  have hz : Tryz.prog.wantsStandIn t = false := by simpa using hone
  exact hz

theorem card : Rows.ScriptAllCardSaid :=
  Claim7.holds_tied_plain_at .later [] _ _ _ _ said (fun _ h => by cases h) (by kernel_rfl) (fun _ h => by cases h) scriptAll_row_tie rfl ⟨rfl, rfl⟩ (by kernel_rfl) rfl plain (by kernel_rfl)

end Go.Proofs.YtbcpciegdmminaaGreatDoor.scriptAll
