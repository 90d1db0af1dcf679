/- The law ScriptLines: for every input the call returns true and its arguments read behind it as before: the card, over what the package-level errors hold by the program's text. -/
import Derived.Test.YtbcpciegdmminaaGreatDoorCards
import Derived.Test.YtbcpciegdmminaaGreatDoorTie
import Derived.ProofKit
import Derived.OpenShut
import Derived.ChangeOld
import Derived.ShutString
import Derived.LaidMore
import Derived.LaidHandle
import Derived.LaidLaws
import Derived.Stop.LaidErr
import Derived.Stop.LaidTwo
import Derived.SevenTiedAt
import Derived.Lib.SmallJoins
import Derived.Deep.DeepHandedRow
import Derived.Deep.DeepWitnessRowRef
import Derived.Test.YtbcpciegdmminaaGreatDoorWScriptLines
namespace Go.Proofs.YtbcpciegdmminaaGreatDoor.scriptLines
open Go Go.ChangeShapes Go.WideShapes Go.ChangeAt Go.RowKit
open Go.ChangeMaps (open_string shut_string)
set_option linter.unusedVariables false
theorem own : ownKnob Tryz.prog.godebug = none := by kernel_rfl
theorem laidOut : laidOutB Tryz.prog = true := by kernel_rfl
theorem star : "*" ++ "errors.errorString" = "*errors.errorString" := by decide
theorem rowE (u : TypeId) (h : Tryz.prog.typeName? 3 u = some "*errors.errorString") : u = 157 :=
  typeName_ptr_named (nm := "errors.errorString") (by rw [star]; kernel_rfl) (by kernel_rfl) (by decide) u (by rw [star]; exact h)
theorem cellsE : Tryz.prog.cellsOf 159 = 1 := by kernel_rfl
theorem cellsS : Tryz.prog.cellsOf 9 = 1 := by kernel_rfl
theorem errOf {n : String} {text : List UInt8} {r : List (String × DataW Unit)} {W : World} {g : Nat}
    (h : laidMet Tryz.prog ((n, .iface "*errors.errorString" (.ptr (.agg [.lit (.string text)]))) :: r) W) (hg : Tryz.prog.globalNamed n = some g) (ht : (Tryz.prog.globals[g]?).map (·.type) = some 43) :
    ∃ a : Addr, ErrAt W g a ∧ ∃ s : ByteArray, W.cell? a = some (.string s) ∧ s.data.toList = text := by
  obtain ⟨a, s, h1, h2, h3, _⟩ := laid_sentinel (ti := 43) (tp := 157) (te := 159) (ts := 9) h hg ht Tryz.underlying43 rowE Tryz.underlying157 Tryz.underlying159 rfl rfl Tryz.underlying9 cellsE cellsS
  exact ⟨a, by simpa [ErrAt] using World.var?_cell hg h1 0, s, h2, h3⟩
theorem facts {W : World} (h : laidMetH Tryz.prog Rows.scriptLinesRow.laid W) (hs : W.ShapedOpen Tryz.prog) : ∃ aS aR aF : Addr, VarsP aS aR aF W ∧ PowAt W := by
  have q0 : laidMet Tryz.prog Rows.scriptLinesRow.laid W := h
  have q1 := q0.tail
  have q2 := q1.tail
  have q3 := q2.tail
  have q4 := q3.tail
  have q5 := q4.tail
  have q6 := q5.tail
  have q7 := q6.tail
  have q8 := q7.tail
  obtain ⟨aF, eF, -⟩ := errOf (g := 1) q4 (by kernel_rfl) (by kernel_rfl)
  obtain ⟨aR, eR, -⟩ := errOf (g := 24) q5 (by kernel_rfl) (by kernel_rfl)
  obtain ⟨aS, eS, -⟩ := errOf (g := 23) q6 (by kernel_rfl) (by kernel_rfl)
  have hw : WordsAt W := words_of_head (t := 69) (e := 9) (by kernel_rfl) (by kernel_rfl) Tryz.underlying69 Tryz.underlying9 (by kernel_rfl) (by kernel_rfl) q7
  have hp : PowAt W := Lib.tabIs_of_head (g := 25) (t := 154) (e := 111) (n := 20) (k := .u64) (zs := Lib.pow10Tab) (by kernel_rfl) (by kernel_rfl) Tryz.underlying154 Tryz.underlying111 (by kernel_rfl) (by kernel_rfl) q2
  have hm := cell_of_shapedOpen_int (P := Tryz.prog) (g := 20) (t := 3) (zero := #[.int .i64 0]) hs (of_decide_eq_true (by kernel_rfl)) (by kernel_rfl) rfl (by kernel_rfl) (by kernel_rfl) Tryz.underlying3
  exact ⟨aS, aR, aF, ⟨⟨eS, eR, hm⟩, hw, eF⟩, hp⟩
def firstCells : Array Value := match Go.Pinned.utf8First with
  | .agg ds => (ds.map fun d => match d with | .lit (.int k n) => Value.int k n | _ => undef).toArray
  | _ => #[]
theorem door_met (os : Os) (args : Array Value) : laidMetH Tryz.prog Rows.scriptLinesRow.laid (((World.doorLaid Tryz.prog 438 os).setRow 21 firstCells).forCall (fun _ _ => 0) ⟨#[], args, []⟩).memory :=
  laidMetH_of_parts3 (fuel := 8) (laidMet_of_run' 8 (by kernel_rfl) (by kernel_rfl)) (by kernel_rfl) (by kernel_rfl)
theorem reads (os : Os) {H : Type} (enc : TypeId × Value → H) : ∃ places, DataW.whole enc Tryz.prog (((World.doorLaid Tryz.prog 438 os).setRow 21 firstCells).forCall (fun _ _ => 0) ⟨#[], #[.agg #[.int .i64 0, .int .i64 0, .int .i64 0, .int .i64 0, .int .i64 0, .slice none 0 0, .slice none 0 0, .slice none 0 0], .agg #[.int .i64 0, .int .i64 0, .int .i64 0, .int .i64 0, .int .i64 0, .slice none 0 0, .slice none 0 0, .slice none 0 0], .int .i64 0], []⟩).memory Tryz.f3.params.toList Rows.scriptLinesSpec.vars false #[Value.agg #[.int .i64 0, .int .i64 0, .int .i64 0, .int .i64 0, .int .i64 0, .slice none 0 0, .slice none 0 0, .slice none 0 0], Value.agg #[.int .i64 0, .int .i64 0, .int .i64 0, .int .i64 0, .int .i64 0, .slice none 0 0, .slice none 0 0, .slice none 0 0], Value.int .i64 0].toList 8 = some ([.agg [.lit (.int .i64 0), .lit (.int .i64 0), .lit (.int .i64 0), .lit (.int .i64 0), .lit (.int .i64 0), .nil, .nil, .nil], .agg [.lit (.int .i64 0), .lit (.int .i64 0), .lit (.int .i64 0), .lit (.int .i64 0), .lit (.int .i64 0), .nil, .nil, .nil], .lit (.int .i64 0)], [], places) :=
  ⟨[], by kernel_rfl⟩

set_option maxRecDepth 100000 in
theorem lifted (os : Os) (started : os.Started) (H : Type) (enc : TypeId × Value → H) (F : Stop.Interp) :
    ReturnsInHanded {} Tryz.checked os 3 .any ((OpenSpec.ofChange Rows.scriptLinesSpec).preRow enc Tryz.prog Tryz.f3 Rows.scriptLinesRow.domain false Rows.scriptLinesRow.laid) (((OpenSpec.ofChange Rows.scriptLinesSpec).at F).post enc Tryz.prog Tryz.f3 false true false false) := by
  obtain ⟨places, hx⟩ := reads os enc
  refine returnsInHanded_of_row (C := Tryz.checked) (s := OpenSpec.ofChange Rows.scriptLinesSpec) own started (by kernel_rfl) Tryz.func3
    (witness_row_atRef (enc := enc) (C := Tryz.checked) false ((World.doorLaid Tryz.prog 438 os).setRow 21 firstCells) #[.agg #[.int .i64 0, .int .i64 0, .int .i64 0, .int .i64 0, .int .i64 0, .slice none 0 0, .slice none 0 0, .slice none 0 0], .agg #[.int .i64 0, .int .i64 0, .int .i64 0, .int .i64 0, .int .i64 0, .slice none 0 0, .slice none 0 0, .slice none 0 0], .int .i64 0] rfl (by kernel_rfl) (by kernel_rfl) (by kernel_rfl)
      (OpenSpec.preRow_of_cond 8 hx (by kernel_rfl) (fun k hk => by cases hk) (by kernel_rfl) (door_met os _))) ?_
  intro W base args ds gs before hval hW _ _ hR hL hSh _
  have hW' := hW
  obtain ⟨p, q, hA0, hV, rfl, hfz, hnd⟩ := hW
  have hA : DataW.TrodAll enc Tryz.prog W 0 (fun _ => true) true Tryz.f3.params.toList args.toList ds p := hA0
  rw [Tryz.params3] at hA hval hR
  obtain ⟨v0, vs0, d0, ds0, p0, q0, hargs, rfl, rfl, h0, r0⟩ := trodAll_cons hA
  obtain ⟨v1, vs1, d1, ds1, p1, q1, rfl, rfl, rfl, h1, r1⟩ := trodAll_cons r0
  obtain ⟨v2, vs2, d2, ds2, p2, q2, rfl, rfl, rfl, h2, r2⟩ := trodAll_cons r1
  obtain ⟨rfl, rfl, rfl⟩ := trodAll_nil r2
  obtain rfl : args = #[v0, v1, v2] := by cases args; simp_all
  obtain ⟨rfl, rfl⟩ := trodVars_none hV
  have k0 := h0
  have lt0 : ∀ x ∈ p0, x.block < W.heap.size := by obtain ⟨m, hm⟩ := k0; exact DataW.trod_lt m _ _ _ hm
  obtain ⟨cs0, rfl, hsz0⟩ := okWide_struct Tryz.underlying26 (hval 0 26 v0 rfl rfl)
  obtain ⟨fu0, hf0⟩ := h0
  obtain ⟨y0_0, y0_1, y0_2, y0_3, y0_4, y0_5, y0_6, y0_7, b0, l0, t0, hx0, g0⟩ := sact_dec fu0 _ _ hf0
  obtain rfl : cs0 = acCells y0_0 y0_1 y0_2 y0_3 y0_4 y0_5 y0_6 y0_7 := by
    have : cs0.toList = (acCells y0_0 y0_1 y0_2 y0_3 y0_4 y0_5 y0_6 y0_7).toList := by simpa [Value.cells] using hx0
    exact Array.toList_inj.1 this
  have k1 := h1
  have lt1 : ∀ x ∈ p1, x.block < W.heap.size := by obtain ⟨m, hm⟩ := k1; exact DataW.trod_lt m _ _ _ hm
  obtain ⟨cs1, rfl, hsz1⟩ := okWide_struct Tryz.underlying26 (hval 1 26 v1 rfl rfl)
  obtain ⟨fu1, hf1⟩ := h1
  obtain ⟨y1_0, y1_1, y1_2, y1_3, y1_4, y1_5, y1_6, y1_7, b1, l1, t1, hx1, g1⟩ := sact_dec fu1 _ _ hf1
  obtain rfl : cs1 = acCells y1_0 y1_1 y1_2 y1_3 y1_4 y1_5 y1_6 y1_7 := by
    have : cs1.toList = (acCells y1_0 y1_1 y1_2 y1_3 y1_4 y1_5 y1_6 y1_7).toList := by simpa [Value.cells] using hx1
    exact Array.toList_inj.1 this
  obtain ⟨x2, rfl, rfl, rfl, w2⟩ := open_int Tryz.underlying3 (hval 2 3 v2 rfl rfl) h2
  have bd2 := bounds_i64 w2
  clear hA0
  obtain ⟨aS, aR, aF, hV, hP⟩ := facts hL hSh
  refine (walkScriptLines W y0_0 y0_1 y0_2 y0_3 y0_4 y0_5 y0_6 y0_7 b0 l0 t0 g0 y1_0 y1_1 y1_2 y1_3 y1_4 y1_5 y1_6 y1_7 b1 l1 t1 g1 x2 bd2  hV hP).mono fun e W' ⟨he', bel⟩ => ?_
  subst he'
  exact ⟨_, rfl, _, _, _, [], _, [], hW', trodAll_mk1 (shut_bool Tryz.underlying4 _), (trodAll_cons_mk (Below.trod laidOut (by kernel_rfl) (of_decide_eq_true (by kernel_rfl)) k0 bel lt0) (trodAll_cons_mk (Below.trod laidOut (by kernel_rfl) (of_decide_eq_true (by kernel_rfl)) k1 bel lt1) (trodAll_cons_mk (shut_int Tryz.underlying3 w2) (trodAll_mk0)))), rfl, bel.frame _, fun h => by cases h⟩

theorem said : Rows.ScriptLinesSaid :=
  OpenClaim.holds_of_cond 3 Tryz.f3 rfl rfl rfl rfl rfl rfl rfl ⟨rfl, rfl, rfl, rfl, rfl⟩ rfl rfl rfl rfl rfl (by kernel_rfl) Tryz.func3 (by kernel_rfl)
    (of_decide_eq_true (by kernel_rfl)) (by unfold Func.isWrapper; first | (rw [if_pos (by decide +kernel)]; kernel_rfl) | (rw [if_neg (by decide +kernel)]; exact ⟨rfl, rfl⟩))
    (fun os started H enc _ F => by rw [OpenClaim.pre_eq_preRow]; exact lifted os started H enc F)

theorem plain (f : FuncId) (fn : Func) (hf : Tryz.pinned.checked.prog.funcNamed "redline/redlinelaw39.ScriptLines" = some f) (hfn : Tryz.pinned.checked.prog.funcs[f]? = some fn) :
    true = Tryz.pinned.checked.prog.looks [] ∧ ∀ (j : Nat) t, fn.params[j]? = some t → Tryz.pinned.checked.prog.wantsStandIn t = false := by
  obtain rfl : f = 3 := Option.some.inj ((show Tryz.prog.funcNamed "redline/redlinelaw39.ScriptLines" = some 3 by kernel_rfl).symm.trans hf) |>.symm
  obtain rfl : fn = Tryz.f3 := (Option.some.inj (Tryz.func3.symm.trans hfn)).symm
  refine ⟨by kernel_rfl, fun j t ht => ?_⟩
  have hall : (Tryz.f3.params.all fun t => !Tryz.prog.wantsStandIn t) = true := by kernel_rfl
  have hone := Array.all_eq_true'.1 hall t (Array.mem_of_getElem? ht)
  have hz : Tryz.prog.wantsStandIn t = false := by simpa using hone
  exact hz

theorem card : Rows.ScriptLinesCardSaid :=
  Claim7.holds_tied_plain_at .later [] _ _ _ _ said (fun _ h => by cases h) (by kernel_rfl) (fun _ h => by cases h) scriptLines_row_tie rfl ⟨rfl, rfl⟩ (by kernel_rfl) rfl plain (by kernel_rfl)

end Go.Proofs.YtbcpciegdmminaaGreatDoor.scriptLines
