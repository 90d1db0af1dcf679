/- The law SuperStays: for every input the call returns true and its arguments read behind it as before: the card, over what the package-level errors hold by the program's text. -/
import Derived.Test.YtgehbabcpmkgaaaDoorCards
import Derived.Test.YtgehbabcpmkgaaaDoorTie
import Derived.ProofKit
import Derived.OpenShut
import Derived.ChangeOld
import Derived.ShutString
import Derived.LaidMore
import Derived.LaidHandle
import Derived.LaidLaws
import Derived.Stop.LaidErr
import Derived.Stop.LaidTwo
import Derived.SevenTiedAt
import Derived.Lib.SmallJoins
import Derived.Deep.DeepHandedRow
import Derived.Deep.DeepWitnessRowRef
import Derived.Test.YtgehbabcpmkgaaaDoorWSuperStays
namespace Go.Proofs.YtgehbabcpmkgaaaDoor.superStays
open Go Go.ChangeShapes Go.WideShapes Go.ChangeAt Go.RowKit
open Go.ChangeMaps (open_string shut_string)
set_option linter.unusedVariables false
theorem own : ownKnob Tryd.prog.godebug = none := by kernel_rfl
theorem laidOut : laidOutB Tryd.prog = true := by kernel_rfl
theorem star : "*" ++ "errors.errorString" = "*errors.errorString" := by decide
theorem rowE (u : TypeId) (h : Tryd.prog.typeName? 3 u = some "*errors.errorString") : u = 248 :=
  typeName_ptr_named (nm := "errors.errorString") (by rw [star]; kernel_rfl) (by kernel_rfl) (by decide) u (by rw [star]; exact h)
theorem cellsE : Tryd.prog.cellsOf 270 = 1 := by kernel_rfl
theorem cellsS : Tryd.prog.cellsOf 9 = 1 := by kernel_rfl
theorem errOf {n : String} {text : List UInt8} {r : List (String × DataW Unit)} {W : World} {g : Nat}
    (h : laidMet Tryd.prog ((n, .iface "*errors.errorString" (.ptr (.agg [.lit (.string text)]))) :: r) W) (hg : Tryd.prog.globalNamed n = some g) (ht : (Tryd.prog.globals[g]?).map (·.type) = some 27) :
    ∃ a : Addr, ErrAt W g a ∧ ∃ s : ByteArray, W.cell? a = some (.string s) ∧ s.data.toList = text := by
  obtain ⟨a, s, h1, h2, h3, _⟩ := laid_sentinel (ti := 27) (tp := 248) (te := 270) (ts := 9) h hg ht Tryd.underlying27 rowE Tryd.underlying248 Tryd.underlying270 rfl rfl Tryd.underlying9 cellsE cellsS
  exact ⟨a, by simpa [ErrAt] using World.var?_cell hg h1 0, s, h2, h3⟩
theorem errs {W : World} (h : laidMetH Tryd.prog Rows.superStaysRow.laid W) : ∃ ea : Nat → Addr, (ErrAt W 2 (ea 1) ∧ ∃ s : ByteArray, W.cell? (ea 1) = some (.string s) ∧ s.data.toList = [97, 32, 110, 117, 109, 98, 101, 114, 32, 105, 115, 32, 111, 117, 116, 32, 111, 102, 32, 105, 116, 115, 32, 114, 97, 110, 103, 101]) ∧ (ErrAt W 3 (ea 2) ∧ ∃ s : ByteArray, W.cell? (ea 2) = some (.string s) ∧ s.data.toList = [115, 111, 109, 101, 116, 104, 105, 110, 103, 32, 105, 115, 32, 109, 105, 115, 115, 105, 110, 103, 32, 97, 116, 32, 116, 104, 101, 32, 101, 110, 100]) ∧ (ErrAt W 0 (ea 3) ∧ ∃ s : ByteArray, W.cell? (ea 3) = some (.string s) ∧ s.data.toList = [116, 104, 101, 114, 101, 32, 105, 115, 32, 109, 111, 114, 101, 32, 116, 104, 97, 110, 32, 109, 97, 121, 32, 98, 101]) ∧ (ErrAt W 4 (ea 9) ∧ ∃ s : ByteArray, W.cell? (ea 9) = some (.string s) ∧ s.data.toList = [105, 116, 32, 105, 115, 32, 110, 111, 116, 32, 111, 102, 32, 105, 116, 115, 32, 102, 111, 114, 109]) ∧ (ErrAt W 5 (ea 14) ∧ ∃ s : ByteArray, W.cell? (ea 14) = some (.string s) ∧ s.data.toList = [116, 104, 101, 114, 101, 32, 105, 115, 32, 110, 111, 110, 101]) ∧ (ErrAt W 7 (ea 17) ∧ ∃ s : ByteArray, W.cell? (ea 17) = some (.string s) ∧ s.data.toList = [116, 104, 101, 32, 112, 111, 119, 101, 114, 32, 105, 115, 32, 103, 111, 110, 101]) ∧ (ErrAt W 8 (ea 18) ∧ ∃ s : ByteArray, W.cell? (ea 18) = some (.string s) ∧ s.data.toList = [116, 104, 101, 32, 115, 117, 109, 32, 105, 115, 32, 110, 111, 116, 32, 114, 105, 103, 104, 116]) := by
  have q0 : laidMet Tryd.prog Rows.superStaysRow.laid W := h
  obtain ⟨a0, e0⟩ := errOf q0 (by kernel_rfl) (by kernel_rfl)
  have q1 := q0.tail
  obtain ⟨a1, e1⟩ := errOf q1 (by kernel_rfl) (by kernel_rfl)
  have q2 := q1.tail
  obtain ⟨a2, e2⟩ := errOf q2 (by kernel_rfl) (by kernel_rfl)
  have q3 := q2.tail
  obtain ⟨a3, e3⟩ := errOf q3 (by kernel_rfl) (by kernel_rfl)
  have q4 := q3.tail
  obtain ⟨a4, e4⟩ := errOf q4 (by kernel_rfl) (by kernel_rfl)
  have q5 := q4.tail
  obtain ⟨a5, e5⟩ := errOf q5 (by kernel_rfl) (by kernel_rfl)
  have q6 := q5.tail
  obtain ⟨a6, e6⟩ := errOf q6 (by kernel_rfl) (by kernel_rfl)
  exact ⟨fun k => match k with | 1 => a0 | 2 => a1 | 3 => a2 | 9 => a3 | 14 => a4 | 17 => a5 | 18 => a6 | _ => a0, e0, e1, e2, e3, e4, e5, e6⟩
theorem door_met (os : Os) (args : Array Value) : laidMetH Tryd.prog Rows.superStaysRow.laid ((World.doorLaid Tryd.prog 370 os).forCall (fun _ _ => 0) ⟨#[], args, []⟩).memory :=
  laidMetH_of_parts3 (fuel := 8) (laidMet_of_run' 8 (by kernel_rfl) (by kernel_rfl)) (by kernel_rfl) (by kernel_rfl)
theorem reads (os : Os) {H : Type} (enc : TypeId × Value → H) : ∃ places, DataW.whole enc Tryd.prog ((World.doorLaid Tryd.prog 370 os).forCall (fun _ _ => 0) ⟨#[], #[.agg #[.int .u32 0, .int .u32 0, .int .i64 0, .int .i64 0], .agg #[.int .u32 0, .int .u32 0, .int .i64 0, .int .i64 0], .slice none 0 0], []⟩).memory Tryd.f9.params.toList Rows.superStaysSpec.vars false #[Value.agg #[.int .u32 0, .int .u32 0, .int .i64 0, .int .i64 0], Value.agg #[.int .u32 0, .int .u32 0, .int .i64 0, .int .i64 0], Value.slice none 0 0].toList 8 = some ([.agg [.lit (.int .u32 0), .lit (.int .u32 0), .lit (.int .i64 0), .lit (.int .i64 0)], .agg [.lit (.int .u32 0), .lit (.int .u32 0), .lit (.int .i64 0), .lit (.int .i64 0)], .nil], [], places) :=
  ⟨[], by kernel_rfl⟩

set_option maxRecDepth 100000 in
theorem lifted (os : Os) (started : os.Started) (H : Type) (enc : TypeId × Value → H) (F : Stop.Interp) :
    ReturnsInHanded {} Tryd.checked os 9 .any ((OpenSpec.ofChange Rows.superStaysSpec).preRow enc Tryd.prog Tryd.f9 Rows.superStaysRow.domain false Rows.superStaysRow.laid) (((OpenSpec.ofChange Rows.superStaysSpec).at F).post enc Tryd.prog Tryd.f9 false true false false) := by
  obtain ⟨places, hx⟩ := reads os enc
  refine returnsInHanded_of_row (C := Tryd.checked) (s := OpenSpec.ofChange Rows.superStaysSpec) own started (by kernel_rfl) Tryd.func9
    (witness_row_atRef (enc := enc) (C := Tryd.checked) false (World.doorLaid Tryd.prog 370 os) #[.agg #[.int .u32 0, .int .u32 0, .int .i64 0, .int .i64 0], .agg #[.int .u32 0, .int .u32 0, .int .i64 0, .int .i64 0], .slice none 0 0] rfl (by kernel_rfl) (by kernel_rfl) (by kernel_rfl)
      (OpenSpec.preRow_of_cond 8 hx (by kernel_rfl) (fun k hk => by cases hk) (by kernel_rfl) (door_met os _))) ?_
  intro W base args ds gs before hval hW _ _ hR hL _ _
  have hW' := hW
  obtain ⟨p, q, hA0, hV, rfl, hfz, hnd⟩ := hW
  have hA : DataW.TrodAll enc Tryd.prog W 0 (fun _ => true) true Tryd.f9.params.toList args.toList ds p := hA0
  rw [Tryd.params9] at hA hval hR
  obtain ⟨v0, vs0, d0, ds0, p0, q0, hargs, rfl, rfl, h0, r0⟩ := trodAll_cons hA
  obtain ⟨v1, vs1, d1, ds1, p1, q1, rfl, rfl, rfl, h1, r1⟩ := trodAll_cons r0
  obtain ⟨v2, vs2, d2, ds2, p2, q2, rfl, rfl, rfl, h2, r2⟩ := trodAll_cons r1
  obtain ⟨rfl, rfl, rfl⟩ := trodAll_nil r2
  obtain rfl : args = #[v0, v1, v2] := by cases args; simp_all
  obtain ⟨rfl, rfl⟩ := trodVars_none hV
  have k0 := h0
  have lt0 : ∀ x ∈ p0, x.block < W.heap.size := by obtain ⟨m, hm⟩ := k0; exact DataW.trod_lt m _ _ _ hm
  obtain ⟨c0_0, c0_1, c0_2, c0_3, y0_0, y0_1, y0_2, y0_3, n0, rfl, rfl, rfl, z0_0, z0_1, z0_2, z0_3⟩ := Joins.open_agg4 Tryd.underlying51 (by kernel_rfl) (by kernel_rfl) (hval 0 51 v0 rfl rfl) h0
  obtain ⟨x0_0, q0_0, _, w0_0⟩ := DataW.trod_int Tryd.underlying22 z0_0
  cases q0_0
  have bd0_0 := bounds_u32 w0_0
  obtain ⟨x0_1, q0_1, _, w0_1⟩ := DataW.trod_int Tryd.underlying22 z0_1
  cases q0_1
  have bd0_1 := bounds_u32 w0_1
  obtain ⟨x0_2, q0_2, _, w0_2⟩ := DataW.trod_int Tryd.underlying3 z0_2
  cases q0_2
  have bd0_2 := bounds_i64 w0_2
  obtain ⟨x0_3, q0_3, _, w0_3⟩ := DataW.trod_int Tryd.underlying3 z0_3
  cases q0_3
  have bd0_3 := bounds_i64 w0_3
  have k1 := h1
  have lt1 : ∀ x ∈ p1, x.block < W.heap.size := by obtain ⟨m, hm⟩ := k1; exact DataW.trod_lt m _ _ _ hm
  obtain ⟨c1_0, c1_1, c1_2, c1_3, y1_0, y1_1, y1_2, y1_3, n1, rfl, rfl, rfl, z1_0, z1_1, z1_2, z1_3⟩ := Joins.open_agg4 Tryd.underlying51 (by kernel_rfl) (by kernel_rfl) (hval 1 51 v1 rfl rfl) h1
  obtain ⟨x1_0, q1_0, _, w1_0⟩ := DataW.trod_int Tryd.underlying22 z1_0
  cases q1_0
  have bd1_0 := bounds_u32 w1_0
  obtain ⟨x1_1, q1_1, _, w1_1⟩ := DataW.trod_int Tryd.underlying22 z1_1
  cases q1_1
  have bd1_1 := bounds_u32 w1_1
  obtain ⟨x1_2, q1_2, _, w1_2⟩ := DataW.trod_int Tryd.underlying3 z1_2
  cases q1_2
  have bd1_2 := bounds_i64 w1_2
  obtain ⟨x1_3, q1_3, _, w1_3⟩ := DataW.trod_int Tryd.underlying3 z1_3
  cases q1_3
  have bd1_3 := bounds_i64 w1_3
  obtain ⟨a2, len2, cap2, rfl⟩ := okWide_slice Tryd.underlying23 (hval 2 23 v2 rfl rfl)
  have k2 := h2
  have lt2 : ∀ x ∈ p2, x.block < W.heap.size := by obtain ⟨m, hm⟩ := k2; exact DataW.trod_lt m _ _ _ hm
  obtain ⟨zs2, zl2, zw2, zr2⟩ : ∃ zs : List Int, len2 ≤ zs.length ∧ (∀ n ∈ zs, (Lit.int .u8 n).wf = true) ∧ Row W (.slice a2 len2 cap2) len2 ((zs.take len2).map (Value.int .u8)) := by
    obtain ⟨fuel, hf⟩ := h2
    rcases open_ints Tryd.underlying23 Tryd.underlying5 (by kernel_rfl) hf with ⟨hcs, _⟩ | ⟨x, l, c, zs, hcs, _, hl, hm, hz, _, hcell, hwz⟩
    · simp [Value.cells] at hcs
      obtain ⟨rfl, rfl, rfl⟩ := hcs
      exact ⟨[], Nat.le_refl _, by simp, .inl ⟨rfl, rfl, none, 0, rfl⟩⟩
    · simp [Value.cells] at hcs
      obtain ⟨rfl, rfl, rfl⟩ := hcs
      exact ⟨zs, by simp at hz; omega, hwz, row_of_ints hl hm (by simpa using hz) hcell⟩
  obtain ⟨x2, xl2, rr2⟩ := rowB_of_ints zr2 zl2 zw2
  clear hA0
  obtain ⟨ea, ⟨e1, t1⟩, ⟨e2, t2⟩, ⟨e3, t3⟩, ⟨e9, t9⟩, ⟨e14, t14⟩, ⟨e17, t17⟩, ⟨e18, t18⟩⟩ := errs hL
  refine (walkSuperStays W x0_0 bd0_0 x0_1 bd0_1 x0_2 bd0_2 x0_3 bd0_3 x1_0 bd1_0 x1_1 bd1_1 x1_2 bd1_2 x1_3 bd1_3 _ x2 rr2 ea e1 e2 e3 e9 e14 e17 e18).mono fun e W' ⟨he', bel⟩ => ?_
  subst he'
  exact ⟨_, rfl, _, _, _, [], _, [], hW', trodAll_mk1 (shut_bool Tryd.underlying4 _), (trodAll_cons_mk (Below.trod laidOut (by kernel_rfl) (of_decide_eq_true (by kernel_rfl)) k0 bel lt0) (trodAll_cons_mk (Below.trod laidOut (by kernel_rfl) (of_decide_eq_true (by kernel_rfl)) k1 bel lt1) (trodAll_cons_mk (Below.trod laidOut (by kernel_rfl) (of_decide_eq_true (by kernel_rfl)) k2 bel lt2) (trodAll_mk0)))), rfl, bel.frame _, fun h => by cases h⟩

theorem said : Rows.SuperStaysSaid :=
  OpenClaim.holds_of_cond 9 Tryd.f9 rfl rfl rfl rfl rfl rfl rfl ⟨rfl, rfl, rfl, rfl, rfl⟩ rfl rfl rfl rfl rfl (by kernel_rfl) Tryd.func9 (by kernel_rfl)
    (of_decide_eq_true (by kernel_rfl)) (by unfold Func.isWrapper; first | (rw [if_pos (by decide +kernel)]; kernel_rfl) | (rw [if_neg (by decide +kernel)]; exact ⟨rfl, rfl⟩))
    (fun os started H enc _ F => by rw [OpenClaim.pre_eq_preRow]; exact lifted os started H enc F)

theorem plain (f : FuncId) (fn : Func) (hf : Tryd.pinned.checked.prog.funcNamed "redline/redlinelaw33.SuperStays" = some f) (hfn : Tryd.pinned.checked.prog.funcs[f]? = some fn) :
    true = Tryd.pinned.checked.prog.looks [] ∧ ∀ (j : Nat) t, fn.params[j]? = some t → Tryd.pinned.checked.prog.wantsStandIn t = false := by
  obtain rfl : f = 9 := Option.some.inj ((show Tryd.prog.funcNamed "redline/redlinelaw33.SuperStays" = some 9 by kernel_rfl).symm.trans hf) |>.symm
  obtain rfl : fn = Tryd.f9 := (Option.some.inj (Tryd.func9.symm.trans hfn)).symm
  refine ⟨by kernel_rfl, fun j t ht => ?_⟩
  have hall : (Tryd.f9.params.all fun t => !Tryd.prog.wantsStandIn t) = true := by kernel_rfl
  have hone := Array.all_eq_true'.1 hall t (Array.mem_of_getElem? ht)
  have hz : Tryd.prog.wantsStandIn t = false := by simpa using hone
  exact hz

theorem card : Rows.SuperStaysCardSaid :=
  Claim7.holds_tied_plain_at .later [] _ _ _ _ said (fun _ h => by cases h) (by kernel_rfl) (fun _ h => by cases h) superStays_row_tie rfl ⟨rfl, rfl⟩ (by kernel_rfl) rfl plain (by kernel_rfl)

end Go.Proofs.YtgehbabcpmkgaaaDoor.superStays
