/- errors.Is at two errors of errors.New's make (after the guide's worked text for errors.Is): true at the same one, false at two that differ. -/
import Derived.Test.YtbcpciegdmminaaGreatDoorLib
import Derived.LaidEql
import Derived.Stop.Asserts
import Derived.RowKitTokens
namespace Go.Proofs.YtbcpciegdmminaaGreatDoor
open Go Go.RowKit Go.Extern.Stop Go.Stop Go.Extern
set_option linter.unusedVariables false
theorem isTypeOf : ∃ ad : Option Addr, (∀ (v : Value) (w : World), (callFunc 64 #[.iface 157 v]).run Tryz.prog w = .ok (.value (.iface 117 (.agg #[.pointer ad]))) w) ∧
    ∀ w : World, (callFunc 132 #[.agg #[.pointer ad]]).run Tryz.prog w = .ok (.value (.bool true)) w :=
  ⟨some ⟨Tryz.prog.globals.size, 157, none⟩, fun _ _ => by kernel_rfl, fun _ => by kernel_rfl⟩
theorem isComp : (Tryz.prog.info? 157).map (·.comparable) = some true := by kernel_rfl
theorem isSize : (Tryz.prog.info? 159).map (·.size) = some 1 := by kernel_rfl
theorem noIsE (v : Value) (xT : TypeId) (w : World) : (Instr.typeAssert (.iface 157 v) xT 119 true).run Tryz.prog w = .ok (.tuple #[.nilIface, .bool false]) w := run_typeAssert_lacksB Tryz.underlying119 (by kernel_rfl) (by kernel_rfl) v xT w
theorem noUnwrapE (v : Value) (xT : TypeId) (w : World) : (Instr.typeAssert (.iface 157 v) xT 122 true).run Tryz.prog w = .ok (.tuple #[.nilIface, .bool false]) w := run_typeAssert_lacksB Tryz.underlying122 (by kernel_rfl) (by kernel_rfl) v xT w
theorem noUnwrapsE (v : Value) (xT : TypeId) (w : World) : (Instr.typeAssert (.iface 157 v) xT 124 true).run Tryz.prog w = .ok (.tuple #[.nilIface, .bool false]) w := run_typeAssert_lacksB Tryz.underlying124 (by kernel_rfl) (by kernel_rfl) v xT w
set_option maxRecDepth 100000 in
theorem is_same (a : Addr) (w : World) :
    Calls Tryz.prog 44 #[EP a, EP a] w fun e w' => e = .returned (.bool true) ∧ w = w' := by
  unfold EP
  obtain ⟨i, hi, hcmp⟩ := Option.map_eq_some_iff.1 isComp
  obtain ⟨j, hj, hjs⟩ := Option.map_eq_some_iff.1 isSize
  obtain ⟨ad, tT, cT⟩ := isTypeOf
  have heq := run_eql_iface_ptr_same (P := Tryz.prog) w a Tryz.underlying43 Tryz.underlying157 hi hcmp hj
  go_enter Tryz.func44, Tryz.ntmps44
  go_wp2
  refine wp_loop_rounds 1 ?_
  rw [rounds_succ]
  go_wp2
  go_ret
  exact ⟨rfl, rfl⟩
set_option maxRecDepth 100000 in
theorem is_other (a b : Addr) (ca cb : Array Value) (ta tb : TypeId) (w : World) (hne : a ≠ b) (ha : w.heap[a.block]? = some (.cells ca ta (0, 0))) (hb : w.heap[b.block]? = some (.cells cb tb (0, 0))) :
    Calls Tryz.prog 44 #[EP a, EP b] w fun e w' => e = .returned (.bool false) ∧ w = w' := by
  unfold EP
  obtain ⟨i, hi, hcmp⟩ := Option.map_eq_some_iff.1 isComp
  obtain ⟨j, hj, hjs⟩ := Option.map_eq_some_iff.1 isSize
  obtain ⟨ad, tT, cT⟩ := isTypeOf
  have nE := noIsE
  have uE := noUnwrapE
  have vE := noUnwrapsE
  have heq := run_eql_iface_ptr_other (P := Tryz.prog) w Tryz.underlying43 Tryz.underlying157 hi hcmp hj (by rw [hjs]; decide) hne ha hb
  go_enter Tryz.func44, Tryz.ntmps44
  go_wp2
  refine wp_loop_rounds 1 ?_
  rw [rounds_succ]
  go_wp2
  go_ret
  exact ⟨rfl, rfl⟩
end Go.Proofs.YtbcpciegdmminaaGreatDoor
