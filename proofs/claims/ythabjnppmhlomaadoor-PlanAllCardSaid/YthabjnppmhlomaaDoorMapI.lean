/- Maps keyed by int whose elements are any values: block b holds the function f. Laws at the operations. -/
import Derived.Maps.RangeWalk
import Derived.Maps.OwnSet
import Derived.Maps.OwnOps
import Derived.Test.YthabjnppmhlomaaDoorLib
import Derived.BigQuiet
namespace Go.Proofs.YthabjnppmhlomaaDoor
open Go Go.RowKit Go.Maps
open Go.ChangeMaps Go.MapKept
set_option linter.unusedVariables false
/-- an element reads as itself -/
def heldR (v : Value) : Option (DataW Value × List MemPlace) := some (.held v, [])
/-- what a datum holds, as a function -/
def ViewI (D : DataW Value) (f : Int → Option Value) : Prop := ∀ a : Int, -9223372036854775808 ≤ a ∧ a ≤ 9223372036854775807 → Maps.has D (.int .i64 a) = (f a).isSome ∧ ∀ z, D.atKey (.int .i64 a) z = match f a with | some v => .held v | none => z
/-- block b is a map of at most n entries that holds f -/
def MapI (P : Program) (K : TypeId) (w : World) (b n : Nat) (f : Int → Option Value) : Prop := ∃ D : DataW Value, w.ownsMap P K heldR b n D ∧ ViewI D f
section
variable {P : Program} {K : TypeId} {w w' : World} {b n : Nat} {f : Int → Option Value}
theorem MapI.made (P : Program) (K : TypeId) (w : World) : MapI P K (w.alloc (.map #[] 0)) w.heap.size 0 (fun _ => none) :=
  ⟨_, World.ownsMap_made w P K heldR, fun _ _ => ⟨rfl, fun _ => rfl⟩⟩
theorem MapI.mono (h : MapI P K w b n f) {n' : Nat} (hn : n ≤ n') : MapI P K w b n' f := let ⟨D, h1, h2⟩ := h; ⟨D, h1.mono hn, h2⟩
theorem MapI.lt (h : MapI P K w b n f) : b < w.heap.size := let ⟨_, h1, _⟩ := h; h1.lt
theorem MapI.kept {row : Option Nat} (h : MapI P K w b n f) (hg : w.grownBy w' row) (hne : some b ≠ row) : MapI P K w' b n f := let ⟨D, h1, h2⟩ := h; ⟨D, h1.kept hg hne, h2⟩
theorem MapI.alloc (h : MapI P K w b n f) (o : Obj) : MapI P K (w.alloc o) b n f := let ⟨D, h1, h2⟩ := h; ⟨D, h1.alloc o, h2⟩
theorem MapI.drew (h : MapI P K w b n f) : MapI P K w.drew b n f := h
theorem MapI.drewN (h : MapI P K w b n f) (k : Nat) : MapI P K (w.drewN k) b n f := h
theorem MapI.setCell (h : MapI P K w b n f) {a : Addr} (ha : b ≠ a.block) (u : Value) : MapI P K (w.setCell a u) b n f := let ⟨D, h1, h2⟩ := h; ⟨D, h1.setCell ha u, h2⟩
theorem MapI.stays (h : MapI P K w b n f) (hb : Below w.heap.size w w') : MapI P K w' b n f := h.kept (row := none) (grown_of_below hb) (by simp)
theorem MapI.congr (h : MapI P K w b n f) {g : Int → Option Value} (hg : ∀ a : Int, -9223372036854775808 ≤ a ∧ a ≤ 9223372036854775807 → g a = f a) : MapI P K w b n g := let ⟨D, h1, h2⟩ := h; ⟨D, h1, fun a ha => by rw [hg a ha]; exact h2 a ha⟩
theorem MapI.block_ne {g : Nat} {T : TypeId} {cs : Array Value} (h : MapI P K w b n f) (hc : CellsAt w g T cs) : b ≠ g := fun e => by
  obtain ⟨D, ⟨es, clock, hb, _⟩, _⟩ := h
  subst e
  unfold CellsAt at hc
  rw [hb] at hc
  cases hc
end
section
variable {P : Program} (w : World) {ops : Array Oper} {rest : List Oper} {o : Oper} {a : Act} {Q : Exit → Act → World → Prop}
/-- 'v, ok := m[k]' -/
theorem wpList_lookI_ok (hg : o.guard = none) (m x : Operand) (t : TypeId) (hop : o.op = Op.lookup t m x true) (K e : TypeId) (hk : P.underlying K = some (.int .i64)) (ht : P.underlying t = some (.map K e)) {z : Value} (hz : (zeroValue e).run P w = .ok z w)
    (b n : Nat) (f : Int → Option Value) (hm : a.eval m = .map (some b)) (hown : MapI P K w b n f) (q : Int) (hx : a.eval x = .int .i64 q) (hq : -9223372036854775808 ≤ q ∧ q ≤ 9223372036854775807)
    (hK : wpList P ops Q rest (a.put o.dst (.tuple #[(f q).getD z, .bool (f q).isSome])) w) : wpList P ops Q (o :: rest) a w := by
  obtain ⟨D, hD, hv⟩ := hown
  obtain ⟨h1, h2⟩ := hv q hq
  refine wpList_lookup_own_ok w hg m x t hop K e (int_keyed hk) ht heldR hz (.held z) [] rfl b n D hm hD (.int .i64 q) (.int .i64 q) hx (keyOf_int_mk hk (WalkArith.wf_i64 hq)) ?_
  intro v ps hvv
  have : v = (f q).getD z := by
    have h3 := h2 (.held z)
    unfold heldR at hvv
    simp only [Option.some.injEq, Prod.mk.injEq] at hvv
    cases hfq : f q with
    | some u => rw [hfq] at h3; have := hvv.1.trans h3; cases this; rfl
    | none => rw [hfq] at h3; have := hvv.1.trans h3; cases this; rfl
  rw [this, h1]
  exact hK
/-- 'm[k]' -/
theorem wpList_lookI (hg : o.guard = none) (m x : Operand) (t : TypeId) (hop : o.op = Op.lookup t m x false) (K e : TypeId) (hk : P.underlying K = some (.int .i64)) (ht : P.underlying t = some (.map K e)) {z : Value} (hz : (zeroValue e).run P w = .ok z w)
    (b n : Nat) (f : Int → Option Value) (hm : a.eval m = .map (some b)) (hown : MapI P K w b n f) (q : Int) (hx : a.eval x = .int .i64 q) (hq : -9223372036854775808 ≤ q ∧ q ≤ 9223372036854775807)
    (hK : wpList P ops Q rest (a.put o.dst ((f q).getD z)) w) : wpList P ops Q (o :: rest) a w := by
  obtain ⟨D, hD, hv⟩ := hown
  obtain ⟨h1, h2⟩ := hv q hq
  obtain ⟨v, ps, hrun, hvv⟩ := hD.lookup (int_keyed hk) ht hz (show heldR z = some (.held z, []) from rfl) (keyOf_int_mk hk (WalkArith.wf_i64 hq))
  have : v = (f q).getD z := by
    have h3 := h2 (.held z)
    unfold heldR at hvv
    simp only [Option.some.injEq, Prod.mk.injEq] at hvv
    cases hfq : f q with
    | some u => rw [hfq] at h3; have := hvv.1.trans h3; cases this; rfl
    | none => rw [hfq] at h3; have := hvv.1.trans h3; cases this; rfl
  rw [this] at hrun
  refine wpList_plain hg fun K' hK' => ?_
  unfold Oper.wp
  simp [execOp, hop, hm, hx, hrun, Result.andThen]
  exact hK' _ _ hK
/-- 'm[k] = v' -/
theorem wpList_putI (hg : o.guard = none) (m x v : Operand) (t : TypeId) (hop : o.op = Op.mapUpdate t m x v) (K e : TypeId) (hk : P.underlying K = some (.int .i64)) (ht : P.underlying t = some (.map K e))
    (b n : Nat) (f : Int → Option Value) (hm : a.eval m = .map (some b)) (hown : MapI P K w b n f) (hn : n < maxLen) (q : Int) (u : Value) (hx : a.eval x = .int .i64 q) (hu : a.eval v = u) (hq : -9223372036854775808 ≤ q ∧ q ≤ 9223372036854775807)
    (hK : ∀ w', MapI P K w' b (n + 1) (fun y => if y = q then some u else f y) → w.grownBy w' (some b) → wpList P ops Q rest (a.put o.dst undef) w') : wpList P ops Q (o :: rest) a w := by
  obtain ⟨D, hD, hv⟩ := hown
  have hkey := keyOf_int_mk hk (WalkArith.wf_i64 hq)
  refine wpList_mapUpdate_own w hg m x v t hop K e (int_keyed hk) ht heldR b n D hm hD hn (.int .i64 q) u (.int .i64 q) hx hu hkey (.held u) [] rfl ?_
  intro w1 h1 hg1
  refine hK w1 ⟨_, h1, fun y hy => ?_⟩ hg1
  by_cases e : y = q
  · subst e
    simp only [if_true]
    exact ⟨Maps.has_put_same hD.isMap ((int_keyed hk).key hkey) _, fun z => Maps.atKey_put_same hD.isMap ((int_keyed hk).key hkey) _ _⟩
  · have hne : Lit.int .i64 y ≠ Lit.int .i64 q := fun h => e (by cases h; rfl)
    simp only [if_neg e]
    rw [Maps.has_put_other hne]
    refine ⟨(hv y hy).1, fun z => ?_⟩
    rw [Maps.atKey_put_other hne]
    exact (hv y hy).2 z
theorem MapI.clear {K e t : TypeId} {b n : Nat} {f : Int → Option Value} (h : MapI P K w b n f) (ht : P.underlying t = some (.map K e)) (ty : TypeId) :
    ∃ w', (Builtin.clear_ #[t] ty #[.map (some b)]).run P w = .ok (.tuple #[]) w' ∧ MapI P K w' b 0 (fun _ => none) ∧ w.grownBy w' (some b) := by
  obtain ⟨D, ⟨es, clock, hb, F, hs, hD⟩, hv⟩ := h
  refine ⟨setBlock w b (.map #[] clock), ?_, ⟨.map [], ⟨#[], clock, heap_setBlock_same hb _, ⟨by simp, stamped_empty clock, by simp⟩, Nat.le_refl _, rfl⟩, fun _ _ => ⟨rfl, fun _ => rfl⟩⟩, ⟨rfl, rfl, rfl, by simp [setBlock], fun i _ hi => heap_setBlock_other hb _ (fun e => hi (by rw [e]))⟩⟩
  simp [Builtin.clear_, run_underlying ht, MapKept.run_getObj_map hb, MapKept.run_setObj_map (.map #[] clock) hb, setBlock, Result.andThen]
/-- 'clear(m)' -/
theorem wpList_clearI (hg : o.guard = none) (m : Operand) (t : TypeId) (hop : o.op = Op.call { callee := Callee.builtin Builtin.clear, args := #[m], argTypes := #[t] }) (K e : TypeId) (ht : P.underlying t = some (.map K e))
    (b n : Nat) (f : Int → Option Value) (hm : a.eval m = .map (some b)) (hown : MapI P K w b n f)
    (hK : ∀ w', MapI P K w' b 0 (fun _ => none) → w.grownBy w' (some b) → wpList P ops Q rest (a.put o.dst (.tuple #[])) w') : wpList P ops Q (o :: rest) a w := by
  refine wpList_plain hg fun K' hK' => ?_
  obtain ⟨w', hrun, r1, r2⟩ := MapI.clear w hown ht o.type
  unfold Oper.wp
  simp [execOp, hop, resolve, invoke, builtin, hm, hrun, Result.andThen]
  exact hK' _ _ (hK w' r1 r2)
end
/-- 'for k, v := range m' under way: which keys are still to come, and how many -/
def RangeI (P : Program) (K : TypeId) (w : World) (b r n : Nat) (f : Int → Option Value) (left : Int → Bool) (cnt : Nat) : Prop :=
  ∃ (D : DataW Value) (lf : Lit → Bool), w.ranges P K heldR b r n D lf cnt ∧ ViewI D f ∧ ∀ a : Int, lf (.int .i64 a) = left a
section
variable {P : Program} {K : TypeId} {w w' : World} {b r n : Nat} {f : Int → Option Value} {left : Int → Bool} {cnt : Nat}
theorem RangeI.owns (h : RangeI P K w b r n f left cnt) : MapI P K w b n f := let ⟨D, lf, h1, h2, _⟩ := h; ⟨D, h1.owns, h2⟩
theorem RangeI.left_eq (h : RangeI P K w b r n f left cnt) : w.rangeLeft b r = cnt := let ⟨_, _, h1, _⟩ := h; h1.left_eq
theorem RangeI.ne (h : RangeI P K w b r n f left cnt) : r ≠ b := let ⟨_, _, h1, _⟩ := h; h1.ne
theorem RangeI.lt (h : RangeI P K w b r n f left cnt) : r < w.heap.size := let ⟨_, _, h1, _⟩ := h; h1.lt
theorem RangeI.kept {row : Option Nat} (h : RangeI P K w b r n f left cnt) (hg : w.grownBy w' row) (hb' : some b ≠ row) (hr' : some r ≠ row) : RangeI P K w' b r n f left cnt := let ⟨D, lf, h1, h2, h3⟩ := h; ⟨D, lf, h1.kept hg hb' hr', h2, h3⟩
theorem RangeI.alloc (h : RangeI P K w b r n f left cnt) (o : Obj) : RangeI P K (w.alloc o) b r n f left cnt := let ⟨D, lf, h1, h2, h3⟩ := h; ⟨D, lf, h1.alloc o, h2, h3⟩
theorem RangeI.drew (h : RangeI P K w b r n f left cnt) : RangeI P K w.drew b r n f left cnt := h
end
section
variable {P : Program} (w : World) {ops : Array Oper} {rest : List Oper} {o : Oper} {a : Act} {Q : Exit → Act → World → Prop}
/-- 'range m' -/
theorem wpList_rangeI (hg : o.guard = none) (m : Operand) (t : TypeId) (hop : o.op = Op.range t m) (K e : TypeId) (hk : P.underlying K = some (.int .i64)) (ht : P.underlying t = some (.map K e)) (b n : Nat) (f : Int → Option Value)
    (hm : a.eval m = .map (some b)) (hown : MapI P K w b n f)
    (hK : ∀ w' left cnt, RangeI P K w' b w.heap.size n f left cnt → (∀ q : Int, -9223372036854775808 ≤ q ∧ q ≤ 9223372036854775807 → left q = (f q).isSome) → w.grownBy w' none → w'.heap.size = w.heap.size + 1 → wpList P ops Q rest (a.put o.dst (.pointer (some ⟨w.heap.size, 0, none⟩))) w') :
    wpList P ops Q (o :: rest) a w := by
  obtain ⟨D, hD, hv⟩ := hown
  refine wpList_range_own w hg m t hop K e (int_keyed hk) ht heldR b n D hm hD ?_
  intro w1 h1 h2 h3
  exact hK w1 (fun q => Maps.has D (.int .i64 q)) _ ⟨D, _, h1, hv, fun _ => rfl⟩ (fun q hq => (hv q hq).1) h2 h3
/-- the step -/
theorem wpList_nextI (hg : o.guard = none) (it : Operand) (hop : o.op = Op.next it false) (K : TypeId) (hk : P.underlying K = some (.int .i64)) (b r n : Nat) (f : Int → Option Value) (left : Int → Bool) (cnt : Nat)
    (hit : a.eval it = .pointer (some ⟨r, 0, none⟩)) (h : RangeI P K w b r n f left cnt)
    (hDone : cnt = 0 → (∀ q, left q = false) → wpList P ops Q rest (a.put o.dst (.tuple #[.bool false])) w)
    (hMore : ∀ (x : Int) (c : Value) (w' : World) (cnt' : Nat), -9223372036854775808 ≤ x ∧ x ≤ 9223372036854775807 → left x = true → f x = some c → RangeI P K w' b r n f (fun q => left q && !decide (q = x)) cnt' → cnt' < cnt →
      w.grownBy w' (some r) → w'.heap.size = w.heap.size → (Instr.entry (.pointer (some ⟨r, 0, none⟩))).run P w' = .ok (.tuple #[.int .i64 x, c]) w' → wpList P ops Q rest (a.put o.dst (.tuple #[.bool true, .int .i64 x, c])) w') :
    wpList P ops Q (o :: rest) a w := by
  obtain ⟨D, lf, h1, hv, hl⟩ := h
  refine wpList_next_ranges (α := Int) (β := Value) w hg it hop K (int_keyed hk) heldR (Value.int .i64) id (fun key kl hkey => by obtain ⟨x, rfl, _⟩ := Maps.keyOf_int_inv hk hkey; exact ⟨x, rfl⟩) (fun v y _ => ⟨v, rfl⟩) b r n D lf cnt hit h1 (fun h0 hlf => hDone h0 fun q => by rw [← hl q]; exact hlf _) ?_
  intro x c kl y w1 cnt1 hkey hlk hRc hat hrg hlt hgr hsz hen
  obtain ⟨x', ex, rfl, hwx⟩ := Maps.keyOf_int_inv hk hkey
  cases ex
  have hq : -9223372036854775808 ≤ x ∧ x ≤ 9223372036854775807 := by simpa [Lit.wf, IntKind.min, IntKind.max, IntKind.signed, IntKind.bits] using hwx
  have hf : f x = some c := by
    have h2 := (hv x hq).2 .nil
    rw [hat .nil] at h2
    unfold heldR at hRc
    simp only [Option.some.injEq] at hRc
    rw [← hRc] at h2
    cases hfx : f x with
    | some u => rw [hfx] at h2; cases h2; rfl
    | none => rw [hfx] at h2; cases h2
  refine hMore x c w1 cnt1 hq (by rw [← hl x]; exact hlk) hf ⟨D, _, hrg, hv, fun q => ?_⟩ hlt hgr hsz hen
  show (lf (.int .i64 q) && !(Lit.int .i64 q).sameKey (.int .i64 x)) = _
  rw [hl q]
  by_cases e : q = x
  · subst e
    rw [WideAt.sameKey_self ((int_keyed hk).key hkey)]
    simp
  · rw [Maps.sameKey_ne (fun h => e (by cases h; rfl))]
    simp [e]
end
end Go.Proofs.YthabjnppmhlomaaDoor
