/- slices.Clone, Reverse, Equal at []int. -/
import Derived.Test.YthabjnppmhlomaaDoorLib
import Derived.Lib.SliceRun
namespace Go.Proofs.YthabjnppmhlomaaDoor
open Go Go.RowKit
set_option linter.unusedVariables false
theorem infoZ0 : (Tryd.prog.info? 3).map (fun i => (i.zero, i.size, i.bytes)) = some (some (.int .i64 0), 1, 8) := by kernel_rfl
def eqB (xs ys : List Int) : Bool := xs == ys
theorem eqB_yes {xs ys : List Int} (h : xs = ys) : eqB xs ys = true := by unfold eqB; simpa using h
theorem eqB_no {xs ys : List Int} (h : xs ≠ ys) : eqB xs ys = false := by unfold eqB; simpa using h
set_option maxRecDepth 100000 in
theorem cloneZ_any (v : Value) (xs : List Int) (w : World) (hr : RowZ w v xs) (hlen : xs.length ≤ 100000000) :
    Calls Tryd.prog 22 #[v] w fun e w' => ∃ v', e = .returned v' ∧ OwnL 3 IV w.heap.size w' v' xs ∧ Below w.heap.size w w' := by
  have hr' : ∀ o, RowL IV (w.alloc o) v xs := fun o => hr.gen.alloc o
  obtain ⟨a, n, c, rfl, hnil⟩ : ∃ a n c, v = .slice a n c ∧ (a = none → xs = []) := by
    obtain ⟨a, c, h, _, h2⟩ := hr.gen.shape
    refine ⟨a, _, c, h, fun h3 => ?_⟩
    cases xs with
    | nil => rfl
    | cons x xs => obtain ⟨b, o, h4, _⟩ := h2 0 x rfl; rw [h3] at h4; cases h4
  clear hr
  have hown : Hid (OwnL 3 IV w.heap.size (w.alloc (.cells #[] 3)) (.slice (some ⟨w.heap.size, 0, none⟩) 0 0) []) := OwnL.made w
  have qT : ∀ (w : World) (a : Option Addr) (n c n' c' : Nat), (binOp .eql 23 (.slice a n c) (.slice none n' c')).run Tryd.prog w = .ok (.bool a.isNone) w := fun w a n c n' c' => Lib.run_eql_slice_nil w _ _ a n c n' c' Tryd.underlying23
  rcases a with _ | ad
  · obtain rfl := hnil rfl
    go_enter Tryd.func22, Tryd.ntmps22
    go_wp2
    go_ret
    exact ⟨_, rfl, OwnL.nil _ _, Below.refl _ _⟩
  · go_enter Tryd.func22, Tryd.ntmps22
    go_wp2_with (at_builtin; go_must (refine wpList_appendL IV_one Tryd.underlying23 infoZ0 rfl (by decide) hown.out (hr' _) (by simp; omega) (by simp) rfl _ _ rfl (by rfl) (by rfl) ?_))
    intro v' w' how hg _ _
    have hb : Below w.heap.size w w' := ((Below.refl _ _).alloc (Nat.le_refl _) _).grown hg (by simp) (fun k hk => by simp [Value.ownBlock] at hk; omega)
    clear hg
    go_wp2
    go_ret
    exact ⟨_, rfl, how, hb⟩
end Go.Proofs.YthabjnppmhlomaaDoor
