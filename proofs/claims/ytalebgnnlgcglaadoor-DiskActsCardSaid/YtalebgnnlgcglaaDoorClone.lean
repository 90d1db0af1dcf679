/- slices.Clone at []byte: a copy in new memory; nil of nil. -/
import Derived.Test.YtalebgnnlgcglaaDoorLib
import Derived.Lib.SliceRun
namespace Go.Proofs.YtalebgnnlgcglaaDoor
open Go Go.RowKit
set_option linter.unusedVariables false
set_option maxRecDepth 100000 in
theorem clone_any (v : Value) (bs : List UInt8) (w : World) (hr : RowB w v bs) (hlen : bs.length ≤ 100000000) :
    Calls Tryd.prog 24 #[v] w fun e w' => ∃ v', e = .returned v' ∧ OwnB w.heap.size w' v' bs ∧ Below w.heap.size w w' := by
  have hr' : ∀ o, RowB (w.alloc o) v bs := fun o => hr.alloc o
  obtain ⟨a, n, c, rfl, hnil⟩ : ∃ a n c, v = .slice a n c ∧ (a = none → bs = []) := by
    rcases hr.open with ⟨h0, a, c, h⟩ | ⟨b, o, c, h, _⟩
    · exact ⟨_, _, _, h, fun _ => h0⟩
    · exact ⟨_, _, _, h, fun h => by cases h⟩
  clear hr
  have hown : Hid (OwnB w.heap.size (w.alloc (.cells #[] 5)) (.slice (some ⟨w.heap.size, 0, none⟩) 0 0) []) := OwnB.made w
  have qT : ∀ (w : World) (a : Option Addr) (n c n' c' : Nat), (binOp .eql 22 (.slice a n c) (.slice none n' c')).run Tryd.prog w = .ok (.bool a.isNone) w := fun w a n c n' c' => Lib.run_eql_slice_nil w _ _ a n c n' c' Tryd.underlying22
  rcases a with _ | ad
  · obtain rfl := hnil rfl
    go_enter Tryd.func24, Tryd.ntmps24
    go_wp2
    go_ret
    exact ⟨_, rfl, OwnB.nil _ _, Below.refl _ _⟩
  · go_enter Tryd.func24, Tryd.ntmps24
    go_wp2_with (at_builtin; go_must (refine wpList_appendB hown.out (hr' _) (by simp; omega) (by simp) rfl _ _ rfl (by rfl) (by rfl) ?_))
    intro v' w' how hg _ _
    have hb : Below w.heap.size w w' := ((Below.refl _ _).alloc (Nat.le_refl _) _).grown hg (by simp) (fun k hk => by simp [Value.ownBlock] at hk; omega)
    clear hg
    go_wp2
    go_ret
    exact ⟨_, rfl, how, hb⟩
end Go.Proofs.YtalebgnnlgcglaaDoor
