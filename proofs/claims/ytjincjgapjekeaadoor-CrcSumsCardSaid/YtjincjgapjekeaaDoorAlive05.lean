/- Layer 5's example: alive() is true. -/
import Derived.Test.YtjincjgapjekeaaDoorOpen
import Derived.Lib.SlBytesConst
namespace Go.Proofs.YtjincjgapjekeaaDoor
open Go Go.RowKit
set_option linter.unusedVariables false
theorem rowB_lits (w : World) (bs : List UInt8) (cs : Array Value) (fz : Nat × Nat) (h : cs = (bs.map BV).toArray) (n : Nat) (hn : n = bs.length) (hm : n ≤ 1000) : RowB (w.alloc (.cells cs 5 fz)) (.slice (some ⟨w.heap.size, 0, none⟩) n n) bs := by
  subst h
  subst hn
  have hh := heap_alloc_new w (.cells (bs.map BV).toArray 5 fz)
  refine .inr ⟨w.heap.size, 0, bs.length, rfl, Nat.le_refl _, by unfold maxLen; omega, lt_of_block hh, fun j u hu => ?_⟩
  rw [Nat.zero_add, cell_of_row _ _ _ _ _ _ hh]
  simpa using hu
def nine : List UInt8 := [49, 50, 51, 52, 53, 54, 55, 56, 57]
theorem csum9 : csum nine = 3421780262 := by decide +kernel
theorem openK_nil : openK [] = 2 := rfl
set_option maxRecDepth 100000 in
theorem alive05 (ea : Nat → Addr) (w : World) (he1 : ErrAt w 2 (ea 1)) (he2 : ErrAt w 0 (ea 2)) (he18 : ErrAt w 1 (ea 18)) :
    Calls Tryd.prog 26 #[] w fun e w' => e = .returned (.bool true) ∧ Below w.heap.size w w' := by
  have HE1 : Hid (∀ w', Below w.heap.size w w' → ErrAt w' 2 (ea 1)) := fun w' hb => he1.stays hb
  have HE2 : Hid (∀ w', Below w.heap.size w w' → ErrAt w' 0 (ea 2)) := fun w' hb => he2.stays hb
  have HE18 : Hid (∀ w', Below w.heap.size w w' → ErrAt w' 1 (ea 18)) := fun w' hb => he18.stays hb
  have HC : Hid (∀ T, Calls Tryd.prog 28 #[.slice (some ⟨w.heap.size + 1, 0, none⟩) 1 1] ((w.alloc (.cells #[.int .u8 49, .int .u8 50, .int .u8 51, .int .u8 52, .int .u8 53, .int .u8 54, .int .u8 55, .int .u8 56, .int .u8 57] 5 (9, 10))).alloc (.cells #[.slice (some ⟨w.heap.size, 0, none⟩) 9 9] T)) fun e w' => e = .returned (.int .u32 3421780262) ∧ Below w.heap.size w w') := fun T => by
    have hrow := rowB_lits w nine _ (9, 10) rfl 9 rfl (by decide)
    have hb0 : Below w.heap.size w (w.alloc (.cells (nine.map BV).toArray 5 (9, 10))) := (Below.refl w.heap.size w).alloc (Nat.le_refl _) _
    have hsz : (w.alloc (.cells (nine.map BV).toArray 5 (9, 10))).heap.size = w.heap.size + 1 := by simp
    have h := csum1_any _ T _ nine hrow (by decide)
    rw [hsz, csum9] at h
    refine h.mono ?_
    rintro e w' ⟨rfl, hb⟩
    exact ⟨rfl, hb0.trans (hb.mono (by omega))⟩
  have kc := fun (w : World) (C : Array Value) (n c : Nat) => Lib.run_convert_bytes_const (P := Tryd.prog) w 22 5 C n c Tryd.underlying22 Tryd.underlying5
  clear he1 he2 he18
  go_enter Tryd.func26, Tryd.ntmps26
  go_wp2_with fail
  refine (HC.out _).mono ?_
  rintro e w1 ⟨rfl, hb1⟩
  have HSl := Lib.hid (seal_any (.slice (some ⟨w1.heap.size, 0, none⟩) 1 1) [97] (w1.alloc (.cells #[.int .u8 97] 5 (1, 2))) (rowB_lits w1 [97] _ (1, 2) rfl 1 rfl (by decide)) (by decide))
  clear HC
  go_wp2_with fail
  refine HSl.out.mono ?_
  rintro e w2 ⟨v2, rfl, ho2, hb2⟩
  have hb12 := ((Below.refl w1.heap.size w1).alloc (Nat.le_refl _) (.cells #[.int .u8 97] 5 (1, 2))).trans (hb2.mono (by simp))
  have hbe2 := hb1.trans (hb12.mono hb1.size)
  have hR := right_any ea v2 (sealed [97]) w2 ho2.row (by rw [sealed_len]; decide) (HE1.out _ hbe2) (HE2.out _ hbe2) (HE18.out _ hbe2)
  rw [openK_sealed] at hR
  have HR := Lib.hid hR
  clear HSl ho2 hb2 hb12 hb1 hR
  go_wp2_with fail
  refine HR.out.mono ?_
  rintro e w3 ⟨rfl, hb3⟩
  have hbe3 := hbe2.trans (hb3.mono hbe2.size)
  have hR := right_any ea (.slice none 0 0) [] w3 (RowB.nil _) (by decide) (HE1.out _ hbe3) (HE2.out _ hbe3) (HE18.out _ hbe3)
  rw [openK_nil] at hR
  have HR2 := Lib.hid hR
  clear HR hb3 hbe2 hR
  have z0 : ((0 : Nat) == 0) = true := rfl
  have z2 : ((2 : Nat) == 0) = false := rfl
  go_wp2_with fail
  refine HR2.out.mono ?_
  rintro e w4 ⟨rfl, hb4⟩
  have hbe4 := hbe3.trans (hb4.mono hbe3.size)
  clear HR2 hb4 hbe3
  go_wp2_with fail
  go_ret
  exact ⟨rfl, hbe4⟩
end Go.Proofs.YtjincjgapjekeaaDoor
