/- crc.Seal: bytes and their sum. -/
import Derived.Test.YtgehbabcpmkgaaaDoorMore
import Derived.Test.YtgehbabcpmkgaaaDoorFput
namespace Go.Proofs.YtgehbabcpmkgaaaDoor
open Go Go.RowKit
set_option linter.unusedVariables false
theorem row1 (w : World) (T : TypeId) (x : Value) (a : List UInt8) : RowL Prod.fst (w.alloc (.cells #[x] T)) (.slice (some ⟨w.heap.size, 0, none⟩) 1 1) [(x, a)] := by
  have hct := CellsAt.new w #[x] T
  refine .inr ⟨w.heap.size, 0, 1, rfl, Nat.le_refl _, by decide, hct.lt, fun j u hu => ?_⟩
  rw [Nat.zero_add]
  exact hct.cell j (by simpa using hu)
theorem row2 (w : World) (T : TypeId) (x y : Value) (a b : List UInt8) : RowL Prod.fst (w.alloc (.cells #[x, y] T)) (.slice (some ⟨w.heap.size, 0, none⟩) 2 2) [(x, a), (y, b)] := by
  have hct := CellsAt.new w #[x, y] T
  refine .inr ⟨w.heap.size, 0, 2, rfl, Nat.le_refl _, by decide, hct.lt, fun j u hu => ?_⟩
  rw [Nat.zero_add]
  exact hct.cell j (by simpa using hu)
theorem joined2 (x y : Value) (a b : List UInt8) : joined [(x, a), (y, b)] = a ++ b := by simp [joined]
theorem joined1 (x : Value) (a : List UInt8) : joined [(x, a)] = a := by simp [joined]
/-- crc.Sum of one part, in the world behind the making of its row -/
theorem csum1_any (w : World) (T : TypeId) (v : Value) (bs : List UInt8) (hr : RowB w v bs) (hlen : bs.length ≤ 1000000) :
    Calls Tryd.prog 114 #[.slice (some ⟨w.heap.size, 0, none⟩) 1 1] (w.alloc (.cells #[v] T)) fun e w' => e = .returned (.int .u32 (csum bs)) ∧ Below w.heap.size w w' := by
  have hb : Below w.heap.size w (w.alloc (.cells #[v] T)) := (Below.refl _ _).alloc (Nat.le_refl _) _
  refine (csum_any _ [(v, bs)] _ (row1 w T v bs) (fun p hp => by
    simp only [List.mem_singleton] at hp; subst hp; exact hr.stays hb) (fun p hp => by
    simp only [List.mem_singleton] at hp; subst hp; exact hlen) (by simp)).mono ?_
  rw [joined1]
  rintro e w' ⟨rfl, hb2⟩
  exact ⟨rfl, hb.trans (hb2.mono hb.size)⟩
/-- sealed bytes -/
def sealed (bs : List UInt8) : List UInt8 := bs ++ fput 4 (csum bs)
theorem sealed_len (bs : List UInt8) : (sealed bs).length = bs.length + 4 := by unfold sealed; rw [List.length_append, fput_len]
theorem sealed_take (bs : List UInt8) : (sealed bs).take ((sealed bs).length - 4) = bs := by
  rw [sealed_len, Nat.add_sub_cancel]; unfold sealed; exact List.take_left
theorem sealed_drop (bs : List UInt8) : (sealed bs).drop ((sealed bs).length - 4) = fput 4 (csum bs) := by
  rw [sealed_len, Nat.add_sub_cancel]; unfold sealed; exact List.drop_left
theorem seal_any (v : Value) (bs : List UInt8) (w : World) (hr : RowB w v bs) (hlen : bs.length ≤ 1000000) :
    Calls Tryd.prog 74 #[v] w fun e w' => ∃ v', e = .returned v' ∧ OwnB w.heap.size w' v' (sealed bs) ∧ Below w.heap.size w w' := by
  obtain ⟨a, c, rfl, -, -⟩ := hr.gen.shape
  have HS := Lib.hid (fun T => csum1_any w T _ bs hr hlen)
  have hcl := csum_lt bs
  go_enter Tryd.func74, Tryd.ntmps74
  go_wp2_with fail
  refine (HS.out _).mono ?_
  rintro e w1 ⟨rfl, hb1⟩
  have HP := Lib.hid (put32_any _ bs (csum bs) w1 hcl hlen (hr.stays hb1))
  clear HS hr hcl
  go_wp2_with fail
  refine HP.out.mono ?_
  rintro e w2 ⟨v2, rfl, ho, hb2⟩
  go_wp2_with fail
  go_ret
  exact ⟨v2, rfl, ho.mono hb1.size, hb1.trans (hb2.mono hb1.size)⟩
end Go.Proofs.YtgehbabcpmkgaaaDoor
