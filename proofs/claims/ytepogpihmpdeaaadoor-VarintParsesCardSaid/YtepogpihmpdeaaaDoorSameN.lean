/- redlinenum.SameNumbers: whether two rows of numbers are the same. -/
import Derived.Test.YtepogpihmpdeaaaDoorLib
import Derived.BigQuiet
import Derived.Deep.QuietTactic
namespace Go.Proofs.YtepogpihmpdeaaaDoor
open Go Go.RowKit
theorem ne_of_get {α : Type} {l m : List α} {j : Nat} {x y : α} (hx : l[j]? = some x) (hy : m[j]? = some y) (h : x ≠ y) : l ≠ m := by
  rintro rfl; rw [hx] at hy; exact h (Option.some.inj hy)
set_option maxRecDepth 100000 in
theorem sameN_any (v v' : Value) (ns ms : List Nat) (w : World) (hr : RowL UV w v ns) (hr' : RowL UV w v' ms) (hlen : ns.length ≤ 100000000) (hlen' : ms.length ≤ 100000000) :
    Calls Tryd.prog 24 #[v, v'] w fun e w' => e = .returned (.bool (decide (ns = ms))) ∧ Below w.heap.size w w' := by
  obtain ⟨a, c, rfl, _, hin⟩ := hr.shape
  obtain ⟨a', c', rfl, _, hin'⟩ := hr'.shape
  clear hr hr'
  have HI := Lib.hid hin
  have HJ := Lib.hid hin'
  clear hin hin'
  by_cases hl : ns.length = ms.length
  · have hlb : ((ns.length : Int) != (ms.length : Int)) = false := by simp; omega
    have HL := Lib.hid hl
    clear hl
    go_enter Tryd.func24, Tryd.ntmps24
    go_wp2_with fail
    go_loopw [13] (fun i wr => ∃ k : Nat, k ≤ ns.length ∧ i = .int .i64 k ∧ Hid (ns.take k = ms.take k) ∧ Below w.heap.size w wr) (fun i _ => ns.length - (intOf i).toNat)
    case atStart => exact ⟨0, Nat.zero_le _, rfl, by simp [Hid], Below.refl _ _⟩
    case round =>
      obtain ⟨k, hk, rfl, htk, hbe⟩ := hrel
      by_cases hlt : k < ns.length
      · have hlt' : k < ms.length := by have := HL.out; omega
        obtain ⟨x, hx⟩ : ∃ x, ns[k]? = some x := ⟨_, List.getElem?_eq_getElem hlt⟩
        obtain ⟨y, hy⟩ : ∃ y, ms[k]? = some y := ⟨_, List.getElem?_eq_getElem hlt'⟩
        obtain ⟨b, o, rfl, hcx⟩ := HI.out k x hx
        obtain ⟨b', o', rfl, hcy⟩ := HJ.out k y hy
        have hcx' : wr.cell? ⟨b, o + k, none⟩ = some (.int .u64 x) := (hbe.cell (p := ⟨b, o + k, none⟩) (World.block_lt_of_cell? w ⟨b, o + k, none⟩ hcx)).trans hcx
        have hcy' : wr.cell? ⟨b', o' + k, none⟩ = some (.int .u64 y) := (hbe.cell (p := ⟨b', o' + k, none⟩) (World.block_lt_of_cell? w ⟨b', o' + k, none⟩ hcy)).trans hcy
        clear hcx hcy
        have HX := Lib.hid hx
        have HY := Lib.hid hy
        clear hx hy
        by_cases hxy : x = y
        · have hxyb : ((x : Int) != (y : Int)) = false := by simp; omega
          have HXY := Lib.hid hxy
          clear hxy
          go_wp2_with fail
          go_region
          all_goals go_wp2_with fail
          all_goals go_roundw
          case rel =>
            refine ⟨k + 1, by omega, by go_num, ?_, hbe.drew⟩
            have hX := HX.out
            have hY := HY.out
            show _ = _
            rw [List.take_add_one, List.take_add_one, htk.out, hX, hY, HXY.out]
          case measure => simp [intOf]; omega
        · have hxyb : ((x : Int) != (y : Int)) = true := by simp; omega
          have hne := Lib.hid (ne_of_get HX.out HY.out hxy)
          clear hxy
          go_wp2_with fail
          go_region
          all_goals go_wp2_with fail
          all_goals go_ret
          all_goals exact ⟨ret1 (by rw [decide_eq_false hne.out]; rfl), hbe.drew⟩
      · obtain rfl : k = ns.length := by omega
        have heq : Hid (ns = ms) := by
          have h1 := htk.out
          have h2 := HL.out
          rw [List.take_length, h2, List.take_length] at h1; exact h1
        clear htk
        go_wp2_with fail
        go_ret
        exact ⟨ret1 (by rw [decide_eq_true heq.out]; rfl), hbe⟩
  · have hlb : ((ns.length : Int) != (ms.length : Int)) = true := by simp; omega
    have hne : Hid (ns ≠ ms) := by rintro rfl; exact hl rfl
    clear hl
    go_enter Tryd.func24, Tryd.ntmps24
    go_wp2_with fail
    go_ret
    exact ⟨ret1 (by rw [decide_eq_false hne.out]; rfl), Below.refl _ _⟩
end Go.Proofs.YtepogpihmpdeaaaDoor
