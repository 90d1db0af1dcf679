/- redlinenum.SameInts as a quiet call. -/
import Derived.Test.YtbcpciegdmminaaGreatDoorInts
import Derived.BigQuiet
import Derived.Deep.QuietTactic
namespace Go.Proofs.YtbcpciegdmminaaGreatDoor
open Go Go.RowKit
set_option linter.unusedVariables false
set_option maxRecDepth 100000 in
theorem sameZ_quiet (va vb : Value) (xs ys : List Int) (w : World) (ha : RowZ w va xs) (hb : RowZ w vb ys) (hlx : xs.length ≤ 100000000) (hly : ys.length ≤ 100000000) :
    Calls Tryz.prog 21 #[va, vb] w fun e w' => e = .returned (.bool (eqB xs ys)) ∧ ∃ m, w' = w.drewN m := by
  obtain ⟨aa, ca, rfl, -, hia⟩ := ha.gen.shape
  obtain ⟨ab, cb, rfl, -, hib⟩ := hb.gen.shape
  have HIA := Lib.hid hia
  have HIB := Lib.hid hib
  clear ha hb hia hib
  by_cases h : xs.length = ys.length
  · have e1 : ((xs.length : Int) != ys.length) = false := by simp [h]
    have e1' : (xs.length != ys.length) = false := by simp [h]
    have HL := Lib.hid h
    clear h
    go_enter Tryz.func21, Tryz.ntmps21
    go_wp2_with fail
    go_loopw [13] (fun x wr => ∃ k : Nat, k ≤ xs.length ∧ x = .int .i64 k ∧ Hid (xs.take k = ys.take k) ∧ ∃ q, wr = w.drewN q) (fun x _ => xs.length - (intOf x).toNat)
    case atStart => exact ⟨0, Nat.zero_le _, rfl, rfl, 0, rfl⟩
    case round =>
      obtain ⟨k, hk, rfl, HT, q, rfl⟩ := hrel
      by_cases h1 : k < xs.length
      · have h2 : k < ys.length := by have := HL.out; omega
        obtain ⟨gb, ob, rfl, hcb⟩ := HIB.out k _ (List.getElem?_eq_getElem h2)
        obtain ⟨ga, oa, rfl, hca⟩ := HIA.out k _ (List.getElem?_eq_getElem h1)
        have d3 : w.cell? ⟨ga, oa + k, none⟩ = some (.int .i64 xs[k]) := hca
        have d4 : w.cell? ⟨gb, ob + k, none⟩ = some (.int .i64 ys[k]) := hcb
        clear hca hcb
        by_cases h3 : xs[k] = ys[k]
        · have e3 : (xs[k] != ys[k]) = false := by simp [h3]
          have HT2 : Hid (xs.take (k + 1) = ys.take (k + 1)) := by show _ = _; rw [List.take_succ_eq_append_getElem h1, List.take_succ_eq_append_getElem h2, HT.out, h3]
          clear h3
          go_wp2_with fail
          go_region
          all_goals go_wp2_with fail
          all_goals go_roundw
          case rel => exact ⟨k + 1, h1, by go_num, HT2, q + 1, rfl⟩
          case measure => simp only [intOf]; omega
        · have e3 : (xs[k] != ys[k]) = true := by simp [h3]
          have HN : Hid (eqB xs ys = false) := eqB_no (fun h => h3 (by subst h; rfl))
          clear h3
          go_wp2_with fail
          go_region
          all_goals go_wp2_with fail
          all_goals go_ret
          all_goals exact ⟨ret1 (by rw [HN.out]; rfl), q + 1, rfl⟩
      · obtain rfl : xs.length = k := by omega
        have HN : Hid (eqB xs ys = true) := eqB_yes (by have := HT.out; rw [List.take_length, HL.out, List.take_length] at this; exact this)
        clear HT
        go_wp2_with fail
        go_ret
        exact ⟨ret1 (by rw [HN.out]; rfl), q, rfl⟩
  · have e1 : ((xs.length : Int) != ys.length) = true := by simp; omega
    have e1' : (xs.length != ys.length) = true := by simp; omega
    have HN : Hid (eqB xs ys = false) := eqB_no (fun h2 => h (by rw [h2]))
    clear h
    go_enter Tryz.func21, Tryz.ntmps21
    go_wp2_with fail
    go_ret
    exact ⟨ret1 (by rw [HN.out]; rfl), 0, rfl⟩
theorem sameZ_any (va vb : Value) (xs ys : List Int) (w : World) (ha : RowZ w va xs) (hb : RowZ w vb ys) (hlx : xs.length ≤ 100000000) (hly : ys.length ≤ 100000000) :
    Calls Tryz.prog 21 #[va, vb] w fun e w' => e = .returned (.bool (eqB xs ys)) ∧ Below w.heap.size w w' :=
  (sameZ_quiet va vb xs ys w ha hb hlx hly).mono fun e w' h => by
    obtain ⟨h1, m, h2⟩ := h
    exact ⟨h1, by rw [h2]; exact ⟨rfl, rfl, rfl, Nat.le_refl _, fun _ _ => rfl⟩⟩
end Go.Proofs.YtbcpciegdmminaaGreatDoor
