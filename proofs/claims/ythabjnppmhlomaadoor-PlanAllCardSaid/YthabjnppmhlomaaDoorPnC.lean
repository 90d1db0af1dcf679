/- cmp.Compare, cmp.Or, slices.Compare at ints; which trip comes first. -/
import Derived.Test.YthabjnppmhlomaaDoorPnB
import Derived.Test.YthabjnppmhlomaaDoorInts
import Derived.BigQuiet
import Derived.WalkLawsBesides
import Derived.Deep.RegionHeld3
import Derived.IntWalk
namespace Go.Proofs.YthabjnppmhlomaaDoor
open Go Go.RowKit
set_option linter.unusedVariables false
theorem nanI_any (x : Int) (w : World) : Calls Tryd.prog 56 #[.int .i64 x] w fun e w' => e = .returned (.bool false) ∧ w = w' := by
  have t1 : (x != x) = false := by simp
  go_enter Tryd.func56, Tryd.ntmps56
  go_wp2_with fail
  go_ret
  exact ⟨rfl, rfl⟩
theorem cmpI_any (x y : Int) (w : World) : Calls Tryd.prog 42 #[.int .i64 x, .int .i64 y] w fun e w' => e = .returned (.int .i64 (sgnI x y)) ∧ w = w' := by
  by_cases h1 : x < y
  · rw [show sgnI x y = -1 from by unfold sgnI; rw [if_pos h1]]
    go_enter Tryd.func42, Tryd.ntmps42
    go_wp2_with (first | (go_at_call 56; refine (nanI_any _ _).mono ?_; rintro e w1 ⟨rfl, rfl⟩))
    go_ret
    exact ⟨rfl, rfl⟩
  · by_cases h2 : y < x
    · rw [show sgnI x y = 1 from by unfold sgnI; rw [if_neg h1, if_pos h2]]
      go_enter Tryd.func42, Tryd.ntmps42
      go_wp2_with (first | (go_at_call 56; refine (nanI_any _ _).mono ?_; rintro e w1 ⟨rfl, rfl⟩))
      go_ret
      exact ⟨rfl, rfl⟩
    · rw [show sgnI x y = 0 from by unfold sgnI; rw [if_neg h1, if_neg h2]]
      go_enter Tryd.func42, Tryd.ntmps42
      go_wp2_with (first | (go_at_call 56; refine (nanI_any _ _).mono ?_; rintro e w1 ⟨rfl, rfl⟩))
      go_ret
      exact ⟨rfl, rfl⟩
/-- the first that is not 0 -/
def orL : List Int → Int
  | [] => 0
  | x :: r => if x = 0 then orL r else x
theorem orL_zeros : ∀ (l : List Int) (k : Nat), (∀ x ∈ l.take k, x = 0) → orL l = orL (l.drop k)
  | _, 0, _ => rfl
  | [], k + 1, _ => rfl
  | x :: r, k + 1, h => by
    rw [orL, if_pos (h x (by simp)), List.drop_succ_cons]
    exact orL_zeros r k (fun y hy => h y (by simp [hy]))
theorem orL_three (a b c : Int) : orL [a, b, c] = orI a (orI b c) := by unfold orI orL orL orL orL; split <;> (try rfl); split <;> (try rfl); split <;> simp_all
theorem or_any (v : Value) (xs : List Int) (w : World) (hr : RowZ w v xs) (hlen : xs.length ≤ 100) :
    Calls Tryd.prog 41 #[v] w fun e w' => e = .returned (.int .i64 (orL xs)) ∧ w = w' := by
  obtain ⟨aa, ca, rfl, -, hia⟩ := hr.gen.shape
  have HIA := Lib.hid hia
  obtain ⟨R, hR⟩ : ∃ R, R = orL xs := ⟨_, rfl⟩
  have HR := Lib.hid hR
  rw [← hR]
  clear hr hia hR
  go_enter Tryd.func41, Tryd.ntmps41
  go_wp2_with fail
  go_loop [8] (fun i => ∃ k : Nat, k ≤ xs.length ∧ i = .int .i64 k ∧ Hid (R = orL (xs.drop k))) (fun i => xs.length - (intOf i).toNat)
  case atStart => exact ⟨0, Nat.zero_le _, rfl, HR.out⟩
  case round =>
    obtain ⟨k, hk, rfl, HT⟩ := hrel
    by_cases h1 : k < xs.length
    · obtain ⟨ga, oa, rfl, hca⟩ := HIA.out k _ (List.getElem?_eq_getElem h1)
      have d3 : w.cell? ⟨ga, oa + k, none⟩ = some (.int .i64 xs[k]) := hca
      have hT := HT.out
      rw [List.drop_eq_getElem_cons h1, orL] at hT
      generalize xs[k] = x at d3 hT
      clear hca
      by_cases h3 : x = 0
      · have e3 : (x != 0) = false := by simp [h3]
        rw [if_pos h3] at hT
        have HT2 := Lib.hid hT
        clear h3 hT
        go_wp2_with fail
        go_round
        case rel => exact ⟨k + 1, h1, by go_num, HT2⟩
        case measure => simp only [intOf]; omega
      · have e3 : (x != 0) = true := by simp [h3]
        rw [if_neg h3] at hT
        have HT2 := Lib.hid hT
        clear h3 hT
        go_wp2_with fail
        go_ret
        exact ⟨congrArg (fun z => Ending.returned (Value.int .i64 z)) HT2.out.symm, rfl⟩
    · have hT := HT.out
      rw [List.drop_of_length_le (by omega), orL] at hT
      have HT2 := Lib.hid hT
      clear hT
      go_wp2_with fail
      go_ret
      exact ⟨congrArg (fun z => Ending.returned (Value.int .i64 z)) HT2.out.symm, rfl⟩
theorem cmpZ_nil_r : ∀ a : List Int, a ≠ [] → cmpZ a [] = 1
  | [], h => absurd rfl h
  | _ :: _, _ => rfl
theorem compareZ_any (va vb : Value) (xs ys : List Int) (w : World) (ha : RowZ w va xs) (hb : RowZ w vb ys) (hlx : xs.length ≤ 100000000) (hly : ys.length ≤ 100000000) :
    Calls Tryd.prog 43 #[va, vb] w fun e w' => e = .returned (.int .i64 (cmpZ xs ys)) ∧ w = w' := by
  obtain ⟨aa, ca, rfl, -, hia⟩ := ha.gen.shape
  obtain ⟨ab, cb, rfl, -, hib⟩ := hb.gen.shape
  have HIA := Lib.hid hia
  have HIB := Lib.hid hib
  obtain ⟨R, hR⟩ : ∃ R, R = cmpZ xs ys := ⟨_, rfl⟩
  have HR := Lib.hid hR
  rw [← hR]
  clear ha hb hia hib hR
  go_enter Tryd.func43, Tryd.ntmps43
  go_wp2_with fail
  go_loop [11] (fun i => ∃ k : Nat, k ≤ xs.length ∧ k ≤ ys.length ∧ i = .int .i64 k ∧ Hid (R = cmpZ (xs.drop k) (ys.drop k))) (fun i => xs.length - (intOf i).toNat)
  case atStart => exact ⟨0, Nat.zero_le _, Nat.zero_le _, rfl, HR.out⟩
  case round =>
    obtain ⟨k, hk, hk2, rfl, HT⟩ := hrel
    by_cases h1 : k < xs.length
    · obtain ⟨ga, oa, rfl, hca⟩ := HIA.out k _ (List.getElem?_eq_getElem h1)
      have d3 : w.cell? ⟨ga, oa + k, none⟩ = some (.int .i64 xs[k]) := hca
      have hT := HT.out
      rw [List.drop_eq_getElem_cons h1] at hT
      generalize xs[k] = x at d3 hT
      clear hca
      by_cases h2 : k < ys.length
      · obtain ⟨gb, ob, rfl, hcb⟩ := HIB.out k _ (List.getElem?_eq_getElem h2)
        have d4 : w.cell? ⟨gb, ob + k, none⟩ = some (.int .i64 ys[k]) := hcb
        rw [List.drop_eq_getElem_cons h2, cmpZ] at hT
        generalize ys[k] = y at d4 hT
        clear hcb
        obtain ⟨c, hc⟩ : ∃ c, c = sgnI x y := ⟨_, rfl⟩
        rw [← hc] at hT
        have HC : Hid (Calls Tryd.prog 42 #[.int .i64 x, .int .i64 y] w fun e w' => e = .returned (.int .i64 c) ∧ w = w') := by rw [hc]; exact cmpI_any x y w
        clear hc
        by_cases h3 : c = 0
        · have e3 : (c != 0) = false := by simp [h3]
          have HT2 : Hid (R = cmpZ (xs.drop (k + 1)) (ys.drop (k + 1))) := by show _ = _; rw [hT]; unfold orI; rw [if_pos h3]
          clear h3 hT
          go_wp2_with (first | (go_at_call 42; (with_reducible refine HC.out.mono ?_); rintro e w1 ⟨rfl, rfl⟩))
          go_round
          case rel => exact ⟨k + 1, h1, h2, by go_num, HT2⟩
          case measure => simp only [intOf]; omega
        · have e3 : (c != 0) = true := by simp [h3]
          have HT2 : Hid (R = c) := by show _ = _; rw [hT]; unfold orI; rw [if_neg h3]
          clear h3 hT
          go_wp2_with (first | (go_at_call 42; (with_reducible refine HC.out.mono ?_); rintro e w1 ⟨rfl, rfl⟩))
          go_ret
          exact ⟨congrArg (fun z => Ending.returned (Value.int .i64 z)) HT2.out.symm, rfl⟩
      · have HT2 : Hid (R = 1) := by
          show _ = _
          rw [hT, List.drop_of_length_le (show ys.length ≤ k by omega)]; rfl
        clear hT
        go_wp2_with fail
        go_ret
        exact ⟨congrArg (fun z => Ending.returned (Value.int .i64 z)) HT2.out.symm, rfl⟩
    · have hT := HT.out
      rw [List.drop_of_length_le (show xs.length ≤ k by omega)] at hT
      obtain rfl : xs.length = k := by omega
      by_cases h2 : xs.length < ys.length
      · rw [List.drop_eq_getElem_cons h2, cmpZ] at hT
        have HT2 := Lib.hid hT
        clear hT
        go_wp2_with fail
        go_ret
        exact ⟨congrArg (fun z => Ending.returned (Value.int .i64 z)) HT2.out.symm, rfl⟩
      · rw [List.drop_of_length_le (by omega), cmpZ] at hT
        have HT2 := Lib.hid hT
        clear hT
        go_wp2_with fail
        go_ret
        exact ⟨congrArg (fun z => Ending.returned (Value.int .i64 z)) HT2.out.symm, rfl⟩
theorem below_al {W1 W : World} (h : Below W1.heap.size W1 W) (o : Obj) : Below W1.heap.size W1 (W.alloc o) := h.alloc h.size o
theorem rowThree (a b c : Int) (W : World) (T : TypeId) : RowZ (W.alloc (.cells #[.int .i64 a, .int .i64 b, .int .i64 c] T)) (.slice (some ⟨W.heap.size, 0, none⟩) 3 3) [a, b, c] :=
  Row.ofOwn (base := W.heap.size) (e := T) (size := 1) (show World.ownsRow _ _ _ _ _ _ _ from ⟨rfl, .inr ⟨W.heap.size, 3, _, rfl, Nat.le_refl _, heap_alloc_new W _, Nat.le_refl _, by decide, rfl, rfl⟩⟩)
theorem orA_any (a b c : Int) (W : World) (T : TypeId) : Calls Tryd.prog 41 #[.slice (some ⟨W.heap.size, 0, none⟩) 3 3] (W.alloc (.cells #[.int .i64 a, .int .i64 b, .int .i64 c] T)) fun e w' => e = .returned (.int .i64 (orI a (orI b c))) ∧ W.alloc (.cells #[.int .i64 a, .int .i64 b, .int .i64 c] T) = w' := by
  rw [← orL_three]
  exact or_any _ [a, b, c] _ (rowThree a b c W T) (by simp)
theorem orD_any (a b c : Int) (W : World) (T : TypeId) : Calls Tryd.prog 41 #[.slice (some ⟨W.heap.size, 0, none⟩) 3 3] (W.alloc (.cells #[.int .i64 a, .int .i64 b, .int .i64 c] T)).drew fun e w' => e = .returned (.int .i64 (orI a (orI b c))) ∧ (W.alloc (.cells #[.int .i64 a, .int .i64 b, .int .i64 c] T)).drew = w' := by
  rw [← orL_three]
  exact or_any _ [a, b, c] _ (Row.stays (rowThree a b c W T) (Below.refl _ _).drew) (by simp)
set_option maxRecDepth 100000 in
theorem order_any (a b : Tr) (pa pb : Value) (w : World) (ha : RowZ w pa a.path) (hb : RowZ w pb b.path) (hla : a.path.length ≤ 100000) (hlb : b.path.length ≤ 100000) :
    Calls Tryd.prog 33 #[.agg #[.int .i64 a.to, .int .i64 a.sum, pa], .agg #[.int .i64 b.to, .int .i64 b.sum, pb]] w fun e w' => e = .returned (.int .i64 (ordT a b)) ∧ Below w.heap.size w w' := by
  obtain ⟨aa, ca, rfl, -, -⟩ := ha.gen.shape
  obtain ⟨ab, cb, rfl, -, -⟩ := hb.gen.shape
  obtain ⟨to1, su1, pa1⟩ := a
  obtain ⟨to2, su2, pa2⟩ := b
  simp only at ha hb hla hlb ⊢
  have HZ : Hid (ordT ⟨to1, su1, pa1⟩ ⟨to2, su2, pa2⟩ = orI (sgnI su1 su2) (orI (sgnI pa1.length pa2.length) (cmpZ pa1 pa2))) := rfl
  have HC : Hid (∀ W, Below w.heap.size w W → Calls Tryd.prog 43 #[.slice aa pa1.length ca, .slice ab pa2.length cb] W fun e w' => e = .returned (.int .i64 (cmpZ pa1 pa2)) ∧ W = w') := fun W hb' => compareZ_any _ _ _ _ _ (Row.stays ha hb') (Row.stays hb hb') (by omega) (by omega)
  generalize ordT ⟨to1, su1, pa1⟩ ⟨to2, su2, pa2⟩ = R at HZ ⊢
  obtain ⟨W1, hW1⟩ : ∃ W1, W1 = (w.alloc (.cells #[.int .i64 to1, .int .i64 su1, .slice aa pa1.length ca] 56)).alloc (.cells #[.int .i64 to2, .int .i64 su2, .slice ab pa2.length cb] 56) := ⟨_, rfl⟩
  obtain ⟨g, hg⟩ : ∃ g, g = w.heap.size := ⟨_, rfl⟩
  have hBA : Below w.heap.size w W1 := by rw [hW1]; exact ((Below.refl _ _).alloc (Nat.le_refl _) _).alloc (by simp) _
  have hcx : CellsAt W1 g 56 #[.int .i64 to1, .int .i64 su1, .slice aa pa1.length ca] := by rw [hW1, hg]; exact (CellsAt.new w _ _).stays ((Below.refl _ _).alloc (Nat.le_refl _) _)
  have hcy : CellsAt W1 (g + 1) 56 #[.int .i64 to2, .int .i64 su2, .slice ab pa2.length cb] := by
    have := CellsAt.new (w.alloc (.cells #[.int .i64 to1, .int .i64 su1, .slice aa pa1.length ca] 56)) #[.int .i64 to2, .int .i64 su2, .slice ab pa2.length cb] 56
    rw [hW1, hg]
    simpa using this
  have HC1 : Hid (∀ W, Below W1.heap.size W1 W → Calls Tryd.prog 43 #[.slice aa pa1.length ca, .slice ab pa2.length cb] W fun e w' => e = .returned (.int .i64 (cmpZ pa1 pa2)) ∧ W = w') := fun W hb' => HC.out W (hBA.trans (hb'.mono hBA.size))
  have HS : Hid (∀ W, Below W1.heap.size W1 W → Below W1.heap.size W1 W ∧ W.cell? ⟨g, 1, none⟩ = some (.int .i64 su1) ∧ W.cell? ⟨g, 2, none⟩ = some (.slice aa pa1.length ca) ∧ W.cell? ⟨g + 1, 1, none⟩ = some (.int .i64 su2) ∧ W.cell? ⟨g + 1, 2, none⟩ = some (.slice ab pa2.length cb)) := fun W hb' => by
    have h1 := hcx.stays hb'
    have h2 := hcy.stays hb'
    exact ⟨hb', h1.cell 1 rfl, h1.cell 2 rfl, h2.cell 1 rfl, h2.cell 2 rfl⟩
  have HBA := Lib.hid hBA
  have HW := Lib.hid hW1
  have HG := Lib.hid hg
  clear ha hb hBA hcx hcy hW1 hg HC
  go_enter Tryd.func33, Tryd.ntmps33
  go_wp2_with fail
  have hW1 := HW.out
  have hg := HG.out
  rw [← hW1, ← hg]
  clear hW1 hg HW HG
  have hd0 : Below W1.heap.size W1 W1 := Below.refl _ _
  have hd1 : Below W1.heap.size W1 W1.drew := hd0.drew
  go_region_held3 (fun W => Below W1.heap.size W1 W ∧ W.cell? ⟨g, 1, none⟩ = some (.int .i64 su1) ∧ W.cell? ⟨g, 2, none⟩ = some (.slice aa pa1.length ca) ∧ W.cell? ⟨g + 1, 1, none⟩ = some (.int .i64 su2) ∧ W.cell? ⟨g + 1, 2, none⟩ = some (.slice ab pa2.length cb))
    (first | exact HS.out _ (by assumption) | exact HS.out _ (below_al (by assumption) _) | exact HS.out _ (below_al (by assumption) _).drew)
    ((first
      | (go_at_call 43; (with_reducible refine (HC1.out _ (by assumption)).mono ?_); rintro e w6 ⟨rfl, rfl⟩)
      | (go_at_call 42; (with_reducible refine (cmpI_any _ _ _).mono ?_); rintro e w5 ⟨rfl, rfl⟩)
      | (go_at_call 41; (with_reducible refine (orA_any _ _ _ _ _).mono ?_); rintro e w8 ⟨rfl, rfl⟩)
      | (go_at_call 41; (with_reducible refine (orD_any _ _ _ _ _).mono ?_); rintro e w8 ⟨rfl, rfl⟩)))
  all_goals go_wp2_with fail
  all_goals go_ret
  all_goals exact ⟨congrArg (fun z => Ending.returned (Value.int .i64 z)) HZ.out.symm, HBA.out.trans (Below.mono (by first | exact (below_al hd1 _) | exact (below_al hd1 _).drew) HBA.out.size)⟩
end Go.Proofs.YthabjnppmhlomaaDoor
