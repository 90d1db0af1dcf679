/- Which edges lie on cheapest ways: sorted, without doubles. -/
import Derived.Test.YthabjnppmhlomaaDoorPnU
import Derived.Test.YthabjnppmhlomaaDoorPnW
import Derived.Test.YthabjnppmhlomaaDoorShelfP
import Derived.Lib.OwnBridge
import Derived.Lib.SlKeysI
namespace Go.Proofs.YthabjnppmhlomaaDoor
open Go Go.RowKit Go.Sort Go.Shelf
set_option linter.unusedVariables false
section
variable {w : World}
/-- slices.Sort at ints, of a row of the call's own -/
theorem sortZ_any {B : Nat} {v : Value} {xs : List Int} (h : OwnL 3 IV B w v xs) (hl : xs.length ≤ 1000000000) (hB : B ≤ w.heap.size) :
    Calls Tryd.prog 26 #[v] w fun e w' => e = .returned (.tuple #[]) ∧ OwnL 3 IV B w' v (xs.mergeSort fun x y => decide (x ≤ y)) ∧ Below B w w' := by
  have hml : (xs.mergeSort fun x y => decide (x ≤ y)).length = xs.length := List.length_mergeSort _
  by_cases hv : v = .slice none 0 0
  · subst hv
    have h0 : xs = [] := by
      rcases h.row.shape with ⟨a, c, he, -, -⟩
      cases xs with
      | nil => rfl
      | cons x t => simp at he
    subst h0
    refine (AnyM.slices_Sort_int_none Tryd.sortA none 0 w).mono ?_
    rintro e w' ⟨rfl, rfl⟩
    refine ⟨rfl, by simpa using h, Below.refl _ _⟩
  · obtain ⟨g, cap, rfl, hg, hlt, hn, hm, -, hH⟩ := Lib.holds_of_ownsRow (enc := IV) (zs := xs) h hv
    rcases h.2 with ⟨e0, _⟩ | ⟨g', cap', cur, e0, hb', hgc, hn', hm', hs', ht'⟩
    · cases e0
    · cases e0
      refine (AnyM.slices_Sort_int Tryd.sortA g 0 cap xs w hH hlt (by omega)).mono ?_
      rintro e w' ⟨rfl, n, os, rfl⟩
      refine ⟨rfl, ?_, below_of_grown (grownBy_sorted_i _) hB (fun k hk => by cases hk; exact hg)⟩
      unfold OwnL
      rw [hml]
      exact ownsRow_sorted_i hml hg hgc hn hm hs'
/-- slices.Compact at ints, of a row of the call's own -/
theorem compZ_any {B : Nat} {v : Value} {xs : List Int} (h : OwnL 3 IV B w v xs) (hl : xs.length ≤ 1000000000) (hB : B ≤ w.heap.size) :
    Calls Tryd.prog 27 #[v] w fun e w' => ∃ v', e = .returned v' ∧ OwnL 3 IV B w' v' (Lib.compact xs) ∧ Below B w w' := by
  by_cases hv : v = .slice none 0 0
  · subst hv
    have h0 : xs = [] := by
      rcases h.row.shape with ⟨a, c, he, -, -⟩
      cases xs with
      | nil => rfl
      | cons x t => simp at he
    subst h0
    refine (AnyG.slices_Compact_int_empty Tryd.compA none 0 w).mono ?_
    rintro e w' ⟨rfl, rfl⟩
    exact ⟨_, rfl, h, Below.refl _ _⟩
  · obtain ⟨g, cap, rfl, hg, hlt, hn, hm, -, hH⟩ := Lib.holds_of_ownsRow (enc := IV) (zs := xs) h hv
    refine (AnyG.slices_Compact_int Tryd.compA g 0 cap xs w hH (by omega) hn).mono ?_
    rintro e w' ⟨rfl, q, rfl⟩
    have hcl := Lib.compact_length_le xs
    refine ⟨_, rfl, ?_, Lib.below_putRow (Below.refl _ _) hg⟩
    have := Lib.ownsRow_putRow (q := q) (k := (Lib.compact xs).length) (ys := Lib.compact xs ++ List.replicate (xs.length - (Lib.compact xs).length) 0) h (by simp; omega) hcl
    rw [List.take_left' rfl] at this
    exact this
end
/-- the edges that lie on cheapest ways -/
def needL (L : List Eg) (B : Int → Option Tr) (n : Nat) : List Int := ((List.range L.length).filter (usedB B n 0)).map fun i : Nat => (i : Int)
theorem path_bd {L : List Eg} (hL : RightE L) {B : Int → Option Tr} (hB : Least L B) (v : Int) : (pathOf (B v)).length ≤ 401 ∧ ∀ x ∈ pathOf (B v), 0 ≤ x ∧ x < L.length := by
  cases hq : B v with
  | none => exact ⟨by decide, fun x hx => by cases hx⟩
  | some t =>
    have h := ((hB v).1 t hq).1.bd hL
    refine ⟨by show t.path.length ≤ 401; omega, fun x hx => ?_⟩
    have := h.2.2.2.2.2.2.2 x hx
    omega
theorem join_len (ps : List ZM) (h : ∀ p ∈ ps, p.1.length ≤ 401) : (joinZ ps).length ≤ ps.length * 401 := by
  induction ps with
  | nil => simp [joinZ]
  | cons p ps ih =>
    have h1 := h p (by simp)
    have h2 := ih (fun q hq => h q (by simp [hq]))
    unfold joinZ at *
    simp only [List.map_cons, List.flatten_cons, List.length_append, List.length_cons]
    omega
theorem join_need {L : List Eg} (hL : RightE L) {B : Int → Option Tr} (hB : Least L B) {n : Nat} {out : List ZM} (hn : out.length = n) (ho : ∀ (j : Nat) (x : ZM), out[j]? = some x → x.1 = pathOf (B j)) :
    Lib.compact ((joinZ out).mergeSort fun x y => decide (x ≤ y)) = needL L B n := by
  refine needed_eq _ _ _ fun x => ?_
  have hj : x ∈ joinZ out ↔ ∃ j : Nat, j < n ∧ x ∈ pathOf (B j) := by
    unfold joinZ
    rw [List.mem_flatten]
    constructor
    · rintro ⟨l, hl, hx⟩
      obtain ⟨p, hp, rfl⟩ := List.mem_map.1 hl
      obtain ⟨j, hj⟩ := List.getElem?_of_mem hp
      exact ⟨j, by rw [← hn]; exact (List.getElem?_eq_some_iff.1 hj).1, by rw [← ho j p hj]; exact hx⟩
    · rintro ⟨j, hj, hx⟩
      have h1 := List.getElem?_eq_getElem (l := out) (i := j) (by omega)
      exact ⟨_, List.mem_map.2 ⟨_, List.mem_of_getElem? h1, rfl⟩, by rw [ho j _ h1]; exact hx⟩
  rw [hj]
  unfold usedB
  simp only [List.take_zero, List.contains_nil, Bool.or_false, List.any_eq_true, List.mem_range, List.contains_iff_mem]
  constructor
  · rintro ⟨j, h1, h2⟩
    have h3 := (path_bd hL hB j).2 x h2
    exact ⟨x.toNat, by omega, ⟨j, h1, by rw [show ((x.toNat : Nat) : Int) = x by omega]; exact h2⟩, by omega⟩
  · rintro ⟨i, h1, ⟨j, h2, h3⟩, rfl⟩
    exact ⟨j, h2, h3⟩
section
variable {w : World} {L : List Eg} {la : Option Addr} {lc : Nat}
set_option maxRecDepth 100000 in
theorem need_ok (hL : rightL L = true) (hlen : L.length ≤ 3000) (hr : RowS eC w (.slice la L.length lc) L) (n : Nat) (hn : n ≤ 400) :
    Calls Tryd.prog 16 #[.slice la L.length lc, .int .i64 n] w fun e w' => ∃ (v : Value) (B : Int → Option Tr), e = .returned (.tuple #[v, .nilIface]) ∧ Least L B ∧ RowZ w' v (needL L B n) ∧ Below w.heap.size w w' := by
  have HRE : Hid (RightE L) := (rightL_iff L).1 hL
  have HALL := Lib.hid (pall_ok hL hlen hr n hn)
  have HN := Lib.hid hn
  clear hr hL hn
  go_enter Tryd.func16, Tryd.ntmps16
  go_wp2_with fail
  refine HALL.out.mono ?_
  rintro e w1 ⟨B, out, g, rfl, hLe, hol, hout, hown, hb1⟩
  have HLE := Lib.hid hLe
  have hjl : (joinZ out).length ≤ 200000 := by
    have := join_len out (fun p hp => by
      obtain ⟨j, hj⟩ := List.getElem?_of_mem hp
      rw [(hout j p hj).2]; exact (path_bd HRE.out hLe j).1)
    have := HN.out
    omega
  have hjr : RowL zV w1 (.slice (some ⟨g, 0, none⟩) n n) out := hown.row
  have hjp : ∀ p ∈ out, RowZ w1 (zV p) p.1 := fun p hp => by
    obtain ⟨j, hj⟩ := List.getElem?_of_mem hp
    exact (hout j p hj).1
  have hjn : out.length ≤ 1000000 := by have := HN.out; omega
  have hjm : (joinZ out).length ≤ 10000000 := by omega
  have HCC := Lib.hid (concatZ_any _ out w1 hjr hjp hjm hjn)
  clear hjr hjp hjn hjm
  have HJ : Hid (Lib.compact ((joinZ out).mergeSort fun x y => decide (x ≤ y)) = needL L B n) := join_need HRE.out hLe hol (fun j x hx => (hout j x hx).2)
  have HB1 := Lib.hid hb1
  have HJL := Lib.hid hjl
  clear hLe hol hout hown hb1 HALL hjl
  go_wp2_with fail
  refine HCC.out.mono ?_
  rintro e w2 ⟨v2, rfl, ho2, hb2⟩
  have HS := Lib.hid (sortZ_any ho2 (Nat.le_trans HJL.out (by decide)) (by exact hb2.size))
  have HB2 : Hid (Below w.heap.size w w2) := HB1.out.trans (hb2.mono HB1.out.size)
  have hs1 := HB1.out.size
  have hs2 := hb2.size
  clear HCC ho2 hb2
  go_wp2_with fail
  refine HS.out.mono ?_
  rintro e w3 ⟨rfl, ho3, hb3⟩
  have HC := Lib.hid (compZ_any ho3 (by rw [List.length_mergeSort]; exact Nat.le_trans HJL.out (by decide)) (by have := hb3.size; omega))
  have HB3 : Hid (Below w.heap.size w w3) := HB2.out.trans (hb3.mono hs1)
  have hs3 := hb3.size
  clear HS ho3 hb3
  go_wp2_with fail
  refine HC.out.mono ?_
  rintro e w4 ⟨v4, rfl, ho4, hb4⟩
  rw [HJ.out] at ho4
  have HO4 := Lib.hid ho4
  have HB4 : Hid (Below w.heap.size w w4) := HB3.out.trans (hb4.mono hs1)
  clear HC ho4 hb4
  go_wp2_with fail
  go_ret2
  exact ⟨v4, B, rfl, HLE.out, HO4.out.row, HB4.out⟩
theorem need_bad (k : Nat) (hk : k ≠ 0) (ea : Nat → Addr) (n : Int)
    (hA : Calls Tryd.prog 15 #[.slice la L.length lc, .int .i64 n] w fun e w' => e = .returned (.tuple #[.slice none 0 0, EV ea k]) ∧ Below w.heap.size w w') :
    Calls Tryd.prog 16 #[.slice la L.length lc, .int .i64 n] w fun e w' => e = .returned (.tuple #[.slice none 0 0, EV ea k]) ∧ Below w.heap.size w w' := by
  have HA := Lib.hid hA
  obtain ⟨R, hR⟩ : ∃ R : Ending, R = .returned (.tuple #[.slice none 0 0, EV ea k]) := ⟨_, rfl⟩
  rw [← hR]
  rw [EV_pos ea hk] at HA hR
  have HR := Lib.hid hR
  clear hA hR
  go_enter Tryd.func16, Tryd.ntmps16
  go_wp2_with fail
  refine HA.out.mono ?_
  rintro e w1 ⟨rfl, hb1⟩
  have HB1 := Lib.hid hb1
  clear HA hb1
  go_wp2_with fail
  go_ret2
  exact ⟨HR.out.symm, HB1.out⟩
end
end Go.Proofs.YthabjnppmhlomaaDoor
