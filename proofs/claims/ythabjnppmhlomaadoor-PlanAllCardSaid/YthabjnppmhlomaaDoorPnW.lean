/- Plain: what is sorted and compact; the places that are used. -/
import Derived.Test.YthabjnppmhlomaaDoorPnT
import Derived.Lib.SlicesCompact
namespace Go.Proofs.YthabjnppmhlomaaDoor
set_option linter.unusedVariables false
theorem compact_upto (zs : List Int) (h : zs.Pairwise (· ≤ ·)) : ∀ m, m ≤ zs.length → (Lib.compactUpTo zs.toArray m).Pairwise (· < ·) ∧ ∀ x, x ∈ Lib.compactUpTo zs.toArray m ↔ ∃ j, j < m ∧ zs[j]? = some x := by
  have hget : ∀ j, j < zs.length → zs[j]? = some (zs.toArray[j]!) := fun j hj => by
    rw [List.getElem?_eq_getElem hj, getElem!_pos zs.toArray j (by simpa using hj)]
    simp
  have hle : ∀ i j, i ≤ j → j < zs.length → zs.toArray[i]! ≤ zs.toArray[j]! := fun i j hij hj => by
    rcases Nat.eq_or_lt_of_le hij with e | hlt
    · subst e; exact Int.le_refl _
    · have h1 := List.pairwise_iff_getElem.1 h i j (by omega) hj hlt
      have e1 := hget i (by omega)
      have e2 := hget j hj
      rw [List.getElem?_eq_getElem (by omega)] at e1 e2
      rw [← Option.some.inj e1, ← Option.some.inj e2]
      exact h1
  intro m
  induction m with
  | zero => intro _; exact ⟨by simp [Lib.compactUpTo], fun x => by simp [Lib.compactUpTo]⟩
  | succ m ih =>
    intro hm
    obtain ⟨h1, h2⟩ := ih (by omega)
    rw [Lib.compactUpTo_succ]
    have hgm := hget m (by omega)
    cases hk : Lib.keeps zs.toArray m with
    | true =>
      have hk' : m = 0 ∨ zs.toArray[m]! ≠ zs.toArray[m - 1]! := by simpa [Lib.keeps] using hk
      rw [if_pos rfl]
      refine ⟨List.pairwise_append.2 ⟨h1, List.pairwise_singleton _ _, fun a ha b hb => ?_⟩, fun x => ?_⟩
      · rw [List.mem_singleton] at hb
        subst hb
        obtain ⟨j, hj, hja⟩ := (h2 a).1 ha
        rw [hget j (by omega)] at hja
        rw [← Option.some.inj hja]
        have l1 := hle j (m - 1) (by omega) (by omega)
        have l2 := hle (m - 1) m (by omega) (by omega)
        rcases hk' with e | e <;> omega
      · rw [List.mem_append, List.mem_singleton, h2]
        constructor
        · rintro (⟨j, hj, hx⟩ | rfl)
          · exact ⟨j, by omega, hx⟩
          · exact ⟨m, by omega, hgm⟩
        · rintro ⟨j, hj, hx⟩
          by_cases e : j = m
          · subst e; rw [hgm] at hx; exact .inr (Option.some.inj hx).symm
          · exact .inl ⟨j, by omega, hx⟩
    | false =>
      have hk' : m ≠ 0 ∧ zs.toArray[m]! = zs.toArray[m - 1]! := by simpa [Lib.keeps] using hk
      rw [if_neg (by simp), List.append_nil]
      refine ⟨h1, fun x => ?_⟩
      rw [h2]
      constructor
      · rintro ⟨j, hj, hx⟩; exact ⟨j, by omega, hx⟩
      · rintro ⟨j, hj, hx⟩
        by_cases e : j = m
        · subst e
          refine ⟨j - 1, by omega, ?_⟩
          rw [hgm, hk'.2] at hx
          rw [hget (j - 1) (by omega)]; exact hx
        · exact ⟨j, by omega, hx⟩
/-- a sorted row without doubles is told by what is in it -/
theorem needed_eq (X : List Int) (n : Nat) (p : Nat → Bool) (h : ∀ x, x ∈ X ↔ ∃ i : Nat, i < n ∧ p i = true ∧ x = (i : Int)) :
    Lib.compact (X.mergeSort fun x y => decide (x ≤ y)) = ((List.range n).filter p).map fun i : Nat => (i : Int) := by
  have hs : (X.mergeSort fun x y => decide (x ≤ y)).Pairwise (· ≤ ·) := by
    have := List.pairwise_mergeSort (le := fun x y : Int => decide (x ≤ y)) (fun a b c h1 h2 => by simp at *; omega) (fun a b => by simp; omega) X
    exact this.imp (fun h => by simpa using h)
  obtain ⟨h1, h2⟩ := compact_upto _ hs _ (Nat.le_refl _)
  have h3 : (((List.range n).filter p).map fun i : Nat => (i : Int)).Pairwise (· < ·) := by
    rw [List.pairwise_map]
    exact (List.pairwise_lt_range.filter p).imp (fun h => by omega)
  refine List.Perm.eq_of_pairwise (le := (· < ·)) (fun a b _ _ h4 h5 => by omega) h1 h3 ((List.perm_ext_iff_of_nodup (h1.imp (fun h => by omega)) (h3.imp (fun h => by omega))).2 fun x => ?_)
  have hm : x ∈ Lib.compact (X.mergeSort fun x y => decide (x ≤ y)) ↔ x ∈ X := by
    unfold Lib.compact
    rw [h2, ← List.mem_mergeSort (le := fun x y : Int => decide (x ≤ y))]
    constructor
    · rintro ⟨j, hj, hx⟩; exact List.mem_of_getElem? hx
    · intro hx
      obtain ⟨j, hj⟩ := List.getElem?_of_mem hx
      exact ⟨j, (List.getElem?_eq_some_iff.1 hj).1, hj⟩
  have hm' := hm
  unfold Lib.compact at hm'
  rw [hm', h]
  simp only [List.mem_map, List.mem_filter, List.mem_range]
  constructor
  · rintro ⟨i, h4, h5, rfl⟩; exact ⟨i, ⟨h4, h5⟩, rfl⟩
  · rintro ⟨i, ⟨h4, h5⟩, rfl⟩; exact ⟨i, h4, h5, rfl⟩
theorem filt_at (n i : Nat) (p : Nat → Bool) (hi : i < n) (hp : p i = true) : ((List.range n).filter p)[((List.range i).filter p).length]? = some i := by
  obtain ⟨k, rfl⟩ : ∃ k, n = i + (k + 1) := ⟨n - i - 1, by omega⟩
  rw [List.range_add, List.filter_append, List.getElem?_append_right (Nat.le_refl _), Nat.sub_self, List.range_succ_eq_map, List.map_cons, List.filter_cons, if_pos (by simpa using hp)]
  simp
theorem filt_step (i : Nat) (p : Nat → Bool) : ((List.range (i + 1)).filter p).length = ((List.range i).filter p).length + if p i then 1 else 0 := by
  rw [List.range_succ, List.filter_append, List.length_append, List.filter_cons]
  split <;> simp
theorem filt_le (i n : Nat) (p : Nat → Bool) (hi : i ≤ n) : ((List.range i).filter p).length ≤ ((List.range n).filter p).length := by
  obtain ⟨k, rfl⟩ : ∃ k, n = i + k := ⟨n - i, by omega⟩
  rw [List.range_add, List.filter_append, List.length_append]
  omega
/-- which places are used by the ways to versions below v, and by the first m steps of v's -/
def usedB (B : Int → Option Tr) (v m i : Nat) : Bool := (List.range v).any (fun j => (pathOf (B j)).contains (i : Int)) || ((pathOf (B v)).take m).contains (i : Int)
theorem usedB_next (B : Int → Option Tr) (v i : Nat) : usedB B v (pathOf (B v)).length i = usedB B (v + 1) 0 i := by
  unfold usedB
  rw [List.take_length, List.take_zero, List.range_succ, List.any_append]
  simp
theorem usedB_step (B : Int → Option Tr) (v m i : Nat) (x : Nat) (hx : (pathOf (B v))[m]? = some (x : Int)) : usedB B v (m + 1) i = (usedB B v m i || decide (i = x)) := by
  unfold usedB
  rw [List.take_add_one, hx, Bool.or_assoc]
  congr 1
  have e1 : (some (x : Int)).toList = [(x : Int)] := rfl
  rw [e1, Bool.eq_iff_iff]
  simp only [Bool.or_eq_true, List.contains_iff_mem, List.mem_append, List.mem_singleton, decide_eq_true_eq]
  constructor
  · rintro (h | h)
    · exact .inl h
    · exact .inr (by omega)
  · rintro (h | h)
    · exact .inl h
    · exact .inr (by omega)
def usedL (B : Int → Option Tr) (n v m : Nat) : List Bool := (List.range n).map (usedB B v m)
theorem usedL_len (B : Int → Option Tr) (n v m : Nat) : (usedL B n v m).length = n := by unfold usedL; simp
theorem usedL_get (B : Int → Option Tr) (n v m i : Nat) (hi : i < n) : (usedL B n v m)[i]? = some (usedB B v m i) := by
  unfold usedL
  rw [List.getElem?_map, List.getElem?_range hi]; rfl
theorem usedL_first (B : Int → Option Tr) (n : Nat) : usedL B n 0 0 = List.replicate n false := by
  apply List.ext_getElem?
  intro i
  by_cases hi : i < n
  · rw [usedL_get _ _ _ _ _ hi, List.getElem?_replicate, if_pos hi]
    simp [usedB]
  · rw [List.getElem?_eq_none (by rw [usedL_len]; omega), List.getElem?_eq_none (by simp; omega)]
theorem usedL_next (B : Int → Option Tr) (n v : Nat) : usedL B n v (pathOf (B v)).length = usedL B n (v + 1) 0 := by
  unfold usedL
  congr 1
  funext i
  exact usedB_next B v i
theorem usedL_step (B : Int → Option Tr) (n v m x : Nat) (hx : (pathOf (B v))[m]? = some (x : Int)) : (usedL B n v m).set x true = usedL B n v (m + 1) := by
  apply List.ext_getElem?
  intro i
  rw [List.getElem?_set]
  by_cases hi : i < n
  · rw [usedL_get B n v (m + 1) i hi, usedB_step B v m i x hx]
    by_cases e : x = i
    · subst e
      rw [if_pos rfl, if_pos (by rw [usedL_len]; exact hi)]
      simp
    · rw [if_neg e, usedL_get _ _ _ _ _ hi, decide_eq_false (by omega), Bool.or_false]
  · rw [List.getElem?_eq_none (l := usedL B n v (m + 1)) (by rw [usedL_len]; omega)]
    by_cases e : x = i
    · rw [if_pos e, if_neg (by rw [usedL_len]; omega)]
    · rw [if_neg e, List.getElem?_eq_none (by rw [usedL_len]; omega)]
end Go.Proofs.YthabjnppmhlomaaDoor
