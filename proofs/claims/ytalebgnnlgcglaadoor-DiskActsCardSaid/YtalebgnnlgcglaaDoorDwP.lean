/- The sectors that wait, as a rising list; the keys of the map of what is written. -/
import Derived.Test.YtalebgnnlgcglaaDoorDkM
import Derived.Lib.SlKeysI
namespace Go.Proofs.YtalebgnnlgcglaaDoor
open Go Go.RowKit Go.Maps
set_option linter.unusedVariables false
/-- the sectors that wait, rising -/
def pendL (d : Dm) : List Int := ((List.range d.dur.length).filter fun (i : Nat) => (d.wr (i : Int)).isSome).map fun (i : Nat) => (i : Int)
theorem pend_nodup (d : Dm) : (pendL d).Nodup := by
  unfold pendL
  refine List.Pairwise.map _ (fun a b h => ?_) (List.nodup_range.filter _)
  intro e
  exact h (by omega)
theorem pend_mem (d : Dm) (x : Int) : x ∈ pendL d ↔ (0 ≤ x ∧ x < d.dur.length ∧ (d.wr x).isSome = true) := by
  unfold pendL
  rw [List.mem_map]
  constructor
  · rintro ⟨i, hi, rfl⟩
    rw [List.mem_filter, List.mem_range] at hi
    exact ⟨by omega, by omega, hi.2⟩
  · rintro ⟨h0, h1, h2⟩
    refine ⟨x.toNat, List.mem_filter.2 ⟨List.mem_range.2 (by omega), ?_⟩, by omega⟩
    rw [show ((x.toNat : Nat) : Int) = x from by omega]
    exact h2
theorem pend_sorted (d : Dm) : (pendL d).Pairwise (fun a b => leI a b = true) := by
  unfold pendL
  refine List.Pairwise.map _ (fun a b h => ?_) ((List.pairwise_lt_range (n := d.dur.length)).filter _)
  simp only [leI, decide_eq_true_eq]
  omega
theorem pend_len (d : Dm) : (pendL d).length ≤ d.dur.length := by
  unfold pendL
  rw [List.length_map]
  exact Nat.le_trans (List.length_filter_le _ _) (by simp)
theorem pend_perm {w : World} {g gd gm : Nat} {d : Dm} (h : Dk w g gd gm d) : ∃ D : DataW Value, w.ownsMap Tryd.prog 3 heldR gm d.writes D ∧ (pendL d).Perm (intKeys D) := by
  obtain ⟨D, ho, hv⟩ := h.wr
  refine ⟨D, ho, ?_⟩
  have hwf := intKeys_wf ho Tryd.underlying3
  refine CollectedI.perm (left := fun _ => false) ⟨pend_nodup d, fun x => ?_⟩ ho (Maps.int_keyed Tryd.underlying3) Tryd.underlying3 (fun _ => rfl)
  rw [pend_mem]
  have hsz := h.ok.size
  constructor
  · rintro ⟨h0, h1, h2⟩
    refine ⟨?_, rfl⟩
    rw [(hv x ⟨by omega, by omega⟩).1, Option.isSome_map]
    exact h2
  · rintro ⟨h1, -⟩
    have hb : -9223372036854775808 ≤ x ∧ x ≤ 9223372036854775807 := by
      obtain ⟨es, rfl, hko⟩ := ho.keysOf
      rw [has_eq, List.any_eq_true] at h1
      obtain ⟨p, hp, hs⟩ := h1
      obtain ⟨v, hv'⟩ := hko p hp
      obtain ⟨y, _, hy, hl⟩ := Maps.keyOf_i64 Tryd.underlying3 hv'
      rw [hy] at hs
      obtain rfl : y = x := by simpa [Lit.sameKey] using hs
      simpa [Lit.wf, IntKind.min, IntKind.max, IntKind.signed, IntKind.bits] using hl
    rw [(hv x hb).1, Option.isSome_map] at h1
    obtain ⟨s, hs⟩ := Option.isSome_iff_exists.1 h1
    have := h.ok.within x s hs
    exact ⟨by omega, by omega, h1⟩
/-- sorted they are the list itself -/
theorem pend_sort {d : Dm} {ss : List Int} (h : ss.Perm (pendL d)) : ss.mergeSort (fun x y => decide (x ≤ y)) = pendL d := by
  have e := mergeSort_of_perm_i h
  rw [show ss.mergeSort (fun x y => decide (x ≤ y)) = ss.mergeSort leI from rfl, e]
  exact List.mergeSort_of_pairwise (pend_sorted d)
end Go.Proofs.YtalebgnnlgcglaaDoor
