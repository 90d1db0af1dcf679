/- Waiting: the sectors that aren't durable, rising. -/
import Derived.Test.YtalebgnnlgcglaaDoorShelfD
import Derived.Test.YtalebgnnlgcglaaDoorDwP
import Derived.Test.YtalebgnnlgcglaaDoorDkO
import Derived.Deep.CutBlock
import Derived.Deep.DeepCutAuto
namespace Go.Proofs.YtalebgnnlgcglaaDoor
open Go Go.RowKit Go.Maps Go.Sort Go.Shelf
set_option linter.unusedVariables false
theorem sortsA (m : Nat) : AnyZI.SortsIn Tryd.prog Tryd.sortedA_ren Fence.wide m :=
  ⟨fun blk off cap ss W hH hblk hsz => callsIn_wide.2 (AnyM.slices_Sort_int Tryd.sortA blk off cap ss W hH hblk hsz),
   fun p cap W => callsIn_wide.2 (AnyM.slices_Sort_int_none Tryd.sortA p cap W)⟩
theorem keysD (mb : Option Nat) (W : World) : Calls Tryd.prog 35 #[.map mb] W fun e w' => e = .returned (.func (.func 41) #[] #[.pointer (some ⟨W.heap.size, 0, none⟩)]) ∧ w' = W.alloc (.cells #[.map mb] 58) :=
  callsIn_wide.1 (AnyZI.keys_in Tryd.keysA Fence.wide 5 trivial rfl mb W)
theorem sortedD {w : World} {b nn : Nat} {D : DataW Value} (hown : w.ownsMap Tryd.prog 3 heldR b nn D) (hn : nn ≤ 1000000) :
    Calls Tryd.prog 34 #[.func (.func 41) #[] #[.pointer (some ⟨w.heap.size, 0, none⟩)]] (w.alloc (.cells #[.map (some b)] 58)) fun e w' => ∃ (v : Value) (ss : List Int), e = .returned v ∧ ss.Perm (intKeys D) ∧
      w'.ownsRow (w.heap.size + 1) 3 1 v ss.length ((ss.mergeSort (fun x y => decide (x ≤ y))).map encZ) ∧ (v = .slice none 0 0 ↔ ss = []) ∧ Below (w.heap.size + 1) (w.alloc (.cells #[.map (some b)] 58)) w' := by
  have hbl := hown.lt
  have hsz := hown.size_le
  have hseq : SeqGives Fence.wide 2 Tryd.prog 41 #[.pointer (some ⟨w.heap.size, 0, none⟩)] encZ (fun ss => ss.Perm (intKeys D)) (Maps.size D) (w.alloc (.cells #[.map (some b)] 58)) :=
    AnyZI.keys_gives (ρ := Tryd.keysA_ren) { Tryd.keysA with } Fence.wide _ trivial rfl (by omega) w.heap.size b nn D _ (by simp) (by simp) (by
      obtain ⟨es, clock, hb, Ft, hs, hD⟩ := hown
      exact ⟨es, clock, (Below.heap_alloc _ _ b hbl).trans hb, Ft, hs, hD⟩)
  have cS := AnyZI.sorted_in Tryd.sortedA Fence.wide 5 trivial trivial trivial trivial rfl (by omega) (sortsA _) (enters_of Tryd.func40 (by kernel_rfl) rfl) 41 #[.pointer (some ⟨w.heap.size, 0, none⟩)] trivial (enters_of Tryd.func41 (by kernel_rfl) rfl) _ _ (by unfold maxLen; omega) (by omega) _ hseq
  have cS' := callsIn_wide.1 cS
  refine cS'.mono ?_
  rintro e w' ⟨v, ss, h1, h2, h3, h4, h5⟩
  refine ⟨v, ss, h1, h2, ?_, h4, ?_⟩
  · change w'.ownsRow _ 3 1 v _ _ at h3
    simpa using h3
  · simpa using h5
set_option maxRecDepth 100000 in
theorem waiting_any {w : World} {g gd gm : Nat} {d : Dm} (h : Dk w g gd gm d) :
    Calls Tryd.prog 16 #[.pointer (some ⟨g, 0, none⟩)] w fun e w' => ∃ v, e = .returned v ∧ RowL IV w' v (pendL d) ∧ Below w.heap.size w w' := by
  obtain ⟨D, ho, hp⟩ := pend_perm h
  have hS := sortedD ho h.small
  have c1 := h.c1
  have HK := Lib.hid (keysD (some gm) w)
  have HS := Lib.hid hS
  have HP := Lib.hid hp
  clear h ho hS hp
  go_enter Tryd.func16, Tryd.ntmps16
  go_wp2_with fail
  refine HK.out.mono ?_
  rintro e w1 ⟨rfl, rfl⟩
  go_wp2_with fail
  refine HS.out.mono ?_
  rintro e w1 ⟨v, ss, rfl, hperm, hrow, -, hb⟩
  go_wp2_with fail
  have hE := pend_sort (hperm.trans HP.out.symm)
  rw [hE] at hrow
  have hl : ss.length = (pendL _).length := (hperm.trans HP.out.symm).length_eq
  rw [hl] at hrow
  have hR : RowL IV w1 v (pendL d) := Row.ofOwn hrow
  go_ret
  exact ⟨v, rfl, hR, ((Below.refl _ w).alloc (Nat.le_refl _) _).trans (hb.mono (by omega))⟩
end Go.Proofs.YtalebgnnlgcglaaDoor
