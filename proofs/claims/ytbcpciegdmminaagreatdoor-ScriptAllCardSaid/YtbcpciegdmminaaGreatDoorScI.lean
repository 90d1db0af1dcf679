/- Scripts: a torn sector of a word. -/
import Derived.Test.YtbcpciegdmminaaGreatDoorScH
import Derived.Lib.CutLaws
namespace Go.Proofs.YtbcpciegdmminaaGreatDoor
open Go Go.RowKit
set_option linter.unusedVariables false
theorem index_one (c : UInt8) : ∀ s : Bs, Lib.index s [c] = match cutAt c s with | some (x, _) => (x.length : Int) | none => -1
  | [] => rfl
  | b :: l => by
    rw [Lib.index, cutAt]
    have ih := index_one c l
    by_cases h : b = c
    · have hp : ([c].isPrefixOf (b :: l)) = true := by simp [List.isPrefixOf, h]
      rw [if_pos hp, if_pos h]; rfl
    · have hp : ¬ ([c].isPrefixOf (b :: l)) = true := by
        simp only [List.isPrefixOf, Bool.and_true, beq_iff_eq]
        exact fun e => h e.symm
      rw [if_neg hp, if_neg h, ih]
      cases hc : cutAt c l with
      | none => rfl
      | some p =>
        obtain ⟨x, y⟩ := p
        simp only [List.length_cons]
        rw [if_neg (by simp)]
        rfl
theorem cut_one (c : UInt8) (s : Bs) : Lib.cut s [c] = match cutAt c s with | some (x, y) => (x, y, true) | none => (s, [], false) := by
  unfold Lib.cut
  rw [index_one]
  cases hc : cutAt c s with
  | none => rfl
  | some p =>
    obtain ⟨x, y⟩ := p
    have h := cut_some c s x y hc
    simp only
    rw [if_pos (by omega), Int.toNat_natCast, h]
    simp
/-- what a walk of this layer reads of the variables -/
structure VarsS (aS aR : Addr) (w : World) : Prop where
  syn : ErrAt w 23 aS
  rng : ErrAt w 24 aR
  max : ∃ m : Int, w.cell? ⟨20, 0, none⟩ = some (.int .i64 m)
theorem VarsS.stays {aS aR : Addr} {w w' : World} (h : VarsS aS aR w) (hb : Below w.heap.size w w') : VarsS aS aR w' :=
  ⟨h.syn.stays hb, h.rng.stays hb, let ⟨m, hm⟩ := h.max; ⟨m, (hb.cell (p := ⟨20, 0, none⟩) (World.block_lt_of_cell? w _ hm)).trans hm⟩⟩
theorem cut58_any {aS aR : Addr} {w : World} (h : VarsS aS aR w) (s : Bs) (hs : s.length ≤ 1000000) : Calls Tryz.prog 75 #[.string (strB s), .string ⟨#[58]⟩] w fun e w' => ∃ (x y : Bs) (is : Bool), e = .returned (.tuple #[.string (strB x), .string (strB y), .bool is]) ∧ (match cutAt 58 s with | some (p, q) => x = p ∧ y = q ∧ is = true | none => is = false) ∧ Below w.heap.size w w' := by
  obtain ⟨m, hm⟩ := h.max
  have hsz : (strB s).size = s.length := strB_size s
  refine (Any.strings_Cut Tryz.lays145 (strB s) ⟨#[58]⟩ m w (by rw [hsz]; omega) hm).mono ?_
  rintro e w' ⟨rfl, n, rfl⟩
  have hd : (strB s).data.toList = s := by simp [strB]
  rw [hd, show (⟨#[58]⟩ : ByteArray).data.toList = [58] from rfl, cut_one]
  cases hc : cutAt 58 s with
  | none => exact ⟨s, [], false, rfl, rfl, below_drewS (Below.refl _ _)⟩
  | some p => obtain ⟨x, y⟩ := p; exact ⟨x, y, true, rfl, ⟨rfl, rfl, rfl⟩, below_drewS (Below.refl _ _)⟩
end Go.Proofs.YtbcpciegdmminaaGreatDoor
