/- Scripts: strings.Split at a sign. -/
import Derived.Test.YtbcpciegdmminaaGreatDoorScI
import Derived.Lib.SplitLaws
namespace Go.Proofs.YtbcpciegdmminaaGreatDoor
open Go Go.RowKit
set_option linter.unusedVariables false
theorem cut_free (c : UInt8) : ∀ (s x y : Bs), cutAt c s = some (x, y) → c ∉ x
  | [], x, y, h => by cases h
  | b :: l, x, y, h => by
    rw [cutAt] at h
    split at h
    · cases h; simp
    · rename_i hb
      split at h
      · rename_i x' y' hc
        cases h
        simp only [List.mem_cons, not_or]
        exact ⟨fun e => hb e.symm, cut_free c l _ _ hc⟩
      · cases h
theorem cut_none (c : UInt8) : ∀ s : Bs, cutAt c s = none → c ∉ s
  | [], _ => by simp
  | b :: l, h => by
    rw [cutAt] at h
    split at h
    · cases h
    · rename_i hb
      split at h
      · cases h
      · rename_i hc
        simp only [List.mem_cons, not_or]
        exact ⟨fun e => hb e.symm, cut_none c l hc⟩
theorem splitK_spl (c : UInt8) : ∀ (k : Nat) (s : Bs), s.count c ≤ k → Lib.splitK [c] 0 k s = spl c s
  | 0, s, h => by
    have hn : c ∉ s := fun hm => by
      have := List.count_pos_iff.2 hm
      omega
    rw [Lib.splitK, spl_one c s hn]
  | k + 1, s, h => by
    rw [Lib.splitK, index_one]
    cases hc : cutAt c s with
    | none => simp only; rw [if_pos (by rfl), spl_one c s (cut_none c s hc)]
    | some p =>
      obtain ⟨x, y⟩ := p
      have hs := cut_some c s x y hc
      have hx := cut_free c s x y hc
      simp only
      rw [if_neg (by simp), Nat.add_zero, Int.toNat_natCast]
      have hcnt : y.count c ≤ k := by
        rw [hs, List.count_append, List.count_cons_self] at h
        omega
      conv => rhs; rw [hs]
      rw [spl_app c x y hx, hs, List.take_left' rfl]
      congr 1
      rw [show (x ++ c :: y).drop (x.length + [c].length) = y from by simp]
      exact splitK_spl c k y hcnt
theorem strB_of (x : ByteArray) : strB x.data.toList = x := by simp [strB]
theorem split_list (c : UInt8) (s : Bs) : Lib.splitB ⟨#[c]⟩ 0 (Lib.countB (strB s) ⟨#[c]⟩) (strB s) = (spl c s).map strB := by
  have h := Lib.splitB_data ⟨#[c]⟩ 0 (Lib.countB (strB s) ⟨#[c]⟩) (strB s)
  have hd : (strB s).data.toList = s := by simp [strB]
  rw [hd, show (⟨#[c]⟩ : ByteArray).data.toList = [c] from rfl, splitK_spl c _ s (by
    have h1 : Lib.countB (strB s) ⟨#[c]⟩ = Lib.count s [c] := by
      show Lib.count (strB s).data.toList [c] = _
      rw [hd]
    rw [h1, Lib.count_one]; exact Nat.le_refl _)] at h
  rw [← h, List.map_map]
  conv => lhs; rw [← List.map_id (Lib.splitB ⟨#[c]⟩ 0 (Lib.countB (strB s) ⟨#[c]⟩) (strB s))]
  exact List.map_congr_left fun x _ => (strB_of x).symm
theorem split_any {aS aR : Addr} {w : World} (h : VarsS aS aR w) (c : UInt8) (s : Bs) (hs : s.length ≤ 1000000) : Calls Tryz.prog 36 #[.string (strB s), .string ⟨#[c]⟩] w fun e w' => ∃ g, e = .returned (.slice (some ⟨g, 0, none⟩) (spl c s).length (spl c s).length) ∧ OwnL 9 SV w.heap.size w' (.slice (some ⟨g, 0, none⟩) (spl c s).length (spl c s).length) (spl c s) ∧ Below w.heap.size w w' := by
  obtain ⟨m, hm⟩ := h.max
  have hsz : (strB s).size = s.length := strB_size s
  refine (Any.strings_Split Tryz.lays146 (by kernel_rfl) (strB s) ⟨#[c]⟩ m w (by rw [hsz]; omega) hm (Nat.le_refl _)).mono ?_
  rintro e w' ⟨rfl, rfl⟩
  have hl := split_list c s
  have hlen : Lib.countB (strB s) ⟨#[c]⟩ + 1 = (spl c s).length := by
    have h1 := Lib.splitB_all ⟨#[c]⟩ (Nat.le_refl _) 0 _ (strB s) rfl
    rw [hl, List.length_map] at h1
    exact h1.symm
  have hmx : (spl c s).length ≤ maxLen := by
    have := Lib.countB_le ⟨#[c]⟩ (Nat.le_refl _) (strB s).size (strB s) (Nat.le_refl _)
    rw [hsz] at this
    unfold maxLen
    omega
  rw [hl, hlen]
  refine ⟨w.heap.size, rfl, ?_, (Below.refl _ _).alloc (Nat.le_refl _) _⟩
  have hown := World.ownsRow_lit (base := w.heap.size) (e := 9) (size := 1) w (((spl c s).map strB).map Value.string).toArray (spl c s).length (Nat.le_refl _) hmx (by simp)
  rw [List.toList_toArray] at hown
  show World.ownsRow _ _ _ _ _ _ _
  rw [show (spl c s).map SV = ((spl c s).map strB).map Value.string from by rw [List.map_map]; rfl]
  exact hown
end Go.Proofs.YtbcpciegdmminaaGreatDoor
