/- redlinenum.Bytes: a copy with six marked bytes behind it; redlinenum.Kept: that it is as it was. At most 100000 bytes. -/
import Derived.Test.YtalebgnnlgcglaaDoorLib
import Derived.BigQuiet
import Derived.Deep.QuietTactic
namespace Go.Proofs.YtalebgnnlgcglaaDoor
open Go Go.RowKit
set_option linter.unusedVariables false
/-- a copy of bytes with six marked ones behind it, in a block of the call's own -/
def MarkB (B : Nat) (w : World) (v : Value) (bs : List UInt8) : Prop :=
  ∃ g, v = .slice (some ⟨g, 0, none⟩) bs.length (bs.length + 6) ∧ B ≤ g ∧ bs.length + 6 ≤ maxLen ∧ BlockB w g (bs ++ List.replicate 6 (b8 165))
theorem MarkB.own {B : Nat} {w : World} {v : Value} {bs : List UInt8} (h : MarkB B w v bs) : OwnB B w v bs := by
  obtain ⟨g, rfl, h1, h3, h4⟩ := h
  exact h4.own h1 (by simp) h3
theorem MarkB.row {B : Nat} {w : World} {v : Value} {bs : List UInt8} (h : MarkB B w v bs) : RowB w v bs := h.own.row
theorem MarkB.below {B B' : Nat} {w w' : World} {v : Value} {bs : List UInt8} (h : MarkB B w v bs) (hb : Below B' w w') (hk : ∀ k, v.ownBlock = some k → k < B') : MarkB B w' v bs := by
  obtain ⟨g, rfl, h1, h3, h4⟩ := h
  exact ⟨g, rfl, h1, h3, h4.below hb (hk g rfl)⟩
theorem MarkB.stays {B : Nat} {w w' : World} {v : Value} {bs : List UInt8} (h : MarkB B w v bs) (hb : Below w.heap.size w w') : MarkB B w' v bs := by
  obtain ⟨g, rfl, h1, h3, h4⟩ := h
  exact ⟨g, rfl, h1, h3, h4.stays hb⟩
theorem rep_set (bs : List UInt8) (k : Nat) (hk : k < 6) : (bs ++ (List.replicate k (b8 165) ++ List.replicate (6 - k) (b8 0))).set (bs.length + k) (b8 165) = bs ++ (List.replicate (k + 1) (b8 165) ++ List.replicate (6 - (k + 1)) (b8 0)) := by
  have e : List.replicate (6 - k) (b8 0) = b8 0 :: List.replicate (6 - (k + 1)) (b8 0) := by
    rw [show 6 - k = (6 - (k + 1)) + 1 from by omega, List.replicate_succ]
  rw [List.set_append_right _ _ (by omega), Nat.add_sub_cancel_left, List.set_append_right _ _ (by simp), List.length_replicate, Nat.sub_self, e, List.set_cons_zero, List.replicate_succ']
  simp
set_option maxRecDepth 100000 in
theorem bytes_any (v : Value) (bs : List UInt8) (w : World) (hr : RowB w v bs) (hlen : bs.length ≤ 100000) :
    Calls Tryd.prog 27 #[v] w fun e w' => ∃ v', e = .returned v' ∧ MarkB w.heap.size w' v' bs ∧ Below w.heap.size w w' := by
  obtain ⟨a, n, c, rfl, hn⟩ : ∃ a n c, v = .slice a n c ∧ n = bs.length := by
    rcases hr.open with ⟨h0, a, c, h⟩ | ⟨b, o, c, h, _⟩
    · exact ⟨_, _, _, h, by rw [h0]; rfl⟩
    · exact ⟨_, _, _, h, rfl⟩
  subst hn
  go_enter Tryd.func27, Tryd.ntmps27
  go_wp2_with (at_make; go_must (refine wpList_makeB rfl _ _ rfl _ _ _ _ bs.length (bs.length + 6) rfl rfl rfl (by push_cast; rfl) (by omega) (by omega) ?_))
  intro w1 hbl hb1
  have hr1 := hr.stays hb1
  clear hr
  go_wp2_with (refine wpList_copyB (o := ⟨some 14, _, _, _, _, _⟩) rfl _ _ rfl w.heap.size 0 bs.length (bs.length + 6) (by rfl) _ bs (by rfl) hr1 (Nat.le_refl _) _ hbl (by simp) w.heap.size w hb1 (Nat.le_refl _) ?_)
  intro w2 hbl2 hb2
  clear hbl hr1 hb1
  have hbl3 : BlockB w2 w.heap.size (bs ++ List.replicate 6 (b8 0)) := by
    have e : splice (List.replicate (bs.length + 6) (b8 0)) 0 bs = bs ++ List.replicate 6 (b8 0) := by simp [splice]
    rw [e] at hbl2; exact hbl2
  clear hbl2
  go_wp2_with fail
  go_loopw [24] (fun i wr => ∃ k : Nat, k ≤ 6 ∧ i = .int .i64 k ∧ BlockB wr w.heap.size (bs ++ (List.replicate k (b8 165) ++ List.replicate (6 - k) (b8 0))) ∧ Below w.heap.size w wr) (fun i _ => 6 - (intOf i).toNat)
  case atStart => exact ⟨0, by omega, rfl, hbl3, hb2⟩
  case round =>
    obtain ⟨k, hk, rfl, hbk, hbe⟩ := hrel
    by_cases hlt : k < 6
    · have hcell : ∃ x, wr.cell? ⟨w.heap.size, bs.length + k, none⟩ = some x := by
        obtain ⟨x, hx⟩ : ∃ x, (bs ++ (List.replicate k (b8 165) ++ List.replicate (6 - k) (b8 0)))[bs.length + k]? = some x := ⟨_, List.getElem?_eq_getElem (by simp; omega)⟩
        exact ⟨_, hbk.cell hx⟩
      obtain ⟨x, hx⟩ := hcell
      have hfz := hbk.free (bs.length + k)
      go_wp2_with fail
      go_roundw
      case rel =>
        refine ⟨k + 1, by omega, by go_num, ?_, hbe.setCell (Nat.le_refl _) _⟩
        have := hbk.set (bs.length + k) (b8 165)
        rw [rep_set bs k hlt] at this
        exact this
      case measure => simp [intOf]; omega
    · obtain rfl : k = 6 := by omega
      go_wp2_with fail
      go_ret
      exact ⟨_, rfl, ⟨w.heap.size, rfl, Nat.le_refl _, by unfold maxLen; omega, by simpa using hbk⟩, hbe⟩

set_option maxRecDepth 100000 in
theorem kept_any (B : Nat) (v v' : Value) (bs : List UInt8) (w : World) (hm : MarkB B w v bs) (hr : RowB w v' bs) (hlen : bs.length ≤ 100000) :
    Calls Tryd.prog 29 #[v, v'] w fun e w' => e = .returned (.bool true) ∧ w = w' := by
  obtain ⟨g, rfl, _, _, hb⟩ := hm
  obtain ⟨a, c, rfl, hin⟩ : ∃ a c, v' = .slice a bs.length c ∧ ∀ j x, bs[j]? = some x → ∃ b o, a = some ⟨b, o, none⟩ ∧ w.cell? ⟨b, o + j, none⟩ = some (BV x) := by
    rcases hr.open with ⟨h0, a, c, h⟩ | ⟨b, o, c, h, _, _, _, hc⟩
    · exact ⟨_, _, by rw [h, h0]; rfl, fun j x h => by rw [h0] at h; simp at h⟩
    · exact ⟨_, _, h, fun j x hj => ⟨b, o, rfl, hc j x hj⟩⟩
  clear hr
  have HC := Lib.hid (fun j x (h : (bs ++ List.replicate 6 (b8 165))[j]? = some x) => hb.cell h)
  have HI := Lib.hid hin
  clear hb hin
  go_enter Tryd.func29, Tryd.ntmps29
  go_wp2_with fail
  go_loopw [15] (fun i wr => ∃ k : Nat, k ≤ bs.length + 6 ∧ i = .int .i64 k ∧ wr = w) (fun i _ => bs.length + 6 - (intOf i).toNat)
  case atStart => exact ⟨0, by omega, rfl, rfl⟩
  case round =>
    obtain ⟨k, hk, rfl, rfl⟩ := hrel
    by_cases hlt : k < bs.length
    · obtain ⟨x, hx⟩ : ∃ x, bs[k]? = some x := ⟨_, List.getElem?_eq_getElem hlt⟩
      obtain ⟨b, o, rfl, hcb⟩ := HI.out k x hx
      have hcc := HC.out k x (by rw [List.getElem?_append_left hlt]; exact hx)
      rw [BV_def] at hcb hcc
      clear hx
      go_wp2_with fail
      go_roundw
      case rel => exact ⟨k + 1, by omega, by go_num, trivial⟩
      case measure => simp [intOf]; omega
    · by_cases hlt6 : k < bs.length + 6
      · have hcc := HC.out k (b8 165) (by rw [List.getElem?_append_right (by omega), List.getElem?_replicate, if_pos (by omega)])
        rw [BV_b8] at hcc
        go_wp2_with fail
        go_roundw
        case rel => exact ⟨k + 1, by omega, by go_num, trivial⟩
        case measure => simp [intOf]; omega
      · go_wp2_with fail
        go_ret
        exact ⟨rfl, rfl⟩
end Go.Proofs.YtalebgnnlgcglaaDoor
