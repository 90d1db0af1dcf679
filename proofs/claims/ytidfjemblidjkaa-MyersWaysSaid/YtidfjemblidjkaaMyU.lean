/- The walks of the reference's Way, of the program's right, Edits, Way. -/
import Derived.Test.YtidfjemblidjkaaMyW
namespace Go.Proofs.Ytidfjemblidjkaa
open Go Go.RowKit
set_option linter.unusedVariables false
theorem below_drewN {B n : Nat} {w w' : World} (h : Below B w w') : Below B w (w'.drewN n) := ⟨h.os, h.tape, h.output, h.size, h.block⟩
theorem rightR_no {k c : Int} (h : k < 1 ∨ 3 < k ∨ c < 1) : rightR (k, c) = false := by unfold rightR; simp; omega
theorem rightR_yes {k c : Int} (h1 : 1 ≤ k) (h2 : k ≤ 3) (h3 : 1 ≤ c) : rightR (k, c) = true := by unfold rightR; simp; omega
set_option maxRecDepth 100000 in
set_option maxHeartbeats 1000000 in
theorem right_any (k c : Int) (w : World) (hc : c ≤ 1048576) :
    Calls Try.prog 37 #[.agg #[.int .i64 k, .int .i64 c]] w fun e w' => e = .returned (.bool (rightR (k, c))) ∧ Below w.heap.size w w' := by
  have hb : Below w.heap.size w (w.alloc (.cells #[.int .i64 k, .int .i64 c] 41)) := (Below.refl _ _).alloc (Nat.le_refl _) _
  have e4 : decide (c ≤ 1048576) = true := by simpa using hc
  by_cases h1 : 1 ≤ k
  · by_cases h2 : k ≤ 3
    · by_cases h3 : 1 ≤ c
      · have HR := Lib.hid (rightR_yes h1 h2 h3)
        go_enter Try.func37, Try.ntmps37
        go_wp2_with fail
        go_ret
        exact ⟨ret1 (by rw [HR.out]; rfl), hb⟩
      · have HR := Lib.hid (rightR_no (k := k) (c := c) (by omega))
        have e3 : decide (c ≥ 1) = false := by simpa using h3
        go_enter Try.func37, Try.ntmps37
        go_wp2_with fail
        go_ret
        exact ⟨ret1 (by rw [HR.out]; rfl), hb⟩
    · have HR := Lib.hid (rightR_no (k := k) (c := c) (by omega))
      have e3 : decide (k ≤ 3) = false := by simpa using h2
      go_enter Try.func37, Try.ntmps37
      go_wp2_with fail
      go_ret
      exact ⟨ret1 (by rw [HR.out]; rfl), hb⟩
  · have HR := Lib.hid (rightR_no (k := k) (c := c) (by omega))
    have e3 : decide (k ≥ 1) = false := by simpa using h1
    go_enter Try.func37, Try.ntmps37
    go_wp2_with fail
    go_ret
    exact ⟨ret1 (by rw [HR.out]; rfl), hb⟩
theorem editsV_take {rs : List Rn} (hN : ∀ r ∈ rs, r.2 ≤ 1000) : ∀ m, 0 ≤ editsV (rs.take m) ∧ editsV (rs.take m) ≤ 1000 * m
  | 0 => by simp [editsV]
  | m + 1 => by
    have ih := editsV_take hN m
    rw [List.take_add_one, editsV_append]
    cases h : rs[m]? with
    | none => simp [editsV] at ih ⊢; omega
    | some r =>
      have h1 := hN r (List.mem_of_getElem? h)
      have h2 : editsV [r] = if rightR r ∧ r.1 ≠ 1 then r.2 else 0 := by simp [editsV]
      show 0 ≤ _ + editsV [r] ∧ _ + editsV [r] ≤ _
      rw [h2]
      split
      · rename_i h3
        have := h3.1
        unfold rightR at this
        simp at this
        push_cast; omega
      · push_cast; omega
theorem editsV_next {rs : List Rn} {m : Nat} {r : Rn} (h : rs[m]? = some r) : editsV (rs.take (m + 1)) = editsV (rs.take m) + if rightR r ∧ r.1 ≠ 1 then r.2 else 0 := by
  rw [List.take_add_one, editsV_append, h]
  simp [editsV]
set_option maxRecDepth 100000 in
set_option maxHeartbeats 4000000 in
theorem editsR_any (v : Value) (rs : List Rn) (w : World) (hr : RowS rnC w v rs) (hN : ∀ r ∈ rs, r.2 ≤ 1000) (hl : rs.length ≤ 1000) :
    Calls Try.prog 19 #[v] w fun e w' => e = .returned (.int .i64 (editsV rs)) ∧ Below w.heap.size w w' := by
  have HE := Lib.hid (editsV_take hN)
  have HN := Lib.hid hN
  obtain ⟨a0, c0, rfl, -, hin⟩ := hr.shape rnC_len
  have HIN := Lib.hid hin
  clear hr hin hN
  go_enter Try.func19, Try.ntmps19
  go_wp2_with fail
  go_loopw [3, 8] (fun x i wr => ∃ m : Nat, m ≤ rs.length ∧ i = .int .i64 m ∧ x = .int .i64 (editsV (rs.take m)) ∧ Below w.heap.size w wr) (fun _ i _ => rs.length - (intOf i).toNat)
  case atStart => exact ⟨0, Nat.zero_le _, rfl, rfl, Below.refl _ _⟩
  case round =>
    obtain ⟨m, hm, rfl, rfl, hbe⟩ := hrel
    by_cases h1 : m < rs.length
    · obtain ⟨⟨k, c⟩, hx⟩ : ∃ r, rs[m]? = some r := ⟨_, List.getElem?_eq_getElem h1⟩
      have hc2 : c ≤ 1000 := HN.out (k, c) (List.mem_of_getElem? hx)
      obtain ⟨gb, ob, rfl, hc⟩ := HIN.out m _ hx
      have d0 := cell_below hbe (hc 0 (.int .i64 k) rfl)
      have d1 := cell_below hbe (hc 1 (.int .i64 c) rfl)
      rw [Nat.add_zero] at d0
      rw [← Nat.add_assoc] at d1
      have hS1 := (HE.out m).1
      have hS2 := (HE.out m).2
      have HS := Lib.hid (editsV_next hx)
      have hbW := hbe.alloc hbe.size (.cells #[.int .i64 k, .int .i64 c] 41)
      have HRI := Lib.hid (right_any k c (wr.alloc (.cells #[.int .i64 k, .int .i64 c] 41)) (by omega))
      have hcA := CellsAt.new wr #[.int .i64 k, .int .i64 c] 41
      have hm2 : m ≤ 1000 := by omega
      clear hc hx hbe
      go_wp2_with fail
      refine HRI.out.mono ?_
      rintro e w2 ⟨rfl, hb2⟩
      have hc2' := hcA.stays hb2
      have f0 := hc2'.cell 0 (v := .int .i64 k) rfl
      have f1 := hc2'.cell 1 (v := .int .i64 c) rfl
      have hb3 := hbW.trans (hb2.mono hbW.size)
      clear hc2' hcA hb2 hbW d0 d1
      by_cases hr : rightR (k, c) = true
      · have hr' := hr
        unfold rightR at hr'
        simp at hr'
        have hc1 : 1 ≤ c := hr'.2.2
        clear hr'
        by_cases hk : k = 1
        · have e3 : (k != 1) = false := by simp [hk]
          have HS2 := Lib.hid (HS.out.trans (by rw [if_neg (by simp [hk]), Int.add_zero] : _ = editsV (rs.take m)))
          rw [hr]
          clear hk hr
          go_wp2_with fail
          go_roundw
          case rel => exact ⟨m + 1, by omega, by go_num, by rw [HS2.out], hb3⟩
          case measure => simp only [intOf]; omega
        · have e3 : (k != 1) = true := by simp [hk]
          have HS2 := Lib.hid (HS.out.trans (by rw [if_pos ⟨hr, hk⟩] : _ = editsV (rs.take m) + c))
          rw [hr]
          clear hk hr
          go_wp2_with fail
          go_roundw
          case rel => exact ⟨m + 1, by omega, by go_num, by rw [HS2.out], hb3⟩
          case measure => simp only [intOf]; omega
      · have hr2 : rightR (k, c) = false := by simpa using hr
        have HS2 := Lib.hid (HS.out.trans (by rw [if_neg (fun h => hr h.1), Int.add_zero] : _ = editsV (rs.take m)))
        rw [hr2]
        clear hr hr2
        go_wp2_with fail
        go_roundw
        case rel => exact ⟨m + 1, by omega, by go_num, by rw [HS2.out], hb3⟩
        case measure => simp only [intOf]; omega
    · obtain rfl : rs.length = m := by omega
      have hS1 := (HE.out rs.length).1
      go_wp2_with fail
      go_ret
      exact ⟨ret1 (by rw [List.take_length]; rfl), hbe⟩
theorem wayB_bad {rs : List Rn} {a b : List Int} {m : Nat} {r : Rn} (h : rs[m]? = some r) (hr : rightR r = false) : wayB rs a b = false := by
  have : rightB rs = false := by
    unfold rightB
    rw [List.all_eq_false]
    exact ⟨r, List.mem_of_getElem? h, by rw [hr]; simp⟩
  unfold wayB; rw [this]; rfl
theorem wayB_no {rs : List Rn} {a b : List Int} (h : wayP (stepsOf rs) a b = false) : wayB rs a b = false := by unfold wayB; rw [h, Bool.and_false]
theorem stepsOf_at {rs : List Rn} {m : Nat} {r : Rn} (h : rs[m]? = some r) : stepsOf (rs.drop m) = List.replicate r.2.toNat r.1 ++ stepsOf (rs.drop (m + 1)) := by
  have hm := (List.getElem?_eq_some_iff.1 h).1
  rw [List.drop_eq_getElem_cons hm, stepsOf_cons]
  have := (List.getElem?_eq_some_iff.1 h).2
  rw [this]
theorem right_next {rs : List Rn} {m : Nat} {r : Rn} (h : rs[m]? = some r) (h1 : rightB (rs.take m) = true) (hr : rightR r = true) : rightB (rs.take (m + 1)) = true := by
  unfold rightB at h1 ⊢
  rw [List.take_add_one, h, List.all_append, h1]
  simp [hr]
end Go.Proofs.Ytidfjemblidjkaa
