/- Which records there are: record.Check and the reference's Check. -/
import Derived.Test.YtgehbabcpmkgaaaDoorRcG
namespace Go.Proofs.YtgehbabcpmkgaaaDoor
open Go Go.RowKit
set_option linter.unusedVariables false
theorem str_empty (t : List UInt8) (h : t ≠ []) : (strB t == ({ data := #[] } : ByteArray)) = false := by
  have := strB_eq t []
  rw [decide_eq_false h] at this
  exact this
theorem strB_toList (t : List UInt8) : (strB t).toList = t := by rw [ByteArray.toList_eq]; rfl
section
variable (n k : Int) (bits : Nat) (text raw : List UInt8) (w : World) (hn1 : -9223372036854775808 ≤ n) (hn2 : n ≤ 9223372036854775807) (hk1 : -9223372036854775808 ≤ k) (hk2 : k ≤ 9223372036854775807) (hb : bits < 18446744073709551616) (hl : text.length ≤ 1000000)
include hn1 hn2 hk1 hk2 hb hl
set_option maxRecDepth 100000 in
set_option maxHeartbeats 4000000 in
theorem rcCheck_any (ea : Nat → Addr) (he1 : ErrAt w 2 (ea 1)) (he5 : ErrAt w 10 (ea 5)) (he6 : ErrAt w 11 (ea 6)) (he9 : ErrAt w 4 (ea 9)) (he12 : ErrAt w 1 (ea 12)) :
    Calls Tryd.prog 60 #[.agg #[.int .i64 n, .int .i64 k, .int .u64 bits, .string (strB text), .string (strB raw)]] w fun e w' => e = .returned (EV ea (rcheck ⟨n, k, bits, text, raw⟩)) ∧ Below w.heap.size w w' := by
  have hb0 : Below w.heap.size w (w.alloc (.cells #[.int .i64 n, .int .i64 k, .int .u64 bits, .string (strB text), .string (strB raw)] 69)) := (Below.refl _ _).alloc (Nat.le_refl _) _
  have hct := CellsAt.new w #[.int .i64 n, .int .i64 k, .int .u64 bits, .string (strB text), .string (strB raw)] 69
  have HC := Lib.hid (tCheck_any ea n k _ hn1 hn2 hk1 hk2 (he5.stays hb0) (he6.stays hb0) (he12.stays hb0))
  have hbi : (bits : Int) ≤ 18446744073709551615 := by omega
  have HCT := Lib.hid hct
  have HB0 := Lib.hid hb0
  have HE1 := Lib.hid (he1.stays hb0)
  have HE9 := Lib.hid (he9.stays hb0)
  clear hct hb0 he1 he5 he6 he9 he12 hb
  go_enter Tryd.func60, Tryd.ntmps60
  go_wp2_with fail
  refine HC.out.mono ?_
  rintro e w1 ⟨rfl, hb1⟩
  have hc1 := HCT.out.stays hb1
  have hbe := HB0.out.trans (hb1.mono HB0.out.size)
  have c0 := hc1.cell 0 (v := .int .i64 n) rfl
  have c1 := hc1.cell 1 (v := .int .i64 k) rfl
  have c2 := hc1.cell 2 (v := .int .u64 bits) rfl
  have c3 := hc1.cell 3 (v := .string (strB text)) rfl
  have e1 := HE1.out.stays hb1
  have e9 := HE9.out.stays hb1
  unfold ErrAt at e1 e9
  clear HC hc1 HE1 HE9 HCT HB0 hb1
  by_cases ht : tcheck n k = 0
  · have HT := Lib.hid ht
    rw [ht, EV_zero]
    obtain ⟨-, -, hk⟩ := tcheck_zero ht
    clear ht
    by_cases hk2' : k = 2
    · subst hk2'
      by_cases hb0 : bits = 0
      · subst hb0
        have HR : Hid (rcheck ⟨n, 2, 0, text, raw⟩ = 0) := rcheck_ok HT.out (by simp) (by simp)
        clear hk
        go_wp2_with fail
        go_ret
        exact ⟨by rw [HR.out]; rfl, hbe⟩
      · have HR : Hid (rcheck ⟨n, 2, bits, text, raw⟩ = 9) := rcheck_form HT.out (.inl ⟨rfl, hb0⟩)
        have d1 : ((bits : Int) == 0) = false := by simp; omega
        have d2 : ((bits : Int) != 0) = true := by simp; omega
        clear hk
        go_wp2_with fail
        go_ret
        exact ⟨by rw [HR.out]; rfl, hbe⟩
    · have d0 : (k == 2) = false := by simpa using hk2'
      have d0' : (k != 2) = true := by simpa using hk2'
      by_cases htx : text = []
      · subst htx
        have z1 := strB_toList []
        have z2 : (strB []).toList.isEmpty = true := by rw [z1]; rfl
        by_cases hk5 : k = 5
        · subst hk5
          by_cases hbig : 4294967295 < bits
          · have HR : Hid (rcheck ⟨n, 5, bits, [], raw⟩ = 1) := rcheck_range HT.out (by simp) ⟨rfl, hbig⟩
            have d1 : decide ((bits : Int) > 4294967295) = true := decide_eq_true (by omega)
            have d2 : decide (4294967295 < (bits : Int)) = true := decide_eq_true (by omega)
            clear hk
            go_wp2_with fail
            go_ret
            exact ⟨by rw [HR.out]; rfl, hbe⟩
          · have HR : Hid (rcheck ⟨n, 5, bits, [], raw⟩ = 0) := rcheck_ok HT.out (by simp) (fun h => hbig h.2)
            have d1 : decide ((bits : Int) > 4294967295) = false := decide_eq_false (by omega)
            have d2 : decide (4294967295 < (bits : Int)) = false := decide_eq_false (by omega)
            clear hk
            go_wp2_with fail
            go_ret
            exact ⟨by rw [HR.out]; rfl, hbe⟩
        · have HR : Hid (rcheck ⟨n, k, bits, [], raw⟩ = 0) := rcheck_ok HT.out (fun h => h.elim (fun h => hk2' h.1) (fun h => h.2 rfl)) (fun h => hk5 h.1)
          have d5 : (k == 5) = false := by simpa using hk5
          clear hk
          go_wp2_with fail
          go_ret
          exact ⟨by rw [HR.out]; rfl, hbe⟩
      · have HR : Hid (rcheck ⟨n, k, bits, text, raw⟩ = 9) := rcheck_form HT.out (.inr ⟨hk2', htx⟩)
        have d1 := str_empty text htx
        have d2 : (strB text).toList.isEmpty = false := by rw [strB_toList]; cases text with | nil => exact absurd rfl htx | cons _ _ => rfl
        have HTX := Lib.hid htx
        clear hk htx
        go_wp2_with fail
        go_ret
        exact ⟨by rw [HR.out]; rfl, hbe⟩
  · have HR : Hid (EV ea (rcheck ⟨n, k, bits, text, raw⟩) = .iface 248 (.pointer (some (ea (tcheck n k))))) := by show _ = _; rw [rcheck_tag ht]; exact EV_pos ea ht
    rw [EV_pos ea ht]
    clear ht
    go_wp2_with fail
    go_ret
    exact ⟨by rw [HR.out]; rfl, hbe⟩
set_option maxRecDepth 100000 in
set_option maxHeartbeats 4000000 in
theorem rcCheckR_any :
    Calls Tryd.prog 58 #[.agg #[.int .i64 n, .int .i64 k, .int .u64 bits, .string (strB text), .string (strB raw)]] w fun e w' => e = .returned (.int .i64 (rcheck ⟨n, k, bits, text, raw⟩)) ∧ Below w.heap.size w w' := by
  have hb0 : Below w.heap.size w (w.alloc (.cells #[.int .i64 n, .int .i64 k, .int .u64 bits, .string (strB text), .string (strB raw)] 73)) := (Below.refl _ _).alloc (Nat.le_refl _) _
  have HC := Lib.hid (tCheckR_any n k (w.alloc (.cells #[.int .i64 n, .int .i64 k, .int .u64 bits, .string (strB text), .string (strB raw)] 73)) hn1 hn2 hk1 hk2)
  have hbi : (bits : Int) ≤ 18446744073709551615 := by omega
  have hsz := strB_size text
  clear hb
  go_enter Tryd.func58, Tryd.ntmps58
  go_wp2_with fail
  refine HC.out.mono ?_
  rintro e w1 ⟨rfl, rfl⟩
  clear HC
  by_cases ht : tcheck n k = 0
  · have HT := Lib.hid ht
    rw [ht]
    obtain ⟨-, -, hk⟩ := tcheck_zero ht
    clear ht
    by_cases hk2' : k = 2
    · subst hk2'
      by_cases hb0' : bits = 0
      · subst hb0'
        have HR : Hid (rcheck ⟨n, 2, 0, text, raw⟩ = 0) := rcheck_ok HT.out (by simp) (by simp)
        clear hk
        go_wp2_with fail
        go_ret
        exact ⟨by rw [HR.out]; rfl, hb0⟩
      · have HR : Hid (rcheck ⟨n, 2, bits, text, raw⟩ = 9) := rcheck_form HT.out (.inl ⟨rfl, hb0'⟩)
        have d1 : ((bits : Int) == 0) = false := by simp; omega
        have d2 : ((bits : Int) != 0) = true := by simp; omega
        clear hk
        go_wp2_with fail
        go_ret
        exact ⟨by rw [HR.out]; rfl, hb0⟩
    · have d0 : (k == 2) = false := by simpa using hk2'
      have d0' : (k != 2) = true := by simpa using hk2'
      by_cases htx : text = []
      · subst htx
        by_cases hk5 : k = 5
        · subst hk5
          by_cases hbig : 4294967295 < bits
          · have HR : Hid (rcheck ⟨n, 5, bits, [], raw⟩ = 1) := rcheck_range HT.out (by simp) ⟨rfl, hbig⟩
            have d1 : decide ((bits : Int) ≥ 4294967296) = true := decide_eq_true (by omega)
            have d2 : decide (4294967296 ≤ (bits : Int)) = true := decide_eq_true (by omega)
            clear hk
            go_wp2_with fail
            go_ret
            exact ⟨by rw [HR.out]; rfl, hb0⟩
          · have HR : Hid (rcheck ⟨n, 5, bits, [], raw⟩ = 0) := rcheck_ok HT.out (by simp) (fun h => hbig h.2)
            have d1 : decide ((bits : Int) ≥ 4294967296) = false := decide_eq_false (by omega)
            have d2 : decide (4294967296 ≤ (bits : Int)) = false := decide_eq_false (by omega)
            clear hk
            go_wp2_with fail
            go_ret
            exact ⟨by rw [HR.out]; rfl, hb0⟩
        · have HR : Hid (rcheck ⟨n, k, bits, [], raw⟩ = 0) := rcheck_ok HT.out (fun h => h.elim (fun h => hk2' h.1) (fun h => h.2 rfl)) (fun h => hk5 h.1)
          have d5 : (k == 5) = false := by simpa using hk5
          clear hk
          go_wp2_with fail
          go_ret
          exact ⟨by rw [HR.out]; rfl, hb0⟩
      · have HR : Hid (rcheck ⟨n, k, bits, text, raw⟩ = 9) := rcheck_form HT.out (.inr ⟨hk2', htx⟩)
        have hpos : 0 < text.length := List.length_pos_iff.2 htx
        have d1 : decide ((text.length : Int) > 0) = true := decide_eq_true (by omega)
        have d2 : decide (0 < text.length) = true := decide_eq_true hpos
        clear hk htx
        go_wp2_with fail
        go_ret
        exact ⟨by rw [HR.out]; rfl, hb0⟩
  · have HR : Hid (rcheck ⟨n, k, bits, text, raw⟩ = tcheck n k) := rcheck_tag ht
    have d1 : ((tcheck n k : Int) != 0) = true := by simp; omega
    clear ht
    go_wp2_with fail
    go_ret
    exact ⟨by rw [HR.out]; rfl, hb0⟩
end
end Go.Proofs.YtgehbabcpmkgaaaDoor
