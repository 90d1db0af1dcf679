/- frame.Bytes and frame.Sectors, and the reference's. -/
import Derived.Test.YtgehbabcpmkgaaaDoorSeal
import Derived.Test.YtgehbabcpmkgaaaDoorCrcR
import Derived.Test.YtgehbabcpmkgaaaDoorErrs
import Derived.Test.YtgehbabcpmkgaaaDoorStr
namespace Go.Proofs.YtgehbabcpmkgaaaDoor
open Go Go.RowKit
set_option linter.unusedVariables false
/-- a frame's bytes ahead of their sum -/
def frameH (gen : Nat) (bs : List UInt8) : List UInt8 := fput 4 gen ++ fput 4 bs.length ++ bs
def frameV (gen : Nat) (bs : List UInt8) : List UInt8 := if 8192 < bs.length then [] else sealed (frameH gen bs)
def frameK (bs : List UInt8) : Nat := if 8192 < bs.length then 3 else 0
theorem frameH_len (gen : Nat) (bs : List UInt8) : (frameH gen bs).length = bs.length + 8 := by unfold frameH; simp [fput_len]; omega
theorem frameV_long {gen : Nat} {bs : List UInt8} (h : 8192 < bs.length) : frameV gen bs = [] ∧ frameK bs = 3 := ⟨if_pos h, if_pos h⟩
theorem frameV_ok {gen : Nat} {bs : List UInt8} (h : ¬ 8192 < bs.length) : frameV gen bs = sealed (frameH gen bs) ∧ frameK bs = 0 := ⟨if_neg h, if_neg h⟩
theorem frameK_le (bs : List UInt8) : frameK bs ≤ 19 := by unfold frameK; split <;> decide
set_option maxRecDepth 100000 in
theorem frameBytes_any (ea : Nat → Addr) (gen : Nat) (v : Value) (bs : List UInt8) (w : World) (hr : RowB w v bs) (hg : gen < 4294967296) (hlen : bs.length ≤ 100000) (he3 : ErrAt w 0 (ea 3)) :
    Calls Tryd.prog 17 #[.int .u32 gen, v] w fun e w' => ∃ v', e = .returned (.tuple #[v', EV ea (frameK bs)]) ∧ OwnB w.heap.size w' v' (frameV gen bs) ∧ Below w.heap.size w w' := by
  obtain ⟨a, c, rfl, -, -⟩ := hr.gen.shape
  by_cases hl : 8192 < bs.length
  · have HV := Lib.hid (frameV_long (gen := gen) hl)
    unfold ErrAt at he3
    clear hr
    go_enter Tryd.func17, Tryd.ntmps17
    go_wp2_with fail
    go_region
    all_goals go_wp2
    all_goals go_ret2
    all_goals exact ⟨.slice none 0 0, ret2 rfl (by rw [HV.out.2]; rfl), by rw [HV.out.1]; exact OwnB.nil _ _, (Below.refl _ _).drew⟩
  · have HV := Lib.hid (frameV_ok (gen := gen) hl)
    have HROW : Hid (∀ w', Below w.heap.size w w' → RowB w' (.slice a bs.length c) bs) := fun w' hb => hr.stays hb
    have HP := put32_any (.slice none 0 0) [] gen w hg (by simp) (RowB.nil w)
    rw [List.nil_append] at HP
    have HP := Lib.hid HP
    have hli : (bs.length : Int) ≤ 8192 := by omega
    clear hr he3 hg
    go_enter Tryd.func17, Tryd.ntmps17
    go_wp2_with fail
    refine HP.out.mono ?_
    rintro e w1 ⟨v1, rfl, ho1, hb1⟩
    have HP2 := Lib.hid (put32_any v1 (fput 4 gen) bs.length w1 (by omega) (by rw [fput_len]; decide) ho1.row)
    clear HP ho1
    go_wp2_with fail
    refine HP2.out.mono ?_
    rintro e w2 ⟨v2, rfl, ho2, hb2⟩
    have hbe2 := hb1.trans (hb2.mono hb1.size)
    obtain ⟨a2, c2, rfl, -, -⟩ := ho2.row.gen.shape
    have hbn : ∀ T, Below w2.heap.size w2 (w2.alloc (.cells #[.slice a2 (fput 4 gen ++ fput 4 bs.length).length c2, .slice a bs.length c] T)) := fun T => (Below.refl _ _).alloc (Nat.le_refl _) _
    have hJ := fun T => join_any (.slice (some ⟨w2.heap.size, 0, none⟩) 2 2) [(.slice a2 (fput 4 gen ++ fput 4 bs.length).length c2, fput 4 gen ++ fput 4 bs.length), (.slice a bs.length c, bs)] (w2.alloc (.cells #[.slice a2 (fput 4 gen ++ fput 4 bs.length).length c2, .slice a bs.length c] T)) (row2 w2 T _ _ _ _)
      (fun p hp => by
        simp only [List.mem_cons, List.not_mem_nil, or_false] at hp
        rcases hp with rfl | rfl
        · exact ho2.row.stays (hbn T)
        · exact (HROW.out _ hbe2).stays (hbn T)) (by rw [joined2]; simp [fput_len]; omega) (by simp)
    rw [joined2] at hJ
    have HJ := Lib.hid hJ
    have HBN := Lib.hid hbn
    have hfl : (fput 4 gen ++ fput 4 bs.length).length = 8 := by simp [fput_len]
    rw [hfl] at HJ HBN ⊢
    clear HP2 ho2 hb1 hb2 hJ hbn hfl
    go_wp2_with fail
    refine (HJ.out _).mono ?_
    rintro e w3 ⟨v3, rfl, ho3, hb3⟩
    have hb23 := (HBN.out 23).trans (hb3.mono (HBN.out _).size)
    have hbe3 := hbe2.trans (hb23.mono hbe2.size)
    have HS := Lib.hid (seal_any v3 (frameH gen bs) w3 ho3.row (by rw [frameH_len]; omega))
    clear HJ HBN ho3 hb3 hb23 hbe2
    go_wp2_with fail
    refine HS.out.mono ?_
    rintro e w4 ⟨v4, rfl, ho4, hb4⟩
    go_wp2_with fail
    go_ret2
    exact ⟨v4, ret2 rfl (by rw [HV.out.2]; rfl), by rw [HV.out.1]; exact ho4.mono hbe3.size, hbe3.trans (hb4.mono hbe3.size)⟩
theorem strB_data (bs : List UInt8) : (strB bs).data.toList = bs := by simp [strB]
set_option maxRecDepth 100000 in
theorem rframeBytes_any (gen : Nat) (bs : List UInt8) (w : World) (hg : gen < 4294967296) (hlen : bs.length ≤ 100000) :
    Calls Tryd.prog 18 #[.int .u32 gen, .string (strB bs)] w fun e w' => e = .returned (.tuple #[.string (strB (frameV gen bs)), .int .i64 (frameK bs)]) ∧ Below w.heap.size w w' := by
  have hsz := strB_size bs
  by_cases hl : 8192 < bs.length
  · have HV := Lib.hid (frameV_long (gen := gen) hl)
    go_enter Tryd.func18, Tryd.ntmps18
    go_wp2_with fail
    go_ret2
    exact ⟨ret2 (by rw [HV.out.1]; rfl) (by rw [HV.out.2]; rfl), Below.refl _ _⟩
  · have HV := Lib.hid (frameV_ok (gen := gen) hl)
    have HP := rput_any (.slice none 0 0) [] gen 4 w (by omega) (by simp) (by decide) (RowB.nil w)
    rw [List.nil_append, show ((4 : Nat) : Int) = 4 from rfl] at HP
    have HP := Lib.hid HP
    have hgi : (gen : Int) ≤ 4294967295 := by omega
    have hli : (bs.length : Int) ≤ 8192 := by omega
    clear hg
    go_enter Tryd.func18, Tryd.ntmps18
    go_wp2_with fail
    refine HP.out.mono ?_
    rintro e w1 ⟨v1, rfl, ho1, hb1⟩
    have HP2 := rput_any v1 (fput 4 gen) bs.length 4 w1 (by omega) (by rw [fput_len]; decide) (by decide) ho1.row
    rw [show ((4 : Nat) : Int) = 4 from rfl] at HP2
    have HP2 := Lib.hid HP2
    clear HP ho1
    go_wp2_with fail
    refine HP2.out.mono ?_
    rintro e w2 ⟨v2, rfl, ho2, hb2⟩
    have hbe2 := hb1.trans (hb2.mono hb1.size)
    have hfl : (fput 4 gen ++ fput 4 bs.length).length = 8 := by simp [fput_len]
    have hb1' := Lib.hid hb1
    obtain ⟨P, hP⟩ : ∃ P, P = fput 4 gen ++ fput 4 bs.length := ⟨_, rfl⟩
    rw [← hP] at ho2 hfl
    have HPe : Hid (P ++ bs = frameH gen bs) := by show _ = _; rw [hP]; rfl
    clear HP2 hb1 hP
    go_wp2_with (at_builtin; go_must (refine wpList_appendStr ho2 (strB bs) bs (strB_data bs) (by omega) hb2.size rfl _ _ rfl (by rfl) (by rfl) ?_))
    intro v3 w3 ho3 hg3 _
    rw [HPe.out] at ho3
    have hbe3 := hb1'.out.trans ((ho2.below hb2 hg3 hb2.size).mono hb1'.out.size)
    have hHl := frameH_len gen bs
    obtain ⟨H, hH⟩ : ∃ H, H = frameH gen bs := ⟨_, rfl⟩
    rw [← hH] at ho3 hHl HV
    have hcl := csum_lt H
    have HS := Lib.hid (rsum_any v3 H w3 ho3.row (by omega))
    have HP := rput_any v3 H (csum H) 4 w3 (by omega) (by omega) (by decide) ho3.row
    rw [show ((4 : Nat) : Int) = 4 from rfl, show H ++ fput 4 (csum H) = sealed H from rfl] at HP
    have HP := Lib.hid HP
    obtain ⟨S, hS⟩ : ∃ S, S = csum H := ⟨_, rfl⟩
    rw [← hS] at HS HP hcl
    have hSi : (S : Int) ≤ 4294967295 := by omega
    clear ho2 hb2 hbe2 hg3 ho3 hH hS hHl hfl
    go_wp2_with fail
    refine HS.out.mono ?_
    rintro e w4 ⟨rfl, rfl⟩
    clear HS
    go_wp2_with fail
    refine HP.out.mono ?_
    rintro e w4 ⟨v4, rfl, ho4, hb4⟩
    have s4 := convert_str ho4.row
    have hbe4 := hbe3.trans (hb4.mono hbe3.size)
    clear HP ho4 hb4 hbe3
    go_wp2_with fail
    go_ret2
    exact ⟨ret2 (by rw [HV.out.1]; rfl) (by rw [HV.out.2]; rfl), hbe4⟩
/-- how many sectors -/
def sectorsV (n : Int) : Int := if n < 0 ∨ 8192 < n then 0 else (n + 75) / 64
theorem sectors_any (n : Int) (w : World) (h1 : -9223372036854775808 ≤ n) (h2 : n ≤ 9223372036854775807) :
    Calls Tryd.prog 20 #[.int .i64 n] w fun e w' => e = .returned (.int .i64 (sectorsV n)) ∧ w = w' := by
  by_cases h : n < 0 ∨ 8192 < n
  · have HS : Hid (sectorsV n = 0) := if_pos h
    rcases h with h | h
    · go_enter Tryd.func20, Tryd.ntmps20
      go_wp2_with fail
      all_goals go_ret
      all_goals exact ⟨ret1 (vint (by rw [HS.out])), rfl⟩
    · have h0 : ¬ n < 0 := by omega
      go_enter Tryd.func20, Tryd.ntmps20
      go_wp2_with fail
      all_goals go_ret
      all_goals exact ⟨ret1 (vint (by rw [HS.out])), rfl⟩
  · have HS : Hid (sectorsV n = (n + 75) / 64) := if_neg h
    have h3 : 0 ≤ n := by omega
    have h4 : n ≤ 8192 := by omega
    clear h
    go_enter Tryd.func20, Tryd.ntmps20
    go_wp2_with fail
    go_ret
    exact ⟨ret1 (vint (by rw [HS.out]; omega)), rfl⟩
theorem rsectors_any (n : Int) (w : World) (h1 : -9223372036854775808 ≤ n) (h2 : n ≤ 9223372036854775807) :
    Calls Tryd.prog 21 #[.int .i64 n] w fun e w' => e = .returned (.int .i64 (sectorsV n)) ∧ w = w' := by
  by_cases h : n < 0 ∨ 8192 < n
  · have HS : Hid (sectorsV n = 0) := if_pos h
    rcases h with h | h
    · go_enter Tryd.func21, Tryd.ntmps21
      go_wp2_with fail
      all_goals go_ret
      all_goals exact ⟨ret1 (vint (by rw [HS.out])), rfl⟩
    · have h0 : ¬ n < 0 := by omega
      go_enter Tryd.func21, Tryd.ntmps21
      go_wp2_with fail
      all_goals go_ret
      all_goals exact ⟨ret1 (vint (by rw [HS.out])), rfl⟩
  · have HS : Hid (sectorsV n = (n + 75) / 64) := if_neg h
    have h3 : 0 ≤ n := by omega
    have h4 : n ≤ 8192 := by omega
    clear h
    go_enter Tryd.func21, Tryd.ntmps21
    go_wp2_with fail
    go_loopw [3] (fun m wr => ∃ k : Nat, 1 ≤ k ∧ (k : Int) * 64 < n + 12 + 64 ∧ k ≤ 1000 ∧ m = .int .i64 k ∧ w = wr) (fun m _ => (n + 100 - 64 * intOf m).toNat)
    case atStart => exact ⟨1, by omega, by omega, by omega, rfl, rfl⟩
    case round =>
      obtain ⟨k, hk1, hk2, hk3, rfl, rfl⟩ := hrel
      by_cases hlt : (k : Int) * 64 < n + 12
      · go_wp2_with fail
        go_roundw
        case rel => exact ⟨k + 1, by omega, by omega, by omega, by go_num, trivial⟩
        case measure => simp [intOf]; omega
      · go_wp2_with fail
        go_ret
        exact ⟨ret1 (vint (by rw [HS.out]; omega)), rfl⟩
end Go.Proofs.YtgehbabcpmkgaaaDoor
