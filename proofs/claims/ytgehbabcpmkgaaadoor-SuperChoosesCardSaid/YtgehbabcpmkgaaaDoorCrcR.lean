/- The reference's sum of bytes. -/
import Derived.Test.YtgehbabcpmkgaaaDoorCrcS
import Derived.BigQuiet
import Derived.Deep.QuietTactic
import Derived.Laws.BitsAllLaws
namespace Go.Proofs.YtgehbabcpmkgaaaDoor
open Go Go.RowKit
set_option linter.unusedVariables false
theorem citer_step (j x : Nat) : citer (j + 1) x = cstep (citer j x) := citer_snoc j x
theorem cstep_odd {x : Nat} (h : x % 2 = 1) : cstep x = (x / 2) ^^^ 3988292384 := if_pos h
theorem cstep_even {x : Nat} (h : ¬ x % 2 = 1) : cstep x = x / 2 := if_neg h
theorem crc_xor (a b : Nat) (ha : a < 4294967296) (hb : b < 4294967296) : bits .xor .u32 (a : Int) (b : Int) = ((a ^^^ b : Nat) : Int) := u32_xor_nat a b ha hb
set_option maxRecDepth 100000 in
theorem rsum_any (v : Value) (bs : List UInt8) (w : World) (hr : RowB w v bs) (hlen : bs.length ≤ 1000000) :
    Calls Tryd.prog 77 #[v] w fun e w' => e = .returned (.int .u32 (csum bs)) ∧ w = w' := by
  obtain ⟨a, c, rfl, -, hin⟩ := hr.gen.shape
  clear hr
  have HI := Lib.hid hin
  clear hin
  go_enter Tryd.func77, Tryd.ntmps77
  go_wp2_with fail
  go_loopw [3, 10] (fun x i wr => ∃ k : Nat, k ≤ bs.length ∧ i = .int .i64 k ∧ x = .int .u32 (cfold 4294967295 (bs.take k)) ∧ w = wr) (fun _ i _ => bs.length - (intOf i).toNat)
  case atStart => exact ⟨0, Nat.zero_le _, rfl, rfl, rfl⟩
  case round =>
    obtain ⟨k, hk, rfl, rfl, rfl⟩ := hrel
    have hcl := cfold_lt (x := 4294967295) (by decide) (bs.take k)
    by_cases hlt : k < bs.length
    · obtain ⟨y, hx⟩ : ∃ y, bs[k]? = some y := ⟨_, List.getElem?_eq_getElem hlt⟩
      obtain ⟨b, o, rfl, hcx⟩ := HI.out k y hx
      rw [BV_def] at hcx
      have hst := Lib.hid (cfold_take (x := 4294967295) hx)
      obtain ⟨X, hX⟩ : ∃ X, X = cfold 4294967295 (bs.take k) := ⟨_, rfl⟩
      rw [← hX] at hcl ⊢
      have HX := Lib.hid hX
      have hy := y.toNat_lt
      have hxo := crc_xor X y.toNat hcl (by omega)
      have hxi : (X : Int) ≤ 4294967295 := by omega
      have hyi : (y.toNat : Int) ≤ 255 := by omega
      have hZl : X ^^^ y.toNat < 4294967296 := Nat.xor_lt_two_pow (n := 32) hcl (by omega)
      obtain ⟨Z, hZ⟩ : ∃ Z, Z = X ^^^ y.toNat := ⟨_, rfl⟩
      rw [← hZ] at hxo hZl
      have HZ := Lib.hid hZ
      have HZL := Lib.hid hZl
      clear hx hX hZ hZl hcl hy
      go_wp2_with fail
      clear hxo hxi hyi hcx
      go_loopw [3, 6] (fun x i wr => ∃ j : Nat, j ≤ 8 ∧ i = .int .i64 j ∧ x = .int .u32 (citer j Z) ∧ w = wr) (fun _ i _ => 8 - (intOf i).toNat)
      case atStart => exact ⟨0, Nat.zero_le _, rfl, rfl, rfl⟩
      case round =>
        obtain ⟨j, hj, rfl, rfl, rfl⟩ := hrel
        by_cases hlt8 : j < 8
        · have hcs := Lib.hid (citer_step j Z)
          have hJl := citer_lt j HZL.out
          obtain ⟨J, hJ⟩ : ∃ J, J = citer j Z := ⟨_, rfl⟩
          rw [← hJ] at hJl ⊢
          have HJ := Lib.hid hJ
          have hJi : (J : Int) ≤ 4294967295 := by omega
          clear hJ
          by_cases hodd : J % 2 = 1
          · obtain ⟨D, hD⟩ : ∃ D, D = (J / 2) ^^^ 3988292384 := ⟨_, rfl⟩
            obtain ⟨E, hE⟩ : ∃ E, E = J / 2 := ⟨_, rfl⟩
            have hxj : bits .xor .u32 (E : Int) 3988292384 = (D : Int) := by rw [hD, hE]; exact crc_xor (J / 2) 3988292384 (by omega) (by decide)
            have hfin : Hid (citer (j + 1) Z = D) := by show _ = _; rw [hcs.out, ← HJ.out, hD]; exact cstep_odd hodd
            have t1 : (J : Int).tmod 2 = 1 := by rw [Int.tmod_eq_emod_of_nonneg (by omega)]; omega
            have t2 : (J : Int).tdiv 2 = (E : Int) := by rw [Int.tdiv_eq_ediv_of_nonneg (by omega)]; omega
            have hEi : (E : Int) ≤ 2147483647 := by omega
            clear hD hodd hcs HJ hE hJl
            go_wp2_with fail
            go_roundw
            case rel => exact ⟨j + 1, by omega, by go_num, vint (by rw [hfin.out]), trivial⟩
            case measure => simp [intOf]; omega
          · obtain ⟨E, hE⟩ : ∃ E, E = J / 2 := ⟨_, rfl⟩
            have hfin : Hid (citer (j + 1) Z = E) := by show _ = _; rw [hcs.out, ← HJ.out, hE]; exact cstep_even hodd
            have t1 : (J : Int).tmod 2 = 0 := by rw [Int.tmod_eq_emod_of_nonneg (by omega)]; omega
            have t2 : (J : Int).tdiv 2 = (E : Int) := by rw [Int.tdiv_eq_ediv_of_nonneg (by omega)]; omega
            have hEi : (E : Int) ≤ 2147483647 := by omega
            clear hodd hcs HJ hE hJl
            go_wp2_with fail
            go_roundw
            case rel => exact ⟨j + 1, by omega, by go_num, vint (by rw [hfin.out]), trivial⟩
            case measure => simp [intOf]; omega
        · obtain rfl : j = 8 := by omega
          go_wp2_with fail
          go_roundw
          case rel => exact ⟨k + 1, by omega, by go_num, by rw [hst.out, ← HX.out, HZ.out]; rfl, trivial⟩
          case measure => simp [intOf]; omega
    · obtain rfl : k = bs.length := by omega
      rw [List.take_length] at hcl ⊢
      obtain ⟨X, hX⟩ : ∃ X, X = cfold 4294967295 bs := ⟨_, rfl⟩
      rw [← hX] at hcl ⊢
      obtain ⟨D, hD⟩ : ∃ D, D = X ^^^ 4294967295 := ⟨_, rfl⟩
      have hxo : bits .xor .u32 (X : Int) 4294967295 = (D : Int) := by rw [hD]; exact crc_xor X 4294967295 hcl (by decide)
      have hcs : Hid (csum bs = D) := by show _ = _; rw [hD, hX]; rfl
      clear hX hD
      go_wp2_with fail
      go_ret
      exact ⟨ret1 (vint (by rw [hcs.out])), rfl⟩
end Go.Proofs.YtgehbabcpmkgaaaDoor
