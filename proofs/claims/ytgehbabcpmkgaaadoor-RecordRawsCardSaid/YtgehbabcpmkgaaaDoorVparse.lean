/- The number with which bytes begin: varint.Parse. All bytes. -/
import Derived.Test.YtgehbabcpmkgaaaDoorVput
import Derived.BigQuiet
import Derived.Deep.QuietTactic
namespace Go.Proofs.YtgehbabcpmkgaaaDoor
open Go Go.RowKit
set_option linter.unusedVariables false
/-- the number, how many bytes it has, the error's number; i bytes are read, their number is acc -/
def vparse : Nat → Nat → List UInt8 → Nat × Nat × Nat
  | _, _, [] => (0, 0, 2)
  | i, acc, x :: xs => if i = 9 ∧ 1 < x.toNat then (0, 0, 4) else if x.toNat < 128 then (acc + x.toNat * 128 ^ i, i + 1, 0) else vparse (i + 1) (acc + x.toNat % 128 * 128 ^ i) xs

theorem pow128 (k : Nat) : (2 : Int) ^ (7 * k) = ((128 ^ k : Nat) : Int) := by
  rw [Int.pow_mul]; push_cast; rfl
theorem pow128_le {k : Nat} (h : k ≤ 9) : 128 ^ k ≤ 9223372036854775808 := by
  refine Nat.le_trans (Nat.pow_le_pow_right (n := 128) (by omega) h) ?_
  decide +kernel
theorem parse_bits (acc k x : Nat) (hk : k ≤ 9) (hacc : acc < 128 ^ k) (hx : x ≤ 255) (h9 : k = 9 → x ≤ 1) :
    bits .or .u64 (acc : Int) (IntKind.u64.wrap (IntKind.u64.wrap (bits .and .u8 (x : Int) 127) * 2 ^ (7 * k))) = ((acc + x % 128 * 128 ^ k : Nat) : Int) := by
  have e1 : bits .and .u8 (x : Int) 127 = ((x % 128 : Nat) : Int) := by
    rw [u8_and _ _ (by omega) (by omega) (by omega) (by omega), Int.toNat_natCast, show (127 : Int).toNat = 127 from rfl, nat_mask7]
  have hp := pow128_le hk
  have hlt : acc + x % 128 * 128 ^ k < 18446744073709551616 := by
    by_cases h : k = 9
    · have := h9 h
      have e : x % 128 ≤ 1 := by omega
      have := Nat.mul_le_mul_right (128 ^ k) e
      omega
    · have h8 : 128 ^ k ≤ 72057594037927936 := Nat.le_trans (Nat.pow_le_pow_right (n := 128) (by omega) (show k ≤ 8 by omega)) (by decide +kernel)
      have e : x % 128 ≤ 127 := by omega
      have := Nat.mul_le_mul_right (128 ^ k) e
      omega
  rw [e1, IntWalk.u64_in ((x % 128 : Nat) : Int) (by omega), pow128, ← Int.natCast_mul, IntWalk.u64_in ((x % 128 * 128 ^ k : Nat) : Int) (by omega), u64_or _ _ (by omega) (by omega) (by omega) (by omega), Int.toNat_natCast, Int.toNat_natCast]
  have hj := nat_join (7 * k) (x % 128 * 128 ^ k) acc (by rw [Nat.pow_mul]; exact Nat.mul_mod_left _ _) (by rw [Nat.pow_mul]; exact hacc)
  rw [Nat.or_comm, hj, Nat.add_comm]

set_option maxRecDepth 100000 in
theorem vParse_any (ea : Nat → Addr) (v : Value) (bs : List UInt8) (w : World) (hr : RowB w v bs) (hlen : bs.length ≤ 1000000) (he2 : ErrAt w 3 (ea 2)) (he4 : ErrAt w 9 (ea 4)) :
    Calls Tryd.prog 119 #[v] w fun e w' => e = .returned (.tuple #[.int .u64 (vparse 0 0 bs).1, .int .i64 (vparse 0 0 bs).2.1, EV ea (vparse 0 0 bs).2.2]) ∧ Below w.heap.size w w' := by
  unfold ErrAt at he2 he4
  rcases hr.open with ⟨rfl, a, c, rfl⟩ | ⟨b, o, c, rfl, hc1, hc2, hbw, hcell⟩
  · go_enter Tryd.func119, Tryd.ntmps119
    go_wp2
    go_rounds 1
    go_region
    all_goals go_wp2
    all_goals go_ret3
    all_goals exact ⟨by simp [vparse, EV], (Below.refl _ _).drew⟩
  · clear hr
    have HC := Lib.hid hcell
    clear hcell
    go_enter Tryd.func119, Tryd.ntmps119
    go_wp2
    go_loopw [2, 9] (fun v0 v1 wr => ∃ k acc : Nat, k ≤ bs.length ∧ v1 = .int .i64 k ∧ v0 = .int .u64 acc ∧ k ≤ 9 ∧ Hid (acc < 128 ^ k) ∧ Hid (vparse k acc (bs.drop k) = vparse 0 0 bs) ∧ wr = w)
      (fun _ v1 _ => bs.length - (intOf v1).toNat)
    case atStart => exact ⟨0, 0, Nat.zero_le _, rfl, rfl, by omega, by simp [Hid], rfl, rfl⟩
    case round =>
      obtain ⟨k, acc, hk, rfl, rfl, hk9, hacc, hvp, rfl⟩ := hrel
      by_cases hlt : k < bs.length
      · obtain ⟨x, hx⟩ : ∃ x, bs[k]? = some x := ⟨_, List.getElem?_eq_getElem hlt⟩
        have hcx := HC.out k x hx
        rw [BV_def] at hcx
        have hx255 : x.toNat ≤ 255 := by have := x.toNat_lt; omega
        have hdr := Lib.hid (List.drop_eq_getElem_cons hlt)
        have hxx : bs[k] = x := by rw [List.getElem?_eq_getElem hlt] at hx; exact Option.some.inj hx
        have hv := hvp.out
        rw [hdr.out, hxx] at hv
        have HV := Lib.hid hv
        clear hx hv hxx hdr hvp
        by_cases h9 : k = 9
        · subst h9
          by_cases hx1 : 1 < x.toNat
          · go_wp2_with fail
            go_region
            all_goals go_wp2
            all_goals go_ret3
            all_goals exact ⟨by rw [← HV.out]; simp [vparse, hx1, EV], (Below.refl _ _).drew⟩
          · have hpb := Lib.hid (parse_bits acc 9 x.toNat (by omega) hacc.out hx255 (by omega))
            go_wp2_with fail
            go_ret3
            refine ⟨ret3 (vint ?_) (vint ?_) ?_, Below.refl _ _⟩
            · rw [← HV.out]; simp only [vparse, hx1, and_false, if_false, show x.toNat < 128 from by omega, if_true]
              refine Eq.trans hpb.out ?_
              rw [show x.toNat % 128 = x.toNat from by omega]
            · rw [← HV.out]; simp [vparse, hx1, show x.toNat < 128 from by omega]
            · rw [← HV.out]; simp [vparse, hx1, show x.toNat < 128 from by omega, EV]
        · have hpb := Lib.hid (parse_bits acc k x.toNat (by omega) hacc.out hx255 (by omega))
          by_cases hx1 : x.toNat < 128
          · go_wp2_with fail
            go_ret3
            refine ⟨ret3 (vint ?_) (vint ?_) ?_, Below.refl _ _⟩
            · rw [← HV.out]; simp only [vparse, h9, false_and, if_false, hx1, if_true]
              refine Eq.trans hpb.out ?_
              rw [show x.toNat % 128 = x.toNat from by omega]
            · rw [← HV.out]; simp [vparse, h9, hx1]
            · rw [← HV.out]; simp [vparse, h9, hx1, EV]
          · have hpl : Hid (acc + x.toNat % 128 * 128 ^ k < 128 ^ (k + 1)) := by
              have h1 := hacc.out
              have e : x.toNat % 128 ≤ 127 := by omega
              have h2 := Nat.mul_le_mul_right (128 ^ k) e
              show _ < 128 ^ k * 128
              omega
            go_wp2_with fail
            go_roundw
            case rel =>
              refine ⟨k + 1, acc + x.toNat % 128 * 128 ^ k, by omega, by go_num, vint hpb.out, by omega, hpl, ?_, trivial⟩
              have := HV.out
              simp only [vparse, h9, false_and, if_false, hx1] at this
              exact this
            case measure => simp [intOf]; omega
      · have hkl : k = bs.length := by omega
        have hv := hvp.out
        rw [hkl, List.drop_length] at hv
        have HV := Lib.hid hv
        clear hv hvp hkl
        go_wp2_with fail
        go_region
        all_goals go_wp2
        all_goals go_ret3
        all_goals exact ⟨by rw [← HV.out]; simp [vparse, EV], (Below.refl _ _).drew⟩
end Go.Proofs.YtgehbabcpmkgaaaDoor
