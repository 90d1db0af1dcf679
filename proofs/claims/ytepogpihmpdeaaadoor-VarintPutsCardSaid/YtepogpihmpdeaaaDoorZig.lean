/- Numbers zigzagged, and back: what varint.Zag, varint.Zig and the reference's Zag answer. Every number. -/
import Derived.Test.YtepogpihmpdeaaaDoorLib
namespace Go.Proofs.YtepogpihmpdeaaaDoor
open Go Go.RowKit
theorem toNat_ofInt64 (x : Int) : (((BitVec.ofInt 64 x).toNat : Nat) : Int) = x % 18446744073709551616 := by
  rw [BitVec.toNat_ofInt]; rw [Int.toNat_of_nonneg (by omega)]; rfl
theorem xor_i64_zero (x : Int) (h0 : -9223372036854775808 ≤ x) (h1 : x < 9223372036854775808) : bits .xor .i64 x 0 = x := by
  have e : bits .xor .i64 x 0 = IntKind.i64.wrap ((BitVec.ofInt 64 x).toNat) := by
    show IntKind.i64.wrap _ = _
    exact congrArg (fun b : BitVec 64 => IntKind.i64.wrap (b.toNat : Int)) (BitVec.xor_zero (x := BitVec.ofInt 64 x))
  rw [e, toNat_ofInt64, IntKind.wrap_i64]; omega
theorem xor_i64_ones (x : Int) (h0 : -9223372036854775808 ≤ x) (h1 : x < 9223372036854775808) : bits .xor .i64 x (-1) = -1 - x := by
  have e : bits .xor .i64 x (-1) = IntKind.i64.wrap ((~~~ BitVec.ofInt 64 x).toNat) := by
    show IntKind.i64.wrap _ = _
    exact congrArg (fun b : BitVec 64 => IntKind.i64.wrap (b.toNat : Int)) (BitVec.xor_allOnes (x := BitVec.ofInt 64 x))
  have e2 : (((~~~ BitVec.ofInt 64 x).toNat : Nat) : Int) = 18446744073709551615 - x % 18446744073709551616 := by
    rw [BitVec.toNat_not, Int.ofNat_sub (by have := (BitVec.ofInt 64 x).isLt; omega), toNat_ofInt64]; rfl
  rw [e, e2, IntKind.wrap_i64]; omega
theorem xor_u64_zero (x : Int) (h0 : 0 ≤ x) (h1 : x < 18446744073709551616) : bits .xor .u64 x 0 = x := by
  have e : bits .xor .u64 x 0 = IntKind.u64.wrap ((BitVec.ofInt 64 x).toNat) := by
    show IntKind.u64.wrap _ = _
    exact congrArg (fun b : BitVec 64 => IntKind.u64.wrap (b.toNat : Int)) (BitVec.xor_zero (x := BitVec.ofInt 64 x))
  rw [e, toNat_ofInt64, IntKind.wrap_u64]; omega
theorem xor_u64_ones (x : Int) (h0 : 0 ≤ x) (h1 : x < 18446744073709551616) : bits .xor .u64 x 18446744073709551615 = 18446744073709551615 - x := by
  have e : bits .xor .u64 x 18446744073709551615 = IntKind.u64.wrap ((~~~ BitVec.ofInt 64 x).toNat) := by
    show IntKind.u64.wrap _ = _
    exact congrArg (fun b : BitVec 64 => IntKind.u64.wrap (b.toNat : Int)) (BitVec.xor_allOnes (x := BitVec.ofInt 64 x))
  have e2 : (((~~~ BitVec.ofInt 64 x).toNat : Nat) : Int) = 18446744073709551615 - x % 18446744073709551616 := by
    rw [BitVec.toNat_not, Int.ofNat_sub (by have := (BitVec.ofInt 64 x).isLt; omega), toNat_ofInt64]; rfl
  rw [e, e2, IntKind.wrap_u64]; omega

def zag (n : Int) : Int := if n % 2 = 0 then n / 2 else -1 - n / 2
def zig (n : Int) : Int := if 0 ≤ n then 2 * n else -2 * n - 1
theorem zag_zig (n : Int) : zag (zig n) = n := by unfold zag zig; split <;> split <;> omega
theorem zig_zag (n : Int) (h : 0 ≤ n) : zig (zag n) = n := by unfold zag zig; split <;> split <;> omega
theorem zig_bd (n : Int) (h0 : -9223372036854775808 ≤ n) (h1 : n ≤ 9223372036854775807) : 0 ≤ zig n ∧ zig n ≤ 18446744073709551615 := by unfold zig; split <;> omega
theorem zag_bd (n : Int) (h0 : 0 ≤ n) (h1 : n ≤ 18446744073709551615) : -9223372036854775808 ≤ zag n ∧ zag n ≤ 9223372036854775807 := by unfold zag; split <;> omega
theorem zag_bits (n : Int) (h0 : 0 ≤ n) (h1 : n ≤ 18446744073709551615) : bits .xor .i64 (n / 2) (wrap64 (-wrap64 (bits .and .u64 n 1))) = zag n := by
  have hb : bits .and .u64 n 1 = n % 2 := by
    rw [u64_and n 1 h0 (by omega) (by omega) (by omega)]
    show ((n.toNat &&& 1 : Nat) : Int) = _
    rw [nat_mask1]; omega
  rw [hb]
  unfold zag
  rcases Int.emod_two_eq n with h | h
  · rw [h, if_pos rfl, show wrap64 (-wrap64 0) = 0 from by unfold wrap64; rfl]
    exact xor_i64_zero (n / 2) (by omega) (by omega)
  · rw [h, if_neg (by omega), show wrap64 (-wrap64 1) = -1 from by unfold wrap64; rfl]
    exact xor_i64_ones (n / 2) (by omega) (by omega)
theorem zig_bits (n : Int) (h0 : -9223372036854775808 ≤ n) (h1 : n ≤ 9223372036854775807) :
    bits .xor .u64 (IntKind.u64.wrap (IntKind.u64.wrap n * 2)) (IntKind.u64.wrap (n / 9223372036854775808)) = zig n := by
  unfold zig
  by_cases h : 0 ≤ n
  · rw [if_pos h, show n / 9223372036854775808 = 0 from by omega]
    rw [show IntKind.u64.wrap 0 = 0 from by decide, IntKind.wrap_u64, IntKind.wrap_u64]
    rw [xor_u64_zero _ (by omega) (by omega)]; omega
  · rw [if_neg h, show n / 9223372036854775808 = -1 from by omega]
    rw [show IntKind.u64.wrap (-1) = 18446744073709551615 from by decide, IntKind.wrap_u64, IntKind.wrap_u64]
    rw [xor_u64_ones _ (by omega) (by omega)]; omega

theorem ret_int {k : IntKind} {a b : Int} (h : a = b) : Ending.returned (.int k a) = .returned (.int k b) := by rw [h]
theorem zag_any (n : Int) (w : World) (h0 : 0 ≤ n) (h1 : n ≤ 18446744073709551615) :
    Calls Tryd.prog 11 #[.int .u64 n] w fun e w' => e = .returned (.int .i64 (zag n)) ∧ w = w' := by
  go_enter Tryd.func11, Tryd.ntmps11
  go_wp2
  go_ret
  exact ⟨ret_int (zag_bits n h0 h1), rfl⟩
theorem zagR_any (n : Int) (w : World) (h0 : 0 ≤ n) (h1 : n ≤ 18446744073709551615) :
    Calls Tryd.prog 12 #[.int .u64 n] w fun e w' => e = .returned (.int .i64 (zag n)) ∧ w = w' := by
  go_enter Tryd.func12, Tryd.ntmps12
  go_wp2
  all_goals go_ret
  · rename_i h; exact ⟨ret_int (by unfold zag; rw [if_pos (by simpa using h)]), rfl⟩
  · rename_i h; exact ⟨ret_int (by unfold zag; rw [if_neg (by simpa using h)]), rfl⟩
theorem zig_any (n : Int) (w : World) (h0 : -9223372036854775808 ≤ n) (h1 : n ≤ 9223372036854775807) :
    Calls Tryd.prog 13 #[.int .i64 n] w fun e w' => e = .returned (.int .u64 (zig n)) ∧ w = w' := by
  go_enter Tryd.func13, Tryd.ntmps13
  go_wp2
  go_ret
  exact ⟨ret_int (zig_bits n h0 h1), rfl⟩
end Go.Proofs.YtepogpihmpdeaaaDoor
