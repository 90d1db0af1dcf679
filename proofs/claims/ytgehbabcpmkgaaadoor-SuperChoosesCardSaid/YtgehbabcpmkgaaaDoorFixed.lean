/- Numbers of four and of eight bytes, the lowest first: octets.number, Fixed32, Fixed64, Byte, Take, Skip, put, and the reference's Fixed, Put, Ask. -/
import Derived.Test.YtgehbabcpmkgaaaDoorReader
namespace Go.Proofs.YtgehbabcpmkgaaaDoor
open Go Go.RowKit
set_option linter.unusedVariables false
/-- the number of bytes, the lowest first -/
def fixedV : List UInt8 → Nat
  | [] => 0
  | x :: xs => x.toNat + 256 * fixedV xs
/-- so many bytes of a number, the lowest first -/
def putV : Nat → Nat → List UInt8
  | 0, _ => []
  | m + 1, n => b8 (n % 256) :: putV m (n / 256)
theorem putV_len : ∀ (m n : Nat), (putV m n).length = m
  | 0, _ => rfl
  | m + 1, n => by simp [putV, putV_len m]
theorem fixedV_lt : ∀ l : List UInt8, fixedV l < 256 ^ l.length
  | [] => by simp [fixedV]
  | x :: xs => by
    have := fixedV_lt xs
    have hx := x.toNat_lt
    simp only [fixedV, List.length_cons, Nat.pow_succ]
    omega
theorem fixedV_append : ∀ (l r : List UInt8), fixedV (l ++ r) = fixedV l + 256 ^ l.length * fixedV r
  | [], r => by simp [fixedV]
  | x :: xs, r => by
    simp only [List.cons_append, fixedV, fixedV_append xs r, List.length_cons, Nat.pow_succ]
    rw [Nat.mul_add, ← Nat.mul_assoc, Nat.mul_comm 256 (256 ^ xs.length), Nat.add_assoc]
theorem fixedV_put : ∀ (m n : Nat), fixedV (putV m n) = n % 256 ^ m
  | 0, n => by simp [putV, fixedV, Nat.mod_one]
  | m + 1, n => by
    simp only [putV, fixedV, fixedV_put m, b8_toNat, Nat.pow_succ]
    rw [Nat.mul_comm (256 ^ m) 256, Nat.mod_mul, Nat.mod_mod]
theorem fixedV_take {l : List UInt8} {k : Nat} {x : UInt8} (h : l[k]? = some x) : fixedV (l.take (k + 1)) = fixedV (l.take k) + x.toNat * 256 ^ k := by
  have hk : k < l.length := (List.getElem?_eq_some_iff.1 h).1
  rw [List.take_add_one, h, fixedV_append]
  have hl : (l.take k).length = k := by simp; omega
  rw [hl]
  simp only [Option.toList, fixedV]
  rw [Nat.mul_comm]; rfl
theorem pow256 (k : Nat) : (2 : Int) ^ (8 * k) = ((256 ^ k : Nat) : Int) := by
  rw [Int.pow_mul, show (2 : Int) ^ 8 = ((256 : Nat) : Int) from by decide, ← Int.natCast_pow]
theorem pow256_le {k : Nat} (h : k ≤ 7) : 256 ^ k ≤ 72057594037927936 := by
  refine Nat.le_trans (Nat.pow_le_pow_right (n := 256) (by omega) h) ?_
  decide +kernel
theorem num_bits (acc k x : Nat) (hk : k ≤ 7) (hacc : acc < 256 ^ k) (hx : x ≤ 255) :
    bits .or .u64 (acc : Int) (IntKind.u64.wrap ((x : Int) * 2 ^ (8 * k))) = ((acc + x * 256 ^ k : Nat) : Int) := by
  have hp := pow256_le hk
  have hm := Nat.mul_le_mul_right (256 ^ k) hx
  rw [pow256, ← Int.natCast_mul, IntWalk.u64_in ((x * 256 ^ k : Nat) : Int) (by omega), u64_or _ _ (by omega) (by omega) (by omega) (by omega), Int.toNat_natCast, Int.toNat_natCast]
  have hj := nat_join (8 * k) (x * 256 ^ k) acc (by rw [Nat.pow_mul]; exact Nat.mul_mod_left _ _) (by rw [Nat.pow_mul]; exact hacc)
  rw [Nat.or_comm, hj, Nat.add_comm]
set_option maxRecDepth 100000 in
theorem number_any (v : Value) (bs : List UInt8) (w : World) (hr : RowB w v bs) (hlen : bs.length ≤ 8) :
    Calls Tryd.prog 136 #[v] w fun e w' => e = .returned (.int .u64 (fixedV bs)) ∧ w = w' := by
  obtain ⟨a, c, rfl, _, hin⟩ := hr.gen.shape
  clear hr
  have HI := Lib.hid hin
  clear hin
  go_enter Tryd.func136, Tryd.ntmps136
  go_wp2_with fail
  go_loopw [3, 8] (fun n i wr => ∃ k : Nat, k ≤ bs.length ∧ i = .int .i64 k ∧ n = .int .u64 (fixedV (bs.take k)) ∧ wr = w) (fun _ i _ => bs.length - (intOf i).toNat)
  case atStart => exact ⟨0, Nat.zero_le _, rfl, rfl, rfl⟩
  case round =>
    obtain ⟨k, hk, rfl, rfl, rfl⟩ := hrel
    by_cases hlt : k < bs.length
    · obtain ⟨x, hx⟩ : ∃ x, bs[k]? = some x := ⟨_, List.getElem?_eq_getElem hlt⟩
      obtain ⟨b, o, rfl, hcx⟩ := HI.out k x hx
      rw [BV_def] at hcx
      have hx255 : x.toNat ≤ 255 := by have := x.toNat_lt; omega
      have hf := Lib.hid (fixedV_take hx)
      have hlt2 := fixedV_lt (bs.take k)
      have hl : (bs.take k).length = k := by simp; omega
      rw [hl] at hlt2
      have hb := Lib.hid (num_bits _ k x.toNat (by omega) hlt2 hx255)
      clear hx hlt2 hl
      go_wp2_with fail
      go_roundw
      case rel => exact ⟨k + 1, by omega, by go_num, vint (by rw [hb.out, hf.out]), trivial⟩
      case measure => simp [intOf]; omega
    · obtain rfl : k = bs.length := by omega
      rw [List.take_length]
      go_wp2_with fail
      go_ret
      exact ⟨rfl, rfl⟩
theorem rgot_len (bs : List UInt8) (p : Nat) (n : Int) : (rgot bs p n).length ≤ n.toNat := by
  unfold rgot
  split
  · simp; omega
  · simp
section
variable (ea : Nat → Addr) (g : Nat) (v : Value) (bs : List UInt8) (p : Nat) (w : World) (hrd : Rd w g v bs p) (he1 : ErrAt w 2 (ea 1)) (he2 : ErrAt w 3 (ea 2))
include hrd he1 he2
theorem fixed64_any : Calls Tryd.prog 140 #[.pointer (some ⟨g, 0, none⟩)] w fun e w' => e = .returned (.tuple #[.int .u64 (fixedV (rgot bs p 8)), EV ea (ask bs p 8)]) ∧ Rd w' g v bs (rat bs p 8) ∧ w.grownBy w' (some g) := by
  have HN := Lib.hid (next_any ea g v bs p 8 w hrd (by decide) (by decide) he1 he2)
  clear he1 he2
  go_enter Tryd.func140, Tryd.ntmps140
  go_wp2_with fail
  refine HN.out.mono ?_
  rintro e w1 ⟨v1, rfl, hr1, hrd1, hg1⟩
  have hl := rgot_len bs p 8
  have HM := Lib.hid (number_any v1 _ w1 hr1 hl)
  clear HN hrd hr1 hl
  go_wp2_with fail
  refine HM.out.mono ?_
  rintro e w2 ⟨rfl, rfl⟩
  go_wp2_with fail
  go_ret2
  exact ⟨rfl, hrd1, hg1⟩
theorem fixed32_any : Calls Tryd.prog 122 #[.pointer (some ⟨g, 0, none⟩)] w fun e w' => e = .returned (.tuple #[.int .u32 (fixedV (rgot bs p 4)), EV ea (ask bs p 4)]) ∧ Rd w' g v bs (rat bs p 4) ∧ w.grownBy w' (some g) := by
  have HN := Lib.hid (next_any ea g v bs p 4 w hrd (by decide) (by decide) he1 he2)
  clear he1 he2
  go_enter Tryd.func122, Tryd.ntmps122
  go_wp2_with fail
  refine HN.out.mono ?_
  rintro e w1 ⟨v1, rfl, hr1, hrd1, hg1⟩
  have hl := rgot_len bs p 4
  have hlt : fixedV (rgot bs p 4) ≤ 4294967295 := by
    have h1 := fixedV_lt (rgot bs p 4)
    have h2 := Nat.pow_le_pow_right (n := 256) (by omega) hl
    have h3 : 256 ^ (4 : Int).toNat = 4294967296 := by decide +kernel
    omega
  have HM := Lib.hid (number_any v1 _ w1 hr1 (by have : (4 : Int).toNat = 4 := rfl; omega))
  have hlti : ((fixedV (rgot bs p 4) : Nat) : Int) ≤ 4294967295 := by omega
  clear HN hrd hr1 hl
  go_wp2_with fail
  refine HM.out.mono ?_
  rintro e w2 ⟨rfl, rfl⟩
  go_wp2_with fail
  go_ret2
  exact ⟨rfl, hrd1, hg1⟩
theorem take_any (n : Int) (hn1 : -9223372036854775808 ≤ n) (hn2 : n ≤ 9223372036854775807) : Calls Tryd.prog 127 #[.pointer (some ⟨g, 0, none⟩), .int .i64 n] w fun e w' => ∃ v', e = .returned (.tuple #[v', EV ea (ask bs p n)]) ∧ OwnB w.heap.size w' v' (rgot bs p n) ∧ Rd w' g v bs (rat bs p n) ∧ w.grownBy w' (some g) := by
  have HN := Lib.hid (next_any ea g v bs p n w hrd hn1 hn2 he1 he2)
  have hsm := hrd.small
  clear he1 he2
  go_enter Tryd.func127, Tryd.ntmps127
  go_wp2_with fail
  refine HN.out.mono ?_
  rintro e w1 ⟨v1, rfl, hr1, hrd1, hg1⟩
  have hl : (rgot bs p n).length ≤ bs.length := by
    unfold rgot
    split
    · simp; omega
    · simp
  have HM := Lib.hid (clone_any v1 _ w1 hr1 (by omega))
  clear HN hrd hr1 hl
  go_wp2_with fail
  refine HM.out.mono ?_
  rintro e w2 ⟨v2, rfl, how2, hb2⟩
  go_wp2_with fail
  go_ret2
  exact ⟨v2, rfl, how2.mono hg1.size, hrd1.stays hb2, grownBy_step hg1 (grown_of_below hb2) (fun i h => by cases h)⟩
end
end Go.Proofs.YtgehbabcpmkgaaaDoor
