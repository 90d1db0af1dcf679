/- A number's bytes, the lowest first: octets.put, Put32, Put64; the reference's Put. At most eight bytes behind at most 1000000. -/
import Derived.Test.YtgehbabcpmkgaaaDoorFixed
namespace Go.Proofs.YtgehbabcpmkgaaaDoor
open Go Go.RowKit
set_option linter.unusedVariables false
def fput : Nat → Nat → List UInt8
  | 0, _ => []
  | k + 1, n => b8 n :: fput k (n / 256)
theorem fput_len : ∀ k n, (fput k n).length = k
  | 0, _ => rfl
  | k + 1, n => by simp [fput, fput_len k]
theorem fput_snoc : ∀ k n, fput (k + 1) n = fput k n ++ [b8 (n / 256 ^ k)]
  | 0, n => by simp [fput]
  | k + 1, n => by
    rw [fput, fput_snoc k, fput, Nat.pow_succ, Nat.mul_comm, Nat.div_div_eq_div_mul]
    rfl
theorem shift256 (n k : Nat) : (n : Int) / 2 ^ (8 * k) = ((n / 256 ^ k : Nat) : Int) := by
  rw [pow256]; rfl
theorem shiftB (n k : Nat) : Value.int .u8 (((n / 256 ^ k : Nat) : Int) % 256) = BV (b8 (n / 256 ^ k)) := by
  rw [BV_b8]; rfl
set_option maxRecDepth 100000 in
theorem oput_any (v : Value) (bs : List UInt8) (n k : Nat) (w : World) (h1 : n < 18446744073709551616) (hlen : bs.length ≤ 1000000) (hk8 : k ≤ 8) (hr : RowB w v bs) :
    Calls Tryd.prog 113 #[v, .int .u64 n, .int .i64 k] w fun e w' => ∃ v', e = .returned v' ∧ OwnB w.heap.size w' v' (bs ++ fput k n) ∧ Below w.heap.size w w' := by
  have HC := Lib.hid (clone_any v bs w hr (by omega))
  have h1' : (n : Int) ≤ 18446744073709551615 := by omega
  clear hr h1
  go_enter Tryd.func113, Tryd.ntmps113
  go_wp2_with fail
  refine HC.out.mono ?_
  rintro e w1 ⟨v1, rfl, ho1, hb1⟩
  clear HC
  go_wp2_with fail
  go_loopw [7, 12] (fun v7 i wr => ∃ j : Nat, j ≤ k ∧ i = .int .i64 j ∧ OwnB w.heap.size wr v7 (bs ++ fput j n) ∧ Below w.heap.size w wr) (fun _ i _ => k - (intOf i).toNat)
  case atStart => exact ⟨0, Nat.zero_le _, rfl, by simpa [fput] using ho1, hb1⟩
  case round =>
    obtain ⟨j, hj, rfl, how, hbe⟩ := hrel
    by_cases hlt : j < k
    · have hcl : (bs ++ fput j n).length ≤ 1000010 := by simp [fput_len]; omega
      have hs := Lib.hid (shift256 n j)
      obtain ⟨cs, hcs⟩ : ∃ cs, cs = bs ++ fput j n := ⟨_, rfl⟩
      rw [← hcs] at how hcl
      have HCS := Lib.hid hcs
      clear hcs
      go_wp2_with (at_builtin; go_must (refine wpList_pushB how (b8 (n / 256 ^ j)) (by omega) hbe.size rfl _ _ rfl (by rfl) _ _ _ (by rfl) (by rw [← shiftB, ← hs.out]) ?_))
      intro v' w' how' hg hn
      have hbe' := how.below hbe hg hbe.size
      clear hg hn how hbe
      go_wp2_with fail
      go_roundw
      case rel => exact ⟨j + 1, by omega, by go_num, by rw [fput_snoc, ← List.append_assoc, ← HCS.out]; exact how', hbe'⟩
      case measure => simp [intOf]; omega
    · obtain rfl : j = k := by omega
      go_wp2_with fail
      go_ret
      exact ⟨_, rfl, how, hbe⟩
theorem put64_any (v : Value) (bs : List UInt8) (n : Nat) (w : World) (h1 : n < 18446744073709551616) (hlen : bs.length ≤ 1000000) (hr : RowB w v bs) :
    Calls Tryd.prog 104 #[v, .int .u64 n] w fun e w' => ∃ v', e = .returned v' ∧ OwnB w.heap.size w' v' (bs ++ fput 8 n) ∧ Below w.heap.size w w' := by
  have HC := Lib.hid (oput_any v bs n 8 w h1 hlen (by decide) hr)
  clear hr
  go_enter Tryd.func104, Tryd.ntmps104
  go_wp2_with fail
  refine HC.out.mono ?_
  rintro e w1 ⟨v1, rfl, ho1, hb1⟩
  go_wp2_with fail
  go_ret
  exact ⟨_, rfl, ho1, hb1⟩
theorem put32_any (v : Value) (bs : List UInt8) (n : Nat) (w : World) (h1 : n < 4294967296) (hlen : bs.length ≤ 1000000) (hr : RowB w v bs) :
    Calls Tryd.prog 73 #[v, .int .u32 n] w fun e w' => ∃ v', e = .returned v' ∧ OwnB w.heap.size w' v' (bs ++ fput 4 n) ∧ Below w.heap.size w w' := by
  have HC := Lib.hid (oput_any v bs n 4 w (by omega) hlen (by decide) hr)
  have h1' : (n : Int) ≤ 4294967295 := by omega
  clear hr
  go_enter Tryd.func73, Tryd.ntmps73
  go_wp2_with fail
  refine HC.out.mono ?_
  rintro e w1 ⟨v1, rfl, ho1, hb1⟩
  go_wp2_with fail
  go_ret
  exact ⟨_, rfl, ho1, hb1⟩
set_option maxRecDepth 100000 in
theorem rput_any (v : Value) (bs : List UInt8) (n k : Nat) (w : World) (h1 : n < 18446744073709551616) (hlen : bs.length ≤ 1000000) (hk8 : k ≤ 8) (hr : RowB w v bs) :
    Calls Tryd.prog 76 #[v, .int .u64 n, .int .i64 k] w fun e w' => ∃ v', e = .returned v' ∧ OwnB w.heap.size w' v' (bs ++ fput k n) ∧ Below w.heap.size w w' := by
  have h1' : (n : Int) ≤ 18446744073709551615 := by omega
  have hown : Hid (OwnB w.heap.size (w.alloc (.cells #[] 5)) (.slice (some ⟨w.heap.size, 0, none⟩) 0 0) []) := OwnB.made w
  have hr' : RowB (w.alloc (.cells #[] 5)) v bs := hr.alloc _
  clear hr h1
  go_enter Tryd.func76, Tryd.ntmps76
  go_wp2_with (at_builtin; go_must (refine wpList_appendB hown.out hr' (by simp; omega) (by simp) rfl _ _ rfl (by rfl) (by rfl) ?_))
  intro v1 w1 ho1 hg1 _ _
  have hb1 : Below w.heap.size w w1 := ((Below.refl _ _).alloc (Nat.le_refl _) _).grown hg1 (by simp) (fun k hk => by simp [Value.ownBlock] at hk; omega)
  clear hg1 hown hr'
  go_wp2_with fail
  go_loopw [1, 7, 8] (fun m v7 i wr => ∃ j : Nat, ∃ q : Nat, j ≤ k ∧ i = .int .i64 j ∧ m = .int .u64 q ∧ q ≤ n ∧ Hid (q = n / 256 ^ j) ∧ OwnB w.heap.size wr v7 (bs ++ fput j n) ∧ Below w.heap.size w wr) (fun _ _ i _ => k - (intOf i).toNat)
  case atStart => exact ⟨0, n, Nat.zero_le _, rfl, rfl, Nat.le_refl _, by show _ = _; simp, by simpa [fput] using ho1, hb1⟩
  case round =>
    obtain ⟨j, q, hj, rfl, rfl, hq, hqe, how, hbe⟩ := hrel
    have hq' : (q : Int) ≤ 18446744073709551615 := by omega
    by_cases hlt : j < k
    · have hcl : (bs ++ fput j n).length ≤ 1000010 := by simp [fput_len]; omega
      obtain ⟨cs, hcs⟩ : ∃ cs, cs = bs ++ fput j n := ⟨_, rfl⟩
      rw [← hcs] at how hcl
      have HCS := Lib.hid hcs
      clear hcs
      go_wp2_with (at_builtin; go_must (refine wpList_pushB how (b8 q) (by omega) hbe.size rfl _ _ rfl (by rfl) _ _ _ (by rfl) (by rw [BV_b8]; try (congr 1)) ?_))
      intro v' w' how' hg hn
      have hbe' := how.below hbe hg hbe.size
      clear hg hn how hbe
      go_wp2_with fail
      go_roundw
      case rel => exact ⟨j + 1, q / 256, by omega, by go_num, by go_num, by omega, by show _ = _; rw [hqe.out, Nat.div_div_eq_div_mul, Nat.pow_succ], by rw [fput_snoc, ← List.append_assoc, ← HCS.out, ← hqe.out]; exact how', hbe'⟩
      case measure => simp [intOf]; omega
    · obtain rfl : j = k := by omega
      go_wp2_with fail
      go_ret
      exact ⟨_, rfl, how, hbe⟩
theorem fput_put : ∀ k n, fput k n = putV k n
  | 0, _ => rfl
  | k + 1, n => by
    rw [fput, putV, fput_put k]
    congr 1
    apply UInt8.toNat_inj.1
    rw [b8_toNat, b8_toNat, Nat.mod_mod]
theorem put_reads (bs : List UInt8) (k n : Nat) (hk : k ≤ 8) : (bs ++ fput k n).length = bs.length + k ∧ ask (bs ++ fput k n) 0 (bs.length : Int) = 0 ∧ rat (bs ++ fput k n) 0 (bs.length : Int) = bs.length ∧
    ask (bs ++ fput k n) bs.length (k : Int) = 0 ∧ fixedV (rgot (bs ++ fput k n) bs.length (k : Int)) = n % 256 ^ k ∧ rat (bs ++ fput k n) bs.length (k : Int) = bs.length + k := by
  have h1 : (bs ++ fput k n).length = bs.length + k := by rw [List.length_append, fput_len]
  have h2 : ask (bs ++ fput k n) 0 (bs.length : Int) = 0 := ask_ok (by omega) (by rw [h1]; omega)
  have h3 : ask (bs ++ fput k n) bs.length (k : Int) = 0 := ask_ok (by omega) (by rw [h1]; omega)
  refine ⟨h1, h2, ?_, h3, ?_, ?_⟩
  · unfold rat; rw [if_pos h2]; simp
  · unfold rgot; rw [if_pos h3, Int.toNat_natCast, List.take_of_length_le (by rw [h1]; exact Nat.le_refl _), List.drop_left, fput_put, fixedV_put]
  · unfold rat; rw [if_pos h3, Int.toNat_natCast]
theorem Rd.other {w w' : World} {g g' : Nat} {v : Value} {bs : List UInt8} {p : Nat} (h : Rd w g v bs p) (hg : w.grownBy w' (some g')) (hne : g ≠ g') (hv : bs ≠ [] → v.ownBlock ≠ some g') : Rd w' g v bs p :=
  ⟨h.cells.grown hg (fun e => hne (Option.some.inj e).symm), h.row.keep hg hv, h.le, h.apart, h.small⟩
theorem row_apart {w : World} {v : Value} {bs : List UInt8} {g : Nat} (h : RowB w v bs) (hg : w.heap.size ≤ g) : bs ≠ [] → v.ownBlock ≠ some g := fun hne e => by
  have := Row.block_lt h (List.length_pos_iff.2 hne) _ e
  omega
end Go.Proofs.YtgehbabcpmkgaaaDoor
