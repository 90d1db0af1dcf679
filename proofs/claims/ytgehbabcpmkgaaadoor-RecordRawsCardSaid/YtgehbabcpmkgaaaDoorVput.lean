/- A number's varint: what varint.Put, varint.Size and the reference's Put answer. Every number; of the bytes ahead at most 100000. -/
import Derived.Test.YtgehbabcpmkgaaaDoorLib
import Derived.Test.YtgehbabcpmkgaaaDoorClone
import Derived.Test.YtgehbabcpmkgaaaDoorLen64
namespace Go.Proofs.YtgehbabcpmkgaaaDoor
open Go Go.RowKit
set_option linter.unusedVariables false

def vput (n : Nat) : List UInt8 := if n < 128 then [b8 n] else b8 (n % 128 + 128) :: vput (n / 128)
theorem vput_lo {n : Nat} (h : n < 128) : vput n = [b8 n] := by rw [vput, if_pos h]
theorem vput_hi {n : Nat} (h : ¬ n < 128) : vput n = b8 (n % 128 + 128) :: vput (n / 128) := by rw [vput, if_neg h]
theorem vput_len : ∀ (k n : Nat), n < 128 ^ (k + 1) → (vput n).length ≤ k + 1
  | 0, n, h => by rw [vput_lo (by simpa using h)]; simp
  | k + 1, n, h => by
    by_cases hn : n < 128
    · rw [vput_lo hn]; simp
    · rw [vput_hi hn]
      have := vput_len k (n / 128) (by rw [Nat.div_lt_iff_lt_mul (by omega)]; rw [Nat.pow_succ] at h; exact h)
      simp; omega
theorem vput_pos (n : Nat) : 0 < (vput n).length := by
  by_cases hn : n < 128
  · rw [vput_lo hn]; simp
  · rw [vput_hi hn]; simp
theorem vput_len10 (n : Nat) (h : n < 18446744073709551616) : (vput n).length ≤ 10 := by
  refine vput_len 9 n (Nat.lt_of_lt_of_le h ?_)
  rw [show (128 : Nat) ^ (9 + 1) = 1180591620717411303424 from by decide +kernel]
  decide +kernel
theorem or128 : ∀ k : Fin 256, (k.val ||| 128) = k.val % 128 + 128 := by decide +kernel
theorem BV_or128 (m : Nat) : Value.int .u8 (bits .or .u8 ((m : Int) % 256) 128) = BV (b8 (m % 128 + 128)) := by
  rw [BV_b8, u8_or _ _ (by omega) (by omega) (by omega) (by omega)]
  have := or128 ⟨m % 256, by omega⟩
  simp only at this
  rw [show ((m : Int) % 256).toNat = m % 256 from by omega, show ((128 : Int)).toNat = 128 from rfl, this]
  congr 2; omega

set_option maxRecDepth 100000 in
/-- varint.put: a number's varint behind bytes that are the call's own -/
theorem put_any (B : Nat) (v : Value) (bs : List UInt8) (n : Nat) (w : World) (h1 : n < 18446744073709551616) (hlen : bs.length ≤ 1000000) (hB : B ≤ w.heap.size) (hown : OwnB B w v bs) :
    Calls Tryd.prog 118 #[v, .int .u64 n] w fun e w' => ∃ v', e = .returned v' ∧ OwnB B w' v' (bs ++ vput n) ∧ w.grownBy w' v.ownBlock ∧ NewOrSame w v v' := by
  have hl10 := vput_len10 n h1
  have h1' : (n : Int) ≤ 18446744073709551615 := by omega
  clear h1
  go_enter Tryd.func118, Tryd.ntmps118
  go_wp2
  go_loopw [0, 1] (fun v0 v1 wr => ∃ (cs : List UInt8) (m : Nat), v1 = .int .u64 m ∧ m ≤ n ∧ OwnB B wr v0 cs ∧ Hid (cs ++ vput m = bs ++ vput n) ∧ w.grownBy wr v.ownBlock ∧ NewOrSame w v v0)
    (fun _ v1 _ => (intOf v1).toNat)
  case atStart => exact ⟨bs, n, rfl, Nat.le_refl _, hown, rfl, grownBy_refl _ _, NewOrSame.refl _ _⟩
  case round =>
    obtain ⟨cs, m, rfl, hm, how, hcs, hgr, hns⟩ := hrel
    have hcl : cs.length ≤ bs.length + 10 := by
      have := congrArg List.length hcs.out
      simp at this; omega
    have hsz := hgr.size
    have hm' : (m : Int) ≤ 18446744073709551615 := by omega
    by_cases hlt : m < 128
    · go_wp2_with (at_builtin; go_must (refine wpList_pushB how (b8 m) (by omega) (by omega) rfl _ _ rfl (by rfl) _ _ _ (by rfl) (by rw [BV_b8]; congr 1; omega) ?_))
      intro v' w' how' hg hn
      have hgr' := grownBy_step hgr hg hns
      have hns' := hns.trans hn hsz
      clear hg hn hgr hns
      go_wp2
      go_ret
      refine ⟨_, rfl, ?_, hgr', hns'⟩
      rwa [← vput_lo hlt, hcs.out] at how'
    · go_wp2_with (at_builtin; go_must (refine wpList_pushB how (b8 (m % 128 + 128)) (by omega) (by omega) rfl _ _ rfl (by rfl) _ _ _ (by rfl) (by exact BV_or128 m) ?_))
      intro v' w' how' hg hn
      have hgr' := grownBy_step hgr hg hns
      have hns' := hns.trans hn hsz
      clear hg hn hgr hns
      go_wp2
      go_roundw
      case rel =>
        refine ⟨cs ++ [b8 (m % 128 + 128)], m / 128, by go_num, by omega, how', ?_, hgr', hns'⟩
        have := hcs.out
        rw [vput_hi hlt] at this
        simpa [Hid] using this
      case measure => simp [intOf]; omega

/-- varint.Put: behind a copy of bytes -/
theorem vPut_any (v : Value) (bs : List UInt8) (n : Nat) (w : World) (h1 : n < 18446744073709551616) (hlen : bs.length ≤ 1000000) (hr : RowB w v bs) :
    Calls Tryd.prog 81 #[v, .int .u64 n] w fun e w' => ∃ v', e = .returned v' ∧ OwnB w.heap.size w' v' (bs ++ vput n) ∧ Below w.heap.size w w' := by
  go_enter Tryd.func81, Tryd.ntmps81
  go_wp2_with fail
  refine (clone_any v bs w hr (by omega)).mono ?_
  rintro e w1 ⟨v1, rfl, ho1, hb1⟩
  go_wp2_with fail
  refine (put_any w.heap.size v1 bs n w1 h1 hlen hb1.size ho1).mono ?_
  rintro e w2 ⟨v2, rfl, ho2, hg2, _⟩
  have hb2 := below_own hb1 ho1 hg2 hb1.size
  clear hg2
  go_wp2
  go_ret
  exact ⟨_, rfl, ho2, hb2⟩
end Go.Proofs.YtgehbabcpmkgaaaDoor
