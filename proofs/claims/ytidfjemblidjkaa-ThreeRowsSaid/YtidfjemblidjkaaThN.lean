/- The walks of three.Mirror, Conflicts. -/
import Derived.Test.YtidfjemblidjkaaThM
namespace Go.Proofs.Ytidfjemblidjkaa
open Go Go.RowKit
set_option linter.unusedVariables false
set_option maxRecDepth 100000 in
set_option maxHeartbeats 4000000 in
theorem mirror1_any (c : Ck) (w : World) : Calls Try.prog 47 #[ckV c] w fun e w' => e = .returned (ckV (mirC c)) ∧ Below w.heap.size w w' := by
  have HB : Hid (∀ o1 o2, Below w.heap.size w ((w.alloc o1).alloc o2)) := fun o1 o2 => ((Below.refl _ _).alloc (Nat.le_refl _) o1).alloc (by simp) o2
  obtain ⟨k, o0, o1, p0, p1, q0, q1⟩ := c
  unfold ckV mirC
  by_cases h2 : k = 2
  · subst h2
    go_enter Try.func47, Try.ntmps47
    go_wp2_with fail
    exact bodyPost_ret (v := .agg #[.int .i64 3, .int .i64 o0, .int .i64 o1, .int .i64 q0, .int .i64 q1, .int .i64 p0, .int .i64 p1]) (by simp [results, Try.results47, go_sem]) rfl ⟨rfl, HB.out _ _⟩
  · have n2 : (k == 2) = false := by simpa using h2
    by_cases h3 : k = 3
    · subst h3
      go_enter Try.func47, Try.ntmps47
      go_wp2_with fail
      exact bodyPost_ret (v := .agg #[.int .i64 2, .int .i64 o0, .int .i64 o1, .int .i64 q0, .int .i64 q1, .int .i64 p0, .int .i64 p1]) (by simp [results, Try.results47, go_sem]) rfl ⟨rfl, HB.out _ _⟩
    · have n3 : (k == 3) = false := by simpa using h3
      have HK : Hid (mirK k = k) := by show _ = _; unfold mirK; rw [if_neg h2, if_neg h3]
      go_enter Try.func47, Try.ntmps47
      go_wp2_with fail
      exact bodyPost_ret (v := .agg #[.int .i64 k, .int .i64 o0, .int .i64 o1, .int .i64 q0, .int .i64 q1, .int .i64 p0, .int .i64 p1]) (by simp [results, Try.results47, go_sem]) rfl ⟨by rw [HK.out], HB.out _ _⟩
set_option maxRecDepth 100000 in
set_option maxHeartbeats 4000000 in
theorem mirror_any (v : Value) (cs : List Ck) (w : World) (hr : RowS ckC w v cs) (hl : cs.length ≤ 1000) :
    Calls Try.prog 31 #[v] w fun e w' => ∃ v', e = .returned v' ∧ OwnC w.heap.size w' v' (cs.map mirC) ∧ Below w.heap.size w w' := by
  obtain ⟨a0, c0, rfl, -, hin⟩ := hr.shape ckC_len
  have HIN := Lib.hid hin
  clear hr hin
  go_enter Try.func31, Try.ntmps31
  go_wp2_with fail
  go_loopw [3, 8] (fun x i wr => ∃ m : Nat, m ≤ cs.length ∧ i = .int .i64 m ∧ OwnC w.heap.size wr x ((cs.map mirC).take m) ∧ Below w.heap.size w wr) (fun _ i _ => cs.length - (intOf i).toNat)
  case atStart => exact ⟨0, Nat.zero_le _, rfl, OwnS.nil _ _, Below.refl _ _⟩
  case round =>
    obtain ⟨m, hm, rfl, how, hbe⟩ := hrel
    by_cases h1 : m < cs.length
    · obtain ⟨c, hq⟩ : ∃ r, cs[m]? = some r := ⟨_, List.getElem?_eq_getElem h1⟩
      have HN : Hid ((cs.map mirC).take (m + 1) = (cs.map mirC).take m ++ [mirC c]) := by show _ = _; rw [List.take_add_one, List.getElem?_map, hq]; rfl
      have hlen : ((cs.map mirC).take m).length ≤ 1000 := by rw [List.length_take, List.length_map]; omega
      have HLEN := Lib.hid hlen
      have HMV : Hid (∀ w, Calls Try.prog 47 #[ckV c] w fun e w' => e = .returned (ckV (mirC c)) ∧ Below w.heap.size w w') := fun w => mirror1_any c w
      obtain ⟨gb, ob, rfl, hc⟩ := HIN.out m _ hq
      obtain ⟨k, o0, o1, p0, p1, q0, q1⟩ := c
      have d0 := cell_below hbe (hc 0 (.int .i64 k) rfl)
      have d1 := cell_below hbe (hc 1 (.int .i64 o0) rfl)
      have d2 := cell_below hbe (hc 2 (.int .i64 o1) rfl)
      have d3 := cell_below hbe (hc 3 (.int .i64 p0) rfl)
      have d4 := cell_below hbe (hc 4 (.int .i64 p1) rfl)
      have d5 := cell_below hbe (hc 5 (.int .i64 q0) rfl)
      have d6 := cell_below hbe (hc 6 (.int .i64 q1) rfl)
      rw [Nat.add_zero] at d0
      rw [← Nat.add_assoc] at d1 d2 d3 d4 d5 d6
      have hbW := hbe.alloc hbe.size (.cells #[.int .i64 k, .int .i64 o0, .int .i64 o1, .int .i64 p0, .int .i64 p1, .int .i64 q0, .int .i64 q1] 51)
      have how2 : OwnC _ _ _ _ := OwnS.alloc how (.cells #[.int .i64 k, .int .i64 o0, .int .i64 o1, .int .i64 p0, .int .i64 p1, .int .i64 q0, .int .i64 q1] 51)
      clear hc hq hbe how hlen
      go_wp2_with fail
      refine (HMV.out _).mono ?_
      rintro e w5 ⟨rfl, hb5⟩
      have how5 : OwnC _ _ _ _ := OwnS.stays how2 hb5
      have hbe5 := hbW.trans (hb5.mono hbW.size)
      have hs5 : w.heap.size ≤ w5.heap.size := hbe5.size
      obtain ⟨K, hK⟩ : ∃ K, K = mirK k := ⟨_, rfl⟩
      have hmv : mirC ⟨k, o0, o1, p0, p1, q0, q1⟩ = ⟨K, o0, o1, q0, q1, p0, p1⟩ := by rw [hK]; rfl
      rw [hmv]
      rw [hmv] at HN
      unfold ckV
      clear hb5 how2 hbW hK hmv HMV
      go_wp2_with (at_builtin; go_must (refine wpList_pushS ckC_len ckC_one Try.underlying47 infoC rfl (by decide) how5 ⟨K, o0, o1, q0, q1, p0, p1⟩ (by have := HLEN.out; omega) hs5 rfl _ _ rfl (by rfl) _ _ _ (by rfl) (by rfl) ?_))
      intro v9 w9 o9 g9 n9
      have hb9 := hbe5.grown g9 hbe5.size (fun k hk => by have := (how5.lt k hk).1; omega)
      clear g9 n9 how5
      go_wp2_with fail
      go_roundw
      case rel => exact ⟨m + 1, by omega, by go_num, by rw [HN.out]; exact o9, hb9⟩
      case measure => simp only [intOf]; omega
    · obtain rfl : cs.length = m := by omega
      rw [List.take_of_length_le (by simp)] at how
      go_wp2_with fail
      go_ret
      exact ⟨_, rfl, how, hbe⟩
/-- how many conflicts -/
def badN (cs : List Ck) : Nat := (cs.filter fun c => decide (c.k = 5)).length
theorem badN_next {cs : List Ck} {m : Nat} {c : Ck} (h : cs[m]? = some c) : badN (cs.take (m + 1)) = badN (cs.take m) + if c.k = 5 then 1 else 0 := by
  unfold badN
  rw [List.take_add_one, h, List.filter_append, List.length_append]
  congr 1
  by_cases hk : c.k = 5 <;> simp [hk]
theorem badN_le (cs : List Ck) : badN cs ≤ cs.length := List.length_filter_le _ _
theorem clear_bad (cs : List Ck) : clearB cs = decide (badN cs = 0) := by
  unfold clearB badN
  rw [Bool.eq_iff_iff, List.all_eq_true, decide_eq_true_iff, List.length_eq_zero_iff, List.filter_eq_nil_iff]
  simp
set_option maxRecDepth 100000 in
set_option maxHeartbeats 4000000 in
theorem conflicts_any (v : Value) (cs : List Ck) (w : World) (hr : RowS ckC w v cs) (hl : cs.length ≤ 1000) :
    Calls Try.prog 30 #[v] w fun e w' => e = .returned (.int .i64 (badN cs : Nat)) ∧ Below w.heap.size w w' := by
  obtain ⟨a0, c0, rfl, -, hin⟩ := hr.shape ckC_len
  have HIN := Lib.hid hin
  clear hr hin
  go_enter Try.func30, Try.ntmps30
  go_wp2_with fail
  go_loopw [3, 8] (fun x i wr => ∃ m : Nat, m ≤ cs.length ∧ i = .int .i64 m ∧ x = .int .i64 (badN (cs.take m) : Nat) ∧ Below w.heap.size w wr) (fun _ i _ => cs.length - (intOf i).toNat)
  case atStart => exact ⟨0, Nat.zero_le _, rfl, rfl, Below.refl _ _⟩
  case round =>
    obtain ⟨m, hm, rfl, rfl, hbe⟩ := hrel
    by_cases h1 : m < cs.length
    · obtain ⟨⟨k, o0, o1, p0, p1, q0, q1⟩, hq⟩ : ∃ r, cs[m]? = some r := ⟨_, List.getElem?_eq_getElem h1⟩
      have HN := Lib.hid (badN_next hq)
      have hle := badN_le (cs.take m)
      rw [List.length_take] at hle
      obtain ⟨B, hB⟩ : ∃ B, B = badN (cs.take m) := ⟨_, rfl⟩
      rw [← hB] at hle HN ⊢
      have hB9 : B ≤ 1000 := by omega
      obtain ⟨gb, ob, rfl, hc⟩ := HIN.out m _ hq
      have d0 := cell_below hbe (hc 0 (.int .i64 k) rfl)
      have d1 := cell_below hbe (hc 1 (.int .i64 o0) rfl)
      have d2 := cell_below hbe (hc 2 (.int .i64 o1) rfl)
      have d3 := cell_below hbe (hc 3 (.int .i64 p0) rfl)
      have d4 := cell_below hbe (hc 4 (.int .i64 p1) rfl)
      have d5 := cell_below hbe (hc 5 (.int .i64 q0) rfl)
      have d6 := cell_below hbe (hc 6 (.int .i64 q1) rfl)
      rw [Nat.add_zero] at d0
      rw [← Nat.add_assoc] at d1 d2 d3 d4 d5 d6
      have hbW := hbe.alloc hbe.size (.cells #[.int .i64 k, .int .i64 o0, .int .i64 o1, .int .i64 p0, .int .i64 p1, .int .i64 q0, .int .i64 q1] 51)
      clear hc hq hbe hle hB
      by_cases hk : k = 5
      · subst hk
        have HN2 := Lib.hid (HN.out.trans (by rw [if_pos rfl]))
        clear HN
        go_wp2_with fail
        go_roundw
        case rel => exact ⟨m + 1, by omega, by go_num, by rw [HN2.out]; go_num, hbW⟩
        case measure => simp only [intOf]; omega
      · have n5 : (k == 5) = false := by simpa using hk
        have HN2 := Lib.hid (HN.out.trans (by rw [if_neg hk]))
        clear HN hk
        go_wp2_with fail
        go_roundw
        case rel => exact ⟨m + 1, by omega, by go_num, by rw [HN2.out]; rfl, hbW⟩
        case measure => simp only [intOf]; omega
    · obtain rfl : cs.length = m := by omega
      rw [List.take_length]
      go_wp2_with fail
      go_ret
      exact ⟨rfl, hbe⟩
end Go.Proofs.Ytidfjemblidjkaa
