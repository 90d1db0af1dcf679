/- The document's figures of every number. -/
import Derived.Test.YtcjflglpkpkflaaDoorDgQ
import Derived.Test.YtcjflglpkpkflaaDoorDgA
namespace Go.Proofs.YtcjflglpkpkflaaDoor
open Go Go.RowKit
set_option linter.unusedVariables false
theorem dec_len19 (u : Nat) (h : u ≤ 9223372036854775808) : (Lib.decDigits u).length ≤ 20 := dec_len 19 u (by omega)
set_option maxRecDepth 100000 in
set_option maxHeartbeats 1000000 in
theorem rfigP_any (u : Nat) (hu : u ≤ 9223372036854775807) (w : World) : Calls Tryd.prog 21 #[.int .i64 (u : Int)] w fun e w' => e = .returned (.string (strB (Lib.decDigits u))) ∧ Below w.heap.size w w' := by
  by_cases h0 : u = 0
  · subst h0
    have HZ : Hid (Lib.decDigits 0 = [48]) := by show _ = _; rw [dec_small 0 (by omega)]; rfl
    clear hu
    go_enter Tryd.func21, Tryd.ntmps21
    go_wp2_with fail
    go_ret
    exact ⟨congrArg (fun z => Ending.returned (Value.string (strB z))) HZ.out.symm, Below.refl _ _⟩
  · have HZ : Hid (figT u [] = Lib.decDigits u) := by show _ = _; unfold figT; rw [if_neg h0, List.append_nil]
    have HL20 : Hid ((Lib.decDigits u).length ≤ 20) := dec_len19 u (by omega)
    have t0 : ((u : Int) == 0) = false := by simpa using h0
    have t1 : decide ((u : Int) < 0) = false := decide_eq_false (by omega)
    have HU := Lib.hid hu
    clear h0 hu
    go_enter Tryd.func21, Tryd.ntmps21
    go_wp2_with fail
    go_loopw [0, 3] (fun x s wr => ∃ (m : Nat) (t : Bs), x = .int .i64 m ∧ s = .string (strB t) ∧ m ≤ u ∧ t.length ≤ 100 ∧ Hid (figT m t = Lib.decDigits u) ∧ Below w.heap.size w wr) (fun x _ _ => (intOf x).toNat)
    case atStart => exact ⟨u, [], rfl, rfl, Nat.le_refl _, by simp, HZ.out, Below.refl _ _⟩
    case round =>
      obtain ⟨m, t, rfl, rfl, hm, ht, HI, hbe⟩ := hrel
      have hlt : t.length ≤ 20 := by
        have h1 := HI.out
        have h2 := HL20.out
        rw [← h1] at h2
        unfold figT at h2
        split at h2
        · exact h2
        · rw [List.length_append] at h2; omega
      by_cases hm0 : m = 0
      · subst hm0
        have HD : Hid (t = Lib.decDigits u) := by have := HI.out; unfold figT at this; rw [if_pos rfl] at this; exact this
        clear HI
        go_wp2_with fail
        go_ret
        exact ⟨congrArg (fun z => Ending.returned (Value.string (strB z))) HD.out, hbe⟩
      · have b0 : ((m : Int) != 0) = true := by simpa using hm0
        have b1 : Int.tmod (m : Int) 10 = ((m % 10 : Nat) : Int) := by rw [Int.tmod_eq_emod_of_nonneg (by omega)]; omega
        have b2 : Int.tdiv (m : Int) 10 = ((m / 10 : Nat) : Int) := by rw [Int.tdiv_eq_ediv_of_nonneg (by omega)]; omega
        have HI2 : Hid (figT (m / 10) (UInt8.ofNat (48 + m % 10) :: t) = Lib.decDigits u) := by show _ = _; rw [figT_step m t hm0]; exact HI.out
        obtain ⟨d, hd⟩ : ∃ d : Nat, d = m % 10 := ⟨_, rfl⟩
        have hd9 : d ≤ 9 := by omega
        have b3 : decide (((d : Nat) : Int) < 0) = false := decide_eq_false (by omega)
        have b4 : IntKind.i64.wrap (48 + (d : Int)) = 48 + (d : Int) := by rw [IntKind.wrap_i64]; omega
        have b5 : IntKind.u8.wrap (48 + (d : Int)) = ((48 + d : Nat) : Int) := by rw [IntKind.wrap_u8]; omega
        rw [← hd] at b1 HI2
        obtain ⟨q, hq⟩ : ∃ q : UInt8, q = UInt8.ofNat (48 + d) := ⟨_, rfl⟩
        have hqn : ((48 + d : Nat) : Int) = ((q.toNat : Nat) : Int) := by rw [hq, dg_nat d (by omega)]
        rw [hqn] at b5
        rw [← hq] at HI2
        have hcv : (convert 71 9 (.slice (some ⟨wr.heap.size, 0, none⟩) 1 1)).run Tryd.prog (wr.alloc (.cells #[.int .u8 ((q.toNat : Nat) : Int)] 5)) = .ok (.string (strB [q])) (wr.alloc (.cells #[.int .u8 ((q.toNat : Nat) : Int)] 5)) := by
          have hown := World.ownsRow_lit (base := wr.heap.size) (e := 5) (size := 1) wr #[.int .u8 ((q.toNat : Nat) : Int)] 1 (Nat.le_refl _) (by unfold maxLen; omega) rfl
          exact convert_str (show RowB _ _ [q] from by
            have := Row.ofOwn hown
            rw [← BV_def] at this
            exact this)
        have hadd := str_add [q] t (by simp; omega) (wr.alloc (.cells #[.int .u8 ((q.toNat : Nat) : Int)] 5))
        rw [List.singleton_append] at hadd
        obtain ⟨m2, hm2⟩ : ∃ m2 : Nat, m2 = m / 10 := ⟨_, rfl⟩
        rw [← hm2] at b2 HI2
        have hml : m2 < m := by omega
        have HML := Lib.hid hml
        have HWR : Hid (wrap64 (m2 : Int) = m2) := by show _ = _; have := HU.out; unfold wrap64; omega
        have HM2 : Hid (m2 ≤ u) := by show _ ≤ _; omega
        clear hd hq hqn hm2 HI hml hm0
        go_wp2_with fail
        go_roundw
        case rel => exact ⟨m2, q :: t, by rw [HWR.out], rfl, HM2.out, by simp; omega, HI2.out, hbe.alloc hbe.size _⟩
        case measure => have := HML.out; rw [HWR.out]; simp only [intOf]; omega
set_option maxRecDepth 100000 in
set_option maxHeartbeats 1000000 in
theorem rfigN_any (u : Nat) (h0 : u ≠ 0) (hu : u ≤ 9223372036854775808) (w : World) : Calls Tryd.prog 21 #[.int .i64 (-(u : Int))] w fun e w' => e = .returned (.string (strB (45 :: Lib.decDigits u))) ∧ Below w.heap.size w w' := by
  have HZ : Hid (figT u [] = Lib.decDigits u) := by show _ = _; unfold figT; rw [if_neg h0, List.append_nil]
  have HL20 : Hid ((Lib.decDigits u).length ≤ 20) := dec_len19 u (by omega)
  have t0 : ((-(u : Int)) == 0) = false := by simp; omega
  have t1 : decide ((-(u : Int)) < 0) = true := decide_eq_true (by omega)
  have HU := Lib.hid hu
  obtain ⟨z, hz⟩ : ∃ z : Int, z = -(u : Int) := ⟨_, rfl⟩
  rw [← hz] at t0 t1 ⊢
  have HZZ := Lib.hid hz
  clear h0 hu hz
  go_enter Tryd.func21, Tryd.ntmps21
  go_wp2_with fail
  go_loopw [0, 3] (fun x s wr => ∃ (m : Nat) (t : Bs), x = .int .i64 (-(m : Int)) ∧ s = .string (strB t) ∧ Hid (m ≤ u) ∧ t.length ≤ 100 ∧ Hid (figT m t = Lib.decDigits u) ∧ Below w.heap.size w wr) (fun x _ _ => (-(intOf x)).toNat)
  case atStart => exact ⟨u, [], by rw [HZZ.out], rfl, Nat.le_refl _, by simp, HZ.out, Below.refl _ _⟩
  case round =>
    obtain ⟨m, t, rfl, rfl, HM, ht, HI, hbe⟩ := hrel
    have hlt : t.length ≤ 20 := by
      have h1 := HI.out
      have h2 := HL20.out
      rw [← h1] at h2
      unfold figT at h2
      split at h2
      · exact h2
      · rw [List.length_append] at h2; omega
    by_cases hm0 : m = 0
    · subst hm0
      have HD : Hid (t = Lib.decDigits u) := by have := HI.out; unfold figT at this; rw [if_pos rfl] at this; exact this
      have hadd := str_add [45] t (by simp; omega) wr
      rw [List.singleton_append] at hadd
      replace hadd : (Op.stringOp .add ⟨#[45]⟩ (strB t)).run Tryd.prog wr = .ok (.string (strB (45 :: t))) wr := hadd
      clear HI
      go_wp2_with fail
      go_ret
      exact ⟨congrArg (fun z => Ending.returned (Value.string (strB (45 :: z)))) HD.out, hbe⟩
    · obtain ⟨y, hy⟩ : ∃ y : Int, y = -(m : Int) := ⟨_, rfl⟩
      obtain ⟨d, hd⟩ : ∃ d : Nat, d = m % 10 := ⟨_, rfl⟩
      obtain ⟨m2, hm2⟩ : ∃ m2 : Nat, m2 = m / 10 := ⟨_, rfl⟩
      have hd9 : d ≤ 9 := by omega
      have b0 : (y != 0) = true := by simp [hy]; omega
      have b1 : Int.tmod y 10 = -((d : Nat) : Int) := by rw [hy, Int.neg_tmod, Int.tmod_eq_emod_of_nonneg (by omega)]; omega
      have b2 : Int.tdiv y 10 = -((m2 : Nat) : Int) := by rw [hy, Int.neg_tdiv, Int.tdiv_eq_ediv_of_nonneg (by omega)]; omega
      have HI2 : Hid (figT m2 (UInt8.ofNat (48 + d) :: t) = Lib.decDigits u) := by show _ = _; rw [hd, hm2, figT_step m t hm0]; exact HI.out
      have b4 : IntKind.i64.wrap (48 + (d : Int)) = 48 + (d : Int) := by rw [IntKind.wrap_i64]; omega
      have b5 : IntKind.u8.wrap (48 + (d : Int)) = ((48 + d : Nat) : Int) := by rw [IntKind.wrap_u8]; omega
      obtain ⟨q, hq⟩ : ∃ q : UInt8, q = UInt8.ofNat (48 + d) := ⟨_, rfl⟩
      have hqn : ((48 + d : Nat) : Int) = ((q.toNat : Nat) : Int) := by rw [hq, dg_nat d (by omega)]
      rw [hqn] at b5
      rw [← hq] at HI2
      have hcv : (convert 71 9 (.slice (some ⟨wr.heap.size, 0, none⟩) 1 1)).run Tryd.prog (wr.alloc (.cells #[.int .u8 ((q.toNat : Nat) : Int)] 5)) = .ok (.string (strB [q])) (wr.alloc (.cells #[.int .u8 ((q.toNat : Nat) : Int)] 5)) := by
        have hown := World.ownsRow_lit (base := wr.heap.size) (e := 5) (size := 1) wr #[.int .u8 ((q.toNat : Nat) : Int)] 1 (Nat.le_refl _) (by unfold maxLen; omega) rfl
        exact convert_str (show RowB _ _ [q] from by
          have := Row.ofOwn hown
          rw [← BV_def] at this
          exact this)
      have hadd := str_add [q] t (by simp; omega) (wr.alloc (.cells #[.int .u8 ((q.toNat : Nat) : Int)] 5))
      rw [List.singleton_append] at hadd
      have hml : m2 < m := by omega
      have HML := Lib.hid hml
      have HWR : Hid (wrap64 (-(m2 : Int)) = -(m2 : Int)) := by show _ = _; have h1 := HU.out; have h2 := HM.out; unfold wrap64; omega
      have HM2 : Hid (m2 ≤ u) := by show _ ≤ _; have := HM.out; omega
      have HY := Lib.hid hy
      rw [← hy]
      clear hy hq hqn hm2 HI hml hm0
      by_cases hd0 : d = 0
      · have b3 : decide (-((d : Nat) : Int) < 0) = false := decide_eq_false (by omega)
        have b6 : -((d : Nat) : Int) = (d : Int) := by omega
        rw [b6] at b1 b3
        clear hd hd0 b6
        go_wp2_with fail
        go_roundw
        case rel => exact ⟨m2, q :: t, by rw [HWR.out], rfl, HM2.out, by simp; omega, HI2.out, hbe.alloc hbe.size _⟩
        case measure => have := HML.out; have := HY.out; rw [HWR.out]; simp only [intOf]; omega
      · obtain ⟨D, hD⟩ : ∃ D : Int, D = -((d : Nat) : Int) := ⟨_, rfl⟩
        have b3 : decide (D < 0) = true := decide_eq_true (by omega)
        have b6 : IntKind.i64.wrap (-D) = (d : Int) := by rw [IntKind.wrap_i64]; omega
        rw [← hD] at b1
        clear hd hd0 hD
        go_wp2_with fail
        go_roundw
        case rel => exact ⟨m2, q :: t, by rw [HWR.out], rfl, HM2.out, by simp; omega, HI2.out, hbe.alloc hbe.size _⟩
        case measure => have := HML.out; have := HY.out; rw [HWR.out]; simp only [intOf]; omega
/-- the figures of every number -/
theorem rfigZ_any (n : Int) (hn : -9223372036854775808 ≤ n ∧ n ≤ 9223372036854775807) (w : World) : Calls Tryd.prog 21 #[.int .i64 n] w fun e w' => e = .returned (.string (strB (decZ n))) ∧ Below w.heap.size w w' := by
  unfold decZ
  by_cases h : n < 0
  · rw [if_pos h]
    have h1 := rfigN_any n.natAbs (by omega) (by omega) w
    rw [show -((n.natAbs : Nat) : Int) = n by omega] at h1
    exact h1
  · rw [if_neg h]
    have h1 := rfigP_any n.natAbs (by omega) w
    rw [show ((n.natAbs : Nat) : Int) = n by omega] at h1
    exact h1
end Go.Proofs.YtcjflglpkpkflaaDoor
