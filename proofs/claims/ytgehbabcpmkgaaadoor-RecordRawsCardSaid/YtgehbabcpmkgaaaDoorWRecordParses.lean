/- The walk of RecordParses: the record with which all bytes begin, and all records of them. -/
import Derived.Test.YtgehbabcpmkgaaaDoorRcG
namespace Go.Proofs.YtgehbabcpmkgaaaDoor
open Go Go.RowKit
set_option linter.unusedVariables false
theorem rparse_k (bs : List UInt8) : (rparse bs).2.2 ≤ 19 ∧ (rparse bs).1.bits < 18446744073709551616 := by
  rcases rparse_ok bs with ⟨r, s, h, hr⟩ | ⟨e, he, h19, h⟩
  · rw [h]; exact ⟨Nat.zero_le _, hr.bits⟩
  · rw [h]; exact ⟨h19, by show (0 : Nat) < _; omega⟩
theorem rallA_len : ∀ (f : Nat) (out : List Rc) (l : List UInt8), (rallA f out l).1.length ≤ out.length + l.length
  | f, out, [] => by rw [rallA_nil]; simp
  | 0, out, _ :: _ => Nat.le_add_right _ _
  | f + 1, out, x :: xs => by
    rcases rparse_ok (x :: xs) with ⟨r, s, h, hr⟩ | ⟨e, he, h19, h⟩
    · rw [rallA_step (by simp) h]
      have h1 := rallA_len f (out ++ [r]) ((x :: xs).drop s)
      have h2 := hr.pos
      rw [List.length_append, List.length_singleton, List.length_drop] at h1
      simp only [List.length_cons] at *
      omega
    · rw [rallA_bad (by simp) h he]; simp
set_option maxRecDepth 100000 in
set_option maxHeartbeats 4000000 in
theorem walkRecordParses (w : World) (v : Value) (bs : List UInt8) (hr : RowB w v bs) (ea : Nat → Addr) (he : ErrsAll ea w) :
    Calls Tryd.prog 7 #[v] w fun e w' => e = .returned (.bool true) ∧ Below w.heap.size w w' := by
  obtain ⟨a, c, rfl, -, -⟩ := hr.gen.shape
  have HA := Lib.hid (alive04 ea w he)
  have HE : Hid (∀ w', Below w.heap.size w w' → ErrsAll ea w') := fun w' hb => he.stays hb
  have HROW : Hid (∀ w', Below w.heap.size w w' → RowB w' (.slice a bs.length c) bs) := fun w' hb => hr.stays hb
  clear he hr
  go_enter Tryd.func7, Tryd.ntmps7
  go_wp2_with fail
  refine HA.out.mono ?_
  rintro e w1 ⟨rfl, hb1⟩
  clear HA
  by_cases hl : 400 < bs.length
  · go_wp2_with fail
    go_ret
    exact ⟨rfl, hb1⟩
  · have HB := Lib.hid (bytes_any _ bs w1 (HROW.out _ hb1) (by omega))
    go_wp2_with fail
    refine HB.out.mono ?_
    rintro e w2 ⟨v3, rfl, hm2, hb2⟩
    have hbe2 := hb1.trans (hb2.mono hb1.size)
    have hE := HE.out _ hbe2
    have hpp := rcParse_any ea v3 bs w2 hm2.row (by omega) hE.e1 hE.e2 hE.e4 hE.e5 hE.e6 hE.e12
    have hpr := fun w' (h : Below w.heap.size w w') => rcParseR_any _ bs w' (HROW.out w' h) (by omega)
    obtain ⟨hk19, hbit⟩ := rparse_k bs
    generalize rparse bs = T at hpp hpr hk19 hbit
    obtain ⟨⟨n, k, bits, text, raw⟩, s, K⟩ := T
    have HP : Hid (Calls Tryd.prog 42 #[v3] w2 fun e w' => e = .returned (.tuple #[.agg #[.int .i64 n, .int .i64 k, .int .u64 bits, .string (strB text), .string (strB raw)], .int .i64 s, EV ea K]) ∧ Below w2.heap.size w2 w') := hpp
    have HPR : Hid (∀ w', Below w.heap.size w w' → Calls Tryd.prog 43 #[.slice a bs.length c] w' fun e w'' => e = .returned (.tuple #[.agg #[.int .i64 n, .int .i64 k, .int .u64 bits, .string (strB text), .string (strB raw)], .int .i64 s, .int .i64 K]) ∧ Below w'.heap.size w' w'') := hpr
    have hbiti : (bits : Int) ≤ 18446744073709551615 := by
      have : bits < 18446744073709551616 := hbit
      omega
    have HK19 : Hid (K ≤ 19) := hk19
    obtain ⟨EE, hEE⟩ : ∃ E, E = EV ea K := ⟨_, rfl⟩
    rw [← hEE] at HP
    have hEs := EV_iface ea K
    rw [← hEE] at hEs
    have HEE := Lib.hid hEE
    clear HB hb1 hb2 hE hpp hpr hk19 hbit hEE
    go_wp2_with fail
    refine HP.out.mono ?_
    rintro e w3 ⟨rfl, hb3⟩
    have hm3 := hm2.stays hb3
    have hbe3 := hbe2.trans (hb3.mono hbe2.size)
    have hb4 : Below w3.heap.size w3 (w3.alloc (.cells #[.int .i64 n, .int .i64 k, .int .u64 bits, .string (strB text), .string (strB raw)] 69)) := (Below.refl _ _).alloc (Nat.le_refl _) _
    have hcA := CellsAt.new w3 #[.int .i64 n, .int .i64 k, .int .u64 bits, .string (strB text), .string (strB raw)] 69
    have hbe4 := hbe3.trans (hb4.mono hbe3.size)
    have hm4 := hm3.stays hb4
    have HPR4 := Lib.hid (HPR.out _ hbe4)
    clear HP HPR hm2 hb3 hbe2 hm3 hbe3 hb4
    go_wp2_with fail
    refine HPR4.out.mono ?_
    rintro e w5 ⟨rfl, hb5⟩
    have hcA5 := hcA.stays hb5
    have hm5 := hm4.stays hb5
    have hbe5 := hbe4.trans (hb5.mono hbe4.size)
    have hb6 : Below w5.heap.size w5 (w5.alloc (.cells #[.int .i64 n, .int .i64 k, .int .u64 bits, .string (strB text), .string (strB raw)] 73)) := (Below.refl _ _).alloc (Nat.le_refl _) _
    have hcB := CellsAt.new w5 #[.int .i64 n, .int .i64 k, .int .u64 bits, .string (strB text), .string (strB raw)] 73
    have hcA6 := hcA5.stays hb6
    have hm6 := hm5.stays hb6
    have hbe6 := hbe5.trans (hb6.mono hbe5.size)
    clear HPR4 hcA hm4 hbe4 hb5 hcA5 hm5 hbe5 hb6
    go_upto_region 8 with fail
    generalize w5.alloc (.cells #[.int .i64 n, .int .i64 k, .int .u64 bits, .string (strB text), .string (strB raw)] 73) = W6 at hcB hcA6 hm6 hbe6 ⊢
    generalize w5.heap.size = gB at hcB ⊢
    generalize w3.heap.size = gA at hcA6 ⊢
    have HK6 : Hid (∀ w', Below W6.heap.size W6 w' → Below W6.heap.size W6 w' ∧ w'.cell? ⟨gA, 0, none⟩ = some (.int .i64 n) ∧ w'.cell? ⟨gA, 1, none⟩ = some (.int .i64 k) ∧ w'.cell? ⟨gA, 2, none⟩ = some (.int .u64 bits) ∧ w'.cell? ⟨gA, 3, none⟩ = some (.string (strB text)) ∧ w'.cell? ⟨gA, 4, none⟩ = some (.string (strB raw)) ∧ w'.cell? ⟨gB, 0, none⟩ = some (.int .i64 n) ∧ w'.cell? ⟨gB, 1, none⟩ = some (.int .i64 k) ∧ w'.cell? ⟨gB, 2, none⟩ = some (.int .u64 bits) ∧ w'.cell? ⟨gB, 3, none⟩ = some (.string (strB text)) ∧ w'.cell? ⟨gB, 4, none⟩ = some (.string (strB raw))) := fun w' hb =>
      ⟨hb, (hcA6.stays hb).cell 0 rfl, (hcA6.stays hb).cell 1 rfl, (hcA6.stays hb).cell 2 rfl, (hcA6.stays hb).cell 3 rfl, (hcA6.stays hb).cell 4 rfl, (hcB.stays hb).cell 0 rfl, (hcB.stays hb).cell 1 rfl, (hcB.stays hb).cell 2 rfl, (hcB.stays hb).cell 3 rfl, (hcB.stays hb).cell 4 rfl⟩
    have HQO : Hid (∀ w', Calls Tryd.prog 44 #[.agg #[.int .i64 n, .int .i64 k, .int .u64 bits, .string (strB text), .string (strB raw)]] w' fun e w'' => e = .returned (.agg #[.int .i64 n, .int .i64 k, .int .u64 bits, .string (strB text), .string (strB raw)]) ∧ Below w'.heap.size w' w'') := fun w' => rcOf_any n k bits (strB text) (strB raw) w'
    have hNm := fun w' (hb : Below W6.heap.size W6 w') => num_any ea K HK19.out w' (HE.out w' (hbe6.trans (hb.mono hbe6.size)))
    rw [← HEE.out] at hNm
    have HNm := Lib.hid hNm
    have hbd : Below W6.heap.size W6 W6.drew := (Below.refl _ _).drew
    have HM6 := Lib.hid hm6
    have HBE6 := Lib.hid hbe6
    have se1 := strB_eq text text
    rw [decide_eq_true rfl] at se1
    have se2 := strB_eq raw raw
    rw [decide_eq_true rfl] at se2
    have b0 : (n == n) = true := by simp
    have b1 : (k == k) = true := by simp
    have b2 : ((bits : Int) == bits) = true := by simp
    have b3 : ((s : Int) == s) = true := by simp
    have b4 : ((K : Int) == K) = true := by simp
    clear hcA6 hcB hm6 hbe6 hNm
    go_cut [47] from 33 to 47 (fun v wx => v = .bool false ∧ Below W6.heap.size W6 wx)
    case first =>
      go_region_held3 (fun w' => Below W6.heap.size W6 w' ∧ w'.cell? ⟨gA, 0, none⟩ = some (.int .i64 n) ∧ w'.cell? ⟨gA, 1, none⟩ = some (.int .i64 k) ∧ w'.cell? ⟨gA, 2, none⟩ = some (.int .u64 bits) ∧ w'.cell? ⟨gA, 3, none⟩ = some (.string (strB text)) ∧ w'.cell? ⟨gA, 4, none⟩ = some (.string (strB raw)) ∧ w'.cell? ⟨gB, 0, none⟩ = some (.int .i64 n) ∧ w'.cell? ⟨gB, 1, none⟩ = some (.int .i64 k) ∧ w'.cell? ⟨gB, 2, none⟩ = some (.int .u64 bits) ∧ w'.cell? ⟨gB, 3, none⟩ = some (.string (strB text)) ∧ w'.cell? ⟨gB, 4, none⟩ = some (.string (strB raw)))
        (exact HK6.out _ (by assumption))
        ((first
          | (go_at_call 44; (with_reducible refine (HQO.out _).mono ?_); rintro e wA ⟨rfl, hbA⟩; have hbB : Below W6.heap.size W6 wA := Below.trans (by assumption) (hbA.mono (Below.size (by assumption))))
          | (go_at_call 19; (with_reducible refine (HNm.out _ (by assumption)).mono ?_); rintro e wC ⟨rfl, hbC⟩; have hbD : Below W6.heap.size W6 wC := Below.trans (by assumption) (hbC.mono (Below.size (by assumption))))))
      all_goals go_wp2_with fail
      all_goals go_meet
      all_goals exact ⟨rfl, hbD⟩
    case rest =>
      obtain ⟨rfl, hb7⟩ := hcut
      obtain ⟨w7, rfl⟩ : ∃ w7 : World, w7 = wc := ⟨_, rfl⟩
      have hbe7 := HBE6.out.trans (hb7.mono HBE6.out.size)
      have hm7 := HM6.out.stays hb7
      have hE7 := HE.out _ hbe7
      have hll : (rall bs).1.length ≤ 400 := by have := rallA_len bs.length [] bs; simp at this; unfold rall; omega
      have hk2 : (rall bs).2 ≤ 19 := rallA_err _ _ _
      have hal := rcAll_any ea v3 bs w7 hm7.row (by omega) hE7.e1 hE7.e2 hE7.e4 hE7.e5 hE7.e6 hE7.e12
      have har := fun w' (h : Below w.heap.size w w') => rcAllR_any _ bs w' (HROW.out w' h) (by omega)
      generalize rall bs = T at hll hk2 hal har
      obtain ⟨L, K2⟩ := T
      replace hll : L.length ≤ 400 := hll
      have HK2 : Hid (K2 ≤ 19) := hk2
      have HAL := Lib.hid hal
      have HAR := Lib.hid har
      clear HK6 HQO HNm hbd HM6 HBE6 se1 se2 b0 b1 b2 b3 b4 hb7 hE7 hk2 hal har HEE HK19 hEs hbiti
      go_wp2_with fail
      refine HAL.out.mono ?_
      rintro e w8 ⟨v8, rfl, ho8, hb8⟩
      have hbe8 := hbe7.trans (hb8.mono hbe7.size)
      have hm8 := hm7.stays hb8
      have HAR8 := Lib.hid (HAR.out _ hbe8)
      clear HAL HAR hm7 hb8 hbe7
      go_wp2_with fail
      refine HAR8.out.mono ?_
      rintro e w9 ⟨v9, rfl, ho9, hb9⟩
      have hbe9 := hbe8.trans (hb9.mono hbe8.size)
      have hm9 := hm8.stays hb9
      have hR8 := (OwnS.stays ho8 hb9).row
      have hR9 := ho9.row
      obtain ⟨a8, c8, rfl, -, hi8⟩ := RowS.shape hR8 rcC_len
      obtain ⟨a9, c9, rfl, -, hi9⟩ := RowS.shape hR9 rcC_len
      have HN := Lib.hid (num_any ea K2 HK2.out _ (HE.out _ hbe9))
      have HKp := Lib.hid (fun w' (hb : Below w9.heap.size w9 w') => kept_any _ v3 _ bs w' (hm9.stays hb) (HROW.out _ (hbe9.trans (hb.mono hbe9.size))) (by omega))
      have HI8 := Lib.hid hi8
      have HI9 := Lib.hid hi9
      have b4 : ((K2 : Int) == K2) = true := by simp
      clear HAR8 hm8 hm9 hbe8 ho8 ho9 hb9 hR8 hR9 hi8 hi9
      go_wp2_with fail
      refine HN.out.mono ?_
      rintro e w10 ⟨rfl, hb10⟩
      have hk10 := Lib.hid (HKp.out w10 hb10)
      clear HN HKp
      go_wp2_with fail
      refine hk10.out.mono ?_
      rintro e w11 ⟨rfl, rfl⟩
      have hbe10 := hbe9.trans (hb10.mono hbe9.size)
      have HB10 := Lib.hid hb10
      have HB9 := Lib.hid hbe9
      clear hk10 hb10 hbe9
      go_wp2_with fail
      go_loopw [77] (fun i wr => ∃ m : Nat, m ≤ L.length ∧ i = .int .i64 m ∧ Below w10.heap.size w10 wr) (fun i _ => L.length - (intOf i).toNat)
      case atStart => exact ⟨0, Nat.zero_le _, rfl, Below.refl _ _⟩
      case round =>
        obtain ⟨m, hm, rfl, hbr⟩ := hrel
        by_cases h1 : m < L.length
        · obtain ⟨⟨n, k, bits, text, raw⟩, hq⟩ : ∃ r, L[m]? = some r := ⟨_, List.getElem?_eq_getElem h1⟩
          obtain ⟨gb8, ob8, rfl, hc8⟩ := HI8.out m _ hq
          obtain ⟨gb9, ob9, rfl, hc9⟩ := HI9.out m _ hq
          have hbw := HB10.out.trans (hbr.mono HB10.out.size)
          have d0 := cell_below hbw (hc8 0 (.int .i64 n) rfl)
          have x0 := cell_below hbw (hc9 0 (.int .i64 n) rfl)
          have d1 := cell_below hbw (hc8 1 (.int .i64 k) rfl)
          have x1 := cell_below hbw (hc9 1 (.int .i64 k) rfl)
          have d2 := cell_below hbw (hc8 2 (.int .u64 bits) rfl)
          have x2 := cell_below hbw (hc9 2 (.int .u64 bits) rfl)
          have d3 := cell_below hbw (hc8 3 (.string (strB text)) rfl)
          have x3 := cell_below hbw (hc9 3 (.string (strB text)) rfl)
          have d4 := cell_below hbw (hc8 4 (.string (strB raw)) rfl)
          have x4 := cell_below hbw (hc9 4 (.string (strB raw)) rfl)
          rw [Nat.add_zero] at d0 x0
          rw [← Nat.add_assoc] at d1 d2 d3 d4 x1 x2 x3 x4
          have hbA : Below wr.heap.size wr (wr.alloc (.cells #[.int .i64 n, .int .i64 k, .int .u64 bits, .string (strB text), .string (strB raw)] 69)) := (Below.refl _ _).alloc (Nat.le_refl _) _
          have hct := CellsAt.new wr #[.int .i64 n, .int .i64 k, .int .u64 bits, .string (strB text), .string (strB raw)] 69
          have hbe := hbr.trans (hbA.mono hbr.size)
          have y0 := cell_below hbA x0
          have y1 := cell_below hbA x1
          have y2 := cell_below hbA x2
          have y3 := cell_below hbA x3
          have y4 := cell_below hbA x4
          clear hc8 hc9 hbw hbr hbA x0 x1 x2 x3 x4
          go_upto_region 17 with fail
          generalize wr.alloc (.cells #[.int .i64 n, .int .i64 k, .int .u64 bits, .string (strB text), .string (strB raw)] 69) = W12 at hct hbe y0 y1 y2 y3 y4 ⊢
          generalize wr.heap.size = gC at hct ⊢
          have HK : Hid (∀ w', Below W12.heap.size W12 w' → Below W12.heap.size W12 w' ∧ w'.cell? ⟨gC, 0, none⟩ = some (.int .i64 n) ∧ w'.cell? ⟨gC, 1, none⟩ = some (.int .i64 k) ∧ w'.cell? ⟨gC, 2, none⟩ = some (.int .u64 bits) ∧ w'.cell? ⟨gC, 3, none⟩ = some (.string (strB text)) ∧ w'.cell? ⟨gC, 4, none⟩ = some (.string (strB raw)) ∧ w'.cell? ⟨gb9, ob9 + m * 5, none⟩ = some (.int .i64 n) ∧ w'.cell? ⟨gb9, ob9 + m * 5 + 1, none⟩ = some (.int .i64 k) ∧ w'.cell? ⟨gb9, ob9 + m * 5 + 2, none⟩ = some (.int .u64 bits) ∧ w'.cell? ⟨gb9, ob9 + m * 5 + 3, none⟩ = some (.string (strB text)) ∧ w'.cell? ⟨gb9, ob9 + m * 5 + 4, none⟩ = some (.string (strB raw))) := fun w' hb =>
            ⟨hb, (hct.stays hb).cell 0 rfl, (hct.stays hb).cell 1 rfl, (hct.stays hb).cell 2 rfl, (hct.stays hb).cell 3 rfl, (hct.stays hb).cell 4 rfl, cell_below hb y0, cell_below hb y1, cell_below hb y2, cell_below hb y3, cell_below hb y4⟩
          have HQO : Hid (∀ w', Calls Tryd.prog 44 #[.agg #[.int .i64 n, .int .i64 k, .int .u64 bits, .string (strB text), .string (strB raw)]] w' fun e w'' => e = .returned (.agg #[.int .i64 n, .int .i64 k, .int .u64 bits, .string (strB text), .string (strB raw)]) ∧ Below w'.heap.size w' w'') := fun w' => rcOf_any n k bits (strB text) (strB raw) w'
          have hbd : Below W12.heap.size W12 W12.drew := (Below.refl _ _).drew
          have se1 := strB_eq text text
          rw [decide_eq_true rfl] at se1
          have se2 := strB_eq raw raw
          rw [decide_eq_true rfl] at se2
          have b0 : (n == n) = true := by simp
          have b1 : (k == k) = true := by simp
          have b2 : ((bits : Int) == bits) = true := by simp
          clear hct y0 y1 y2 y3 y4 d0 d1 d2 d3 d4 hq
          go_region_held3 (fun w' => Below W12.heap.size W12 w' ∧ w'.cell? ⟨gC, 0, none⟩ = some (.int .i64 n) ∧ w'.cell? ⟨gC, 1, none⟩ = some (.int .i64 k) ∧ w'.cell? ⟨gC, 2, none⟩ = some (.int .u64 bits) ∧ w'.cell? ⟨gC, 3, none⟩ = some (.string (strB text)) ∧ w'.cell? ⟨gC, 4, none⟩ = some (.string (strB raw)) ∧ w'.cell? ⟨gb9, ob9 + m * 5, none⟩ = some (.int .i64 n) ∧ w'.cell? ⟨gb9, ob9 + m * 5 + 1, none⟩ = some (.int .i64 k) ∧ w'.cell? ⟨gb9, ob9 + m * 5 + 2, none⟩ = some (.int .u64 bits) ∧ w'.cell? ⟨gb9, ob9 + m * 5 + 3, none⟩ = some (.string (strB text)) ∧ w'.cell? ⟨gb9, ob9 + m * 5 + 4, none⟩ = some (.string (strB raw)))
            (exact HK.out _ (by assumption))
            ((first
              | (go_at_call 44; (with_reducible refine (HQO.out _).mono ?_); rintro e wA ⟨rfl, hbA⟩; have hbB : Below W12.heap.size W12 wA := Below.trans (by assumption) (hbA.mono (Below.size (by assumption))))))
          all_goals have HBB := Lib.hid (hbe.trans (hbB.mono hbe.size))
          all_goals clear HK HQO hbd hbA hbB hbe
          all_goals go_wp2_with fail
          all_goals go_roundw
          all_goals first
            | exact ⟨m + 1, by omega, by go_num, HBB.out⟩
            | (simp only [intOf]; omega)
        · obtain rfl : L.length = m := by omega
          go_wp2_with fail
          go_ret
          exact ⟨rfl, HB9.out.trans ((HB10.out.trans (hbr.mono HB10.out.size)).mono HB9.out.size)⟩
end Go.Proofs.YtgehbabcpmkgaaaDoor
