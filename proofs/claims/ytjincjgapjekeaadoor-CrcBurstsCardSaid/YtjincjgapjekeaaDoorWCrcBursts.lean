/- The walk of CrcBursts: turned bits within 32 bits in a row are told. -/
import Derived.Test.YtjincjgapjekeaaDoorAlive05
import Derived.Test.YtjincjgapjekeaaDoorBytes
import Derived.Test.YtjincjgapjekeaaDoorBurst
namespace Go.Proofs.YtjincjgapjekeaaDoor
open Go Go.RowKit
set_option linter.unusedVariables false
theorem OwnB.gen {B : Nat} {w : World} {v : Value} {bs : List UInt8} (h : OwnB B w v bs) : OwnL 5 BV B w v bs := h
theorem turn_val (y : UInt8) (r : Nat) : Value.int .u8 (bits .xor .u8 (y.toNat : Int) (2 ^ r % 256)) = BV (y ^^^ b8 (2 ^ r)) := by
  have h := u8_xor_nat y.toNat (2 ^ r % 256) y.toNat_lt (Nat.mod_lt _ (by decide))
  rw [BV_def, UInt8.toNat_xor, b8_toNat, ← h]
  have e : ((2 ^ r % 256 : Nat) : Int) = 2 ^ r % 256 := by rw [Int.natCast_emod, Int.natCast_pow]; rfl
  rw [e]
set_option maxRecDepth 100000 in
set_option maxHeartbeats 1000000 in
theorem walkBursts (w : World) (v : Value) (bs : List UInt8) (hr : RowB w v bs) (x : Int) (hx1 : -9223372036854775808 ≤ x) (hx2 : x ≤ 9223372036854775807) (m : Nat) (hm : m < 4294967296) (ea : Nat → Addr) (he : ErrsAll ea w) :
    Calls Tryd.prog 10 #[v, .int .i64 x, .int .u32 m] w fun e w' => e = .returned (.bool true) ∧ Below w.heap.size w w' := by
  obtain ⟨a, c, rfl, -, -⟩ := hr.gen.shape
  have HA := Lib.hid (alive05 ea w he.e1 he.e2 he.e18)
  have HE : Hid (∀ w', Below w.heap.size w w' → ErrsAll ea w') := fun w' hb => he.stays hb
  have HROW : Hid (∀ w', Below w.heap.size w w' → RowB w' (.slice a bs.length c) bs) := fun w' hb => hr.stays hb
  have hmi : (m : Int) ≤ 4294967295 := by omega
  have HM := Lib.hid hm
  clear he hr hm
  go_enter Tryd.func10, Tryd.ntmps10
  go_wp2_with fail
  refine HA.out.mono ?_
  rintro e w1 ⟨rfl, hb1⟩
  clear HA
  by_cases hl : 300 < bs.length
  · go_wp2_with fail
    all_goals go_ret
    all_goals exact ⟨rfl, hb1⟩
  · by_cases hm0 : m = 0
    · subst hm0
      go_wp2_with fail
      go_ret
      exact ⟨rfl, hb1⟩
    · have bm : ((m : Int) == 0) = false := by simp; omega
      have HS := Lib.hid (seal_any _ bs w1 (HROW.out _ hb1) (by omega))
      have HM0 := Lib.hid hm0
      clear hm0
      go_wp2_with fail
      refine HS.out.mono ?_
      rintro e w2 ⟨v7, rfl, ho2, hb2⟩
      have hbe2 := hb1.trans (hb2.mono hb1.size)
      have hSl := sealed_len bs
      have HSK := Lib.hid (openK_sealed bs)
      have hB2 := hb1.size
      obtain ⟨S, hS⟩ : ∃ S, S = sealed bs := ⟨_, rfl⟩
      rw [← hS] at ho2 hSl HSK
      clear HS hb1 hb2 hS
      obtain ⟨g, c7, rfl, hBg, -⟩ := ho2.gen.block (fun e => by rw [e] at hSl; simp at hSl)
      have hL4 : 4 ≤ S.length := by omega
      have hL3 : S.length ≤ 304 := by omega
      have HO := Lib.hid ho2
      obtain ⟨A, hA, hAl⟩ : ∃ A : Nat, IntKind.u64.wrap x = (A : Int) ∧ A ≤ 18446744073709551615 := ⟨(IntKind.u64.wrap x).toNat, by rw [IntKind.wrap_u64]; omega, by rw [IntKind.wrap_u64]; omega⟩
      obtain ⟨k, hk, hkl⟩ : ∃ k : Nat, (A : Int).tmod (8 * (S.length : Int) - 31) = (k : Int) ∧ k + 32 ≤ 8 * S.length := by
        refine ⟨((A : Int) % (8 * (S.length : Int) - 31)).toNat, ?_, ?_⟩
        · rw [Int.tmod_eq_emod_of_nonneg (by omega)]
          have := Int.emod_nonneg (A : Int) (b := 8 * (S.length : Int) - 31) (by omega)
          omega
        · have h1 := Int.emod_lt_of_pos (A : Int) (b := 8 * (S.length : Int) - 31) (by omega)
          have h2 := Int.emod_nonneg (A : Int) (b := 8 * (S.length : Int) - 31) (by omega)
          omega
      clear ho2 hSl
      go_wp2_with fail
      clear hA hk
      go_loopw [9] (fun i wr => ∃ (j : Nat) (T : List UInt8), j ≤ 32 ∧ i = .int .i64 j ∧ Turned S T m k j ∧ OwnL 5 BV w.heap.size wr (.slice (some ⟨g, 0, none⟩) S.length c7) T ∧ Below w.heap.size w wr) (fun i _ => 32 - (intOf i).toNat)
      case atStart => exact ⟨0, S, by omega, rfl, Turned.start S m k, HO.out.mono hB2, hbe2⟩
      case round =>
        obtain ⟨j, T, hj, rfl, hT, how, hbe⟩ := hrel
        by_cases hlt : j < 32
        · obtain ⟨P, hP⟩ : ∃ P, P = m / 2 ^ j := ⟨_, rfl⟩
          have hq1 : (m : Int) / 2 ^ j = (P : Int) := by rw [hP, Int.natCast_ediv, Int.natCast_pow]; rfl
          have hql : P < 4294967296 := by rw [hP]; exact Nat.lt_of_le_of_lt (Nat.div_le_self _ _) HM.out
          obtain ⟨Q, hQ⟩ : ∃ Q, Q = P % 2 := ⟨_, rfl⟩
          have hq2 : bits .and .u32 (P : Int) 1 = (Q : Int) := by rw [hQ]; exact cstep_and P hql
          have hT1 := hT.1
          have hPi : (P : Int) ≤ 4294967295 := by omega
          have hQi : (Q : Int) ≤ 1 := by omega
          have HT := Lib.hid hT
          by_cases hbit : Q = 1
          · have hbt : ((Q : Int) == 1) = true := by simp; omega
            have HB : Hid (m / 2 ^ j % 2 = 1) := by show _ = _; rw [← hP, ← hQ]; exact hbit
            obtain ⟨D, hD⟩ : ∃ D, D = (k + j) / 8 := ⟨_, rfl⟩
            obtain ⟨r, hr⟩ : ∃ r, r = (k + j) % 8 := ⟨_, rfl⟩
            have hDi : ((k : Int) + j) / 8 = (D : Int) := by omega
            have hri : ((k : Int) + j) % 8 = (r : Int) := by omega
            have hDl : D < T.length := by omega
            have hDl2 : (D : Int) < S.length := by omega
            have hr8 : (r : Int) ≤ 7 := by omega
            have hr8' : r < 8 := by omega
            obtain ⟨y, hy⟩ : ∃ y, T[D]? = some y := ⟨_, List.getElem?_eq_getElem hDl⟩
            obtain ⟨g', c', hv, _, _, _, hfz, hcell⟩ := how.block (fun e => by rw [e] at hDl; simp at hDl)
            rw [hT1] at hv
            cases hv
            have hcg := hcell D y hy
            have hfg := hfz D
            rw [BV_def] at hcg
            have hw : ∀ r : Nat, r < 8 → IntKind.u8.wrap ((1 : Int) * 2 ^ r) = ((2 ^ r : Nat) : Int) ∧ 2 ^ r < 256 := by decide +kernel
            obtain ⟨hw1, hw2⟩ := hw r hr8'
            have hTn := Lib.hid (hT.turn HB.out (by rw [← hD]; exact hy))
            have HOW := Lib.hid how
            have HD := Lib.hid hD
            have HR := Lib.hid hr
            clear hw hP hQ hbit hT hD hr hfz hcell how hy hql hT1
            go_wp2_with fail
            go_region
            all_goals
              clear hcg hfg hw1
              go_wp2_with fail
              go_roundw
              case rel =>
                refine ⟨j + 1, T.set D (y ^^^ b8 (2 ^ r)), by omega, by go_num, ?_, ?_, (hbe.setCell (Nat.le_trans hB2 hBg) _).drew⟩
                · have := hTn.out
                  rw [← HD.out, ← HR.out] at this
                  exact this
                · have := HOW.out.set D (y ^^^ b8 (2 ^ r))
                  rw [← turn_val] at this
                  exact this
              case measure => simp [intOf]; omega
          · have hbt : ((Q : Int) == 1) = false := by simp; omega
            have HB : Hid (¬ m / 2 ^ j % 2 = 1) := by show ¬ _; rw [← hP, ← hQ]; exact hbit
            clear hP hQ hbit hT hT1 hql
            go_wp2_with fail
            go_roundw
            case rel => exact ⟨j + 1, T, by omega, by go_num, HT.out.leave HB.out, how, hbe⟩
            case measure => simp [intOf]; omega
        · obtain rfl : j = 32 := by omega
          have hK := hT.wrong (by have := HM0.out; omega) HM.out HSK.out hkl
          have hT1 := hT.1
          have hr2 : RowB wr (.slice (some ⟨g, 0, none⟩) S.length c7) T := how.row
          have HO1 := open_any ea _ T wr hr2 (by omega) (HE.out _ hbe).e1 (HE.out _ hbe).e2 (HE.out _ hbe).e18
          rw [hK] at HO1
          have HO1 := Lib.hid HO1
          have HRow : Hid (∀ w', Below wr.heap.size wr w' → RowB w' (.slice (some ⟨g, 0, none⟩) S.length c7) T) := fun w' hb => RowB.stays hr2 hb
          have HTl : Hid (T.length ≤ 1000000) := by show _ ≤ _; omega
          have HK := Lib.hid hK
          clear hT hK hr2 how hT1
          go_wp2_with fail
          refine HO1.out.mono ?_
          rintro e w3 ⟨v3, rfl, ho3, hb3⟩
          have hbe3 := hbe.trans (hb3.mono hbe.size)
          have HN := Lib.hid (num_any ea 18 (by decide) w3 (HE.out _ hbe3))
          obtain ⟨a3, c3, rfl, -, -⟩ := ho3.row.gen.shape
          clear HO1 ho3
          go_wp2_with fail
          refine HN.out.mono ?_
          rintro e w4 ⟨rfl, hb4⟩
          have hbe4 := hbe3.trans (hb4.mono hbe3.size)
          have hb34 := hb3.trans (hb4.mono hb3.size)
          have hR := right_any ea _ T w4 (HRow.out _ hb34) HTl.out (HE.out _ hbe4).e1 (HE.out _ hbe4).e2 (HE.out _ hbe4).e18
          rw [HK.out, show ((18 : Nat) == 0) = false from rfl] at hR
          have HR := Lib.hid hR
          clear HN hR hb3 hb4 hb34 hbe3 hbe
          go_wp2_with fail
          refine HR.out.mono ?_
          rintro e w5 ⟨rfl, hb5⟩
          have hbe5 := hbe4.trans (hb5.mono hbe4.size)
          clear HR hb5 hbe4
          go_wp2_with fail
          go_ret
          exact ⟨rfl, hbe5⟩
theorem walkCrcBursts (w : World) (v : Value) (bs : List UInt8) (hr : RowB w v bs) (x : Int) (hx : -9223372036854775808 ≤ x ∧ x ≤ 9223372036854775807) (m0 : Int) (hm0 : 0 ≤ m0 ∧ m0 ≤ 4294967295) (ea : Nat → Addr) (he : ErrsAll ea w) :
    Calls Tryd.prog 10 #[v, .int .i64 x, .int .u32 m0] w fun e w' => e = .returned (.bool true) ∧ Below w.heap.size w w' := by
  obtain ⟨m, rfl⟩ := Int.eq_ofNat_of_zero_le hm0.1
  exact walkBursts w v bs hr x hx.1 hx.2 m (by omega) ea he
end Go.Proofs.YtjincjgapjekeaaDoor
