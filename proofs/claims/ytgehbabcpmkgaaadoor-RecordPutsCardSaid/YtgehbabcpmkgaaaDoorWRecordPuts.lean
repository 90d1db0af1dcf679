/- The walk of RecordPuts: which records there are; they are parsed as they were. -/
import Derived.Test.YtgehbabcpmkgaaaDoorRcI
import Derived.Test.YtgehbabcpmkgaaaDoorRcO
namespace Go.Proofs.YtgehbabcpmkgaaaDoor
open Go Go.RowKit
set_option linter.unusedVariables false
theorem strB_data (t : ByteArray) : ∃ l, t = strB l := ⟨t.data.toList, by unfold strB; simp⟩
theorem rput_len (r : Rc) (hb : r.bits < 18446744073709551616) (hl : r.text.length ≤ 1000) (hk : r.k = 0 ∨ r.k = 1 ∨ r.k = 2 ∨ r.k = 5) (h2 : r.n ≤ 536870911) : (rput r).length ≤ 1100 := by
  have h1 := vput_len10 (tcode r.n r.k) (tcode_lt h2 (by omega))
  have h3 := vput_len10 r.bits hb
  have h4 := vput_len10 r.text.length (by omega)
  unfold rput rtail
  rw [List.length_append]
  split
  · rw [fput_len]; omega
  · split
    · rw [fput_len]; omega
    · split
      · rw [List.length_append]; omega
      · omega
set_option maxRecDepth 100000 in
set_option maxHeartbeats 8000000 in
theorem walkRecordPuts0 (w : World) (n : Int) (hn : -9223372036854775808 ≤ n ∧ n ≤ 9223372036854775807) (k : Int) (hk : -9223372036854775808 ≤ k ∧ k ≤ 9223372036854775807) (bits : Nat) (hb : bits < 18446744073709551616) (t r : ByteArray) (ea : Nat → Addr) (he : ErrsAll ea w) :
    Calls Tryd.prog 10 #[.agg #[.int .i64 n, .int .i64 k, .int .u64 bits, .string t, .string r]] w fun e w' => e = .returned (.bool true) ∧ Below w.heap.size w w' := by
  obtain ⟨text, rfl⟩ := strB_data t
  obtain ⟨raw, rfl⟩ := strB_data r
  have hb0 : Below w.heap.size w (w.alloc (.cells #[.int .i64 n, .int .i64 k, .int .u64 bits, .string (strB text), .string (strB raw)] 69)) := (Below.refl _ _).alloc (Nat.le_refl _) _
  have hct := CellsAt.new w #[.int .i64 n, .int .i64 k, .int .u64 bits, .string (strB text), .string (strB raw)] 69
  have HE : Hid (∀ w', Below w.heap.size w w' → ErrsAll ea w') := fun w' h => he.stays h
  have HA := Lib.hid (alive04 ea _ (HE.out _ hb0))
  have hbi : (bits : Int) ≤ 18446744073709551615 := by omega
  have hs1 := strB_size text
  have hs2 := strB_size raw
  have HBB := Lib.hid hb
  have HB0 := Lib.hid hb0
  have HCT := Lib.hid hct
  obtain ⟨hn1, hn2⟩ := hn
  obtain ⟨hk1, hk2⟩ := hk
  clear he hb0 hct hb
  go_enter Tryd.func10, Tryd.ntmps10
  go_wp2_with fail
  refine HA.out.mono ?_
  rintro e w1 ⟨rfl, hb1⟩
  have hc1 := HCT.out.stays hb1
  have hbe1 := HB0.out.trans (hb1.mono HB0.out.size)
  have c0 := hc1.cell 0 (v := .int .i64 n) rfl
  have c1 := hc1.cell 1 (v := .int .i64 k) rfl
  have c2 := hc1.cell 2 (v := .int .u64 bits) rfl
  have c3 := hc1.cell 3 (v := .string (strB text)) rfl
  have c4 := hc1.cell 4 (v := .string (strB raw)) rfl
  have HC1 := Lib.hid hc1
  clear HA HCT HB0 hb1 hc1
  by_cases l1 : 300 < text.length
  · go_wp2_with fail
    go_ret
    exact ⟨rfl, hbe1⟩
  · by_cases l2 : 300 < raw.length
    · go_wp2_with fail
      go_ret
      exact ⟨rfl, hbe1⟩
    · have HO : Hid (∀ W, Calls Tryd.prog 44 #[.agg #[.int .i64 n, .int .i64 k, .int .u64 bits, .string (strB text), .string (strB raw)]] W fun e w' => e = .returned (.agg #[.int .i64 n, .int .i64 k, .int .u64 bits, .string (strB text), .string (strB raw)]) ∧ Below W.heap.size W w') := fun W => rcOf_any n k bits (strB text) (strB raw) W
      have HCR : Hid (∀ W, Calls Tryd.prog 58 #[.agg #[.int .i64 n, .int .i64 k, .int .u64 bits, .string (strB text), .string (strB raw)]] W fun e w' => e = .returned (.int .i64 (rcheck ⟨n, k, bits, text, raw⟩)) ∧ Below W.heap.size W w') := fun W => rcCheckR_any n k bits text raw W hn1 hn2 hk1 hk2 HBB.out (by omega)
      have HCP : Hid (∀ W, Below w.heap.size w W → Calls Tryd.prog 60 #[.agg #[.int .i64 n, .int .i64 k, .int .u64 bits, .string (strB text), .string (strB raw)]] W fun e w' => e = .returned (EV ea (rcheck ⟨n, k, bits, text, raw⟩)) ∧ Below W.heap.size W w') := fun W h => rcCheck_any n k bits text raw W hn1 hn2 hk1 hk2 HBB.out (by omega) ea (HE.out W h).e1 (HE.out W h).e5 (HE.out W h).e6 (HE.out W h).e9 (HE.out W h).e12
      have HPP : Hid (∀ W, Below w.heap.size w W → Calls Tryd.prog 59 #[.agg #[.int .i64 n, .int .i64 k, .int .u64 bits, .string (strB text), .string (strB raw)]] W fun e w' => ∃ v', e = .returned (.tuple #[v', EV ea (rcheck ⟨n, k, bits, text, raw⟩)]) ∧ OwnB W.heap.size w' v' (if rcheck ⟨n, k, bits, text, raw⟩ = 0 then rput ⟨n, k, bits, text, raw⟩ else []) ∧ Below W.heap.size W w') := fun W h => rcPut_any n k bits text raw W hn1 hn2 hk1 hk2 HBB.out (by omega) ea (HE.out W h).e1 (HE.out W h).e5 (HE.out W h).e6 (HE.out W h).e9 (HE.out W h).e12
      have HPR : Hid (rcheck ⟨n, k, bits, text, raw⟩ = 0 → ∀ W, Calls Tryd.prog 61 #[.agg #[.int .i64 n, .int .i64 k, .int .u64 bits, .string (strB text), .string (strB raw)]] W fun e w' => ∃ v', e = .returned v' ∧ OwnB W.heap.size w' v' (rput ⟨n, k, bits, text, raw⟩) ∧ Below W.heap.size W w') := fun h W => rcPutR_any n k bits text raw W h HBB.out (by omega)
      have HRP : Hid (rcheck ⟨n, k, bits, text, raw⟩ = 0 → rparse (rput ⟨n, k, bits, text, raw⟩) = (⟨n, k, bits, text, rput ⟨n, k, bits, text, raw⟩⟩, (rput ⟨n, k, bits, text, raw⟩).length, 0) ∧ (rput ⟨n, k, bits, text, raw⟩).length ≤ 1100) := fun h => by
        have h1 := rparse_put ⟨n, k, bits, text, raw⟩ h HBB.out (by show text.length < _; omega) []
        rw [List.append_nil] at h1
        obtain ⟨h2, h3, h4⟩ := rcheck_zero h
        obtain ⟨h5, h6, h7⟩ := tcheck_zero h2
        exact ⟨h1, rput_len _ HBB.out (by show text.length ≤ _; omega) h7 h6⟩
      have hkk := rcheck_le ⟨n, k, bits, text, raw⟩
      generalize rput ⟨n, k, bits, text, raw⟩ = X at HPP HPR HRP
      generalize rcheck ⟨n, k, bits, text, raw⟩ = K at HCR HCP HPP HPR HRP hkk
      have HK19 := Lib.hid hkk
      have HBE1 := Lib.hid hbe1
      clear hkk hbe1
      go_wp2_with fail
      refine (HO.out _).mono ?_
      rintro e w2 ⟨rfl, hb2⟩
      go_wp2_with fail
      refine (HCR.out _).mono ?_
      rintro e w3 ⟨rfl, hb3⟩
      have hb13 := hb2.trans (hb3.mono hb2.size)
      have hc3 := HC1.out.stays hb13
      have hbe3 := HBE1.out.trans (hb13.mono HBE1.out.size)
      have HP3 := Lib.hid (HPP.out w3 hbe3)
      have c0 := hc3.cell 0 (v := .int .i64 n) rfl
      have c1 := hc3.cell 1 (v := .int .i64 k) rfl
      have c2 := hc3.cell 2 (v := .int .u64 bits) rfl
      have c3 := hc3.cell 3 (v := .string (strB text)) rfl
      have c4 := hc3.cell 4 (v := .string (strB raw)) rfl
      have HC3 := Lib.hid hc3
      have HBE3 := Lib.hid hbe3
      clear HC1 HBE1 HCR HPP hb2 hb3 hb13 hc3 hbe3
      go_wp2_with fail
      refine HP3.out.mono ?_
      rintro e w4 ⟨v4, rfl, ho4, hb4⟩
      have hc4 := HC3.out.stays hb4
      have hbe4 := HBE3.out.trans (hb4.mono HBE3.out.size)
      have HC4' := Lib.hid (HCP.out w4 hbe4)
      have c0 := hc4.cell 0 (v := .int .i64 n) rfl
      have c1 := hc4.cell 1 (v := .int .i64 k) rfl
      have c2 := hc4.cell 2 (v := .int .u64 bits) rfl
      have c3 := hc4.cell 3 (v := .string (strB text)) rfl
      have c4 := hc4.cell 4 (v := .string (strB raw)) rfl
      have HC4 := Lib.hid hc4
      have HBE4 := Lib.hid hbe4
      have HO4 := Lib.hid ho4
      clear HP3 HC3 HBE3 HCP hb4 hc4 hbe4 ho4
      go_wp2_with fail
      refine HC4'.out.mono ?_
      rintro e w5 ⟨rfl, hb5⟩
      have hbe5 := HBE4.out.trans (hb5.mono HBE4.out.size)
      have HN5 := Lib.hid (num_any ea K HK19.out w5 (HE.out _ hbe5))
      have HN6 := Lib.hid (fun w' (h : Below w5.heap.size w5 w') => num_any ea K HK19.out w' (HE.out _ (hbe5.trans (h.mono hbe5.size))))
      have bK : ((K : Int) == K) = true := by simp
      have bK' : ((K : Int) != K) = false := by simp
      have HB5 := Lib.hid hb5
      have HBE5 := Lib.hid hbe5
      clear HC4' hb5 hbe5
      go_wp2_with fail
      refine HN5.out.mono ?_
      rintro e w6 ⟨rfl, hb6⟩
      have HN6' := Lib.hid (HN6.out _ hb6)
      have HB6 := Lib.hid hb6
      clear HN5 HN6 hb6
      go_wp2_with fail
      refine HN6'.out.mono ?_
      rintro e w7 ⟨rfl, hb7⟩
      have hb47 := (HB5.out.trans (HB6.out.mono HB5.out.size))
      have hb47' := hb47.trans (hb7.mono hb47.size)
      have hbe7 := HBE4.out.trans (hb47'.mono HBE4.out.size)
      have hc7 := HC4.out.stays hb47'
      have ho7 := HO4.out.stays hb47'
      clear HN6' HB5 HB6 HBE5 hb7 hb47 HC4 HO4 HBE4 hb47'
      by_cases hK : K = 0
      · subst hK
        rw [if_pos rfl] at ho7
        obtain ⟨hrp, hXl⟩ := HRP.out rfl
        obtain ⟨a4, c4', rfl, -, -⟩ := ho7.row.gen.shape
        have hE7 := HE.out _ hbe7
        have hpp := rcParse_any ea _ X w7 ho7.row (by omega) hE7.e1 hE7.e2 hE7.e4 hE7.e5 hE7.e6 hE7.e12
        rw [hrp] at hpp
        have HP : Hid (Calls Tryd.prog 42 #[.slice a4 X.length c4'] w7 fun e w' => e = .returned (.tuple #[.agg #[.int .i64 n, .int .i64 k, .int .u64 bits, .string (strB text), .string (strB X)], .int .i64 X.length, .nilIface]) ∧ Below w7.heap.size w7 w') := hpp
        have HPR0 : Hid (∀ W, Calls Tryd.prog 61 #[.agg #[.int .i64 n, .int .i64 k, .int .u64 bits, .string (strB text), .string (strB raw)]] W fun e w' => ∃ v', e = .returned v' ∧ OwnB W.heap.size w' v' X ∧ Below W.heap.size W w') := HPR.out rfl
        have HO7 := Lib.hid ho7
        have HC7 := Lib.hid hc7
        have HBE7 := Lib.hid hbe7
        rw [EV_zero]
        clear hpp hrp hE7 ho7 hc7 hbe7 HRP HPR
        go_wp2_with fail
        refine HP.out.mono ?_
        rintro e w8 ⟨rfl, hb8⟩
        have hbA : Below w8.heap.size w8 (w8.alloc (.cells #[.int .i64 n, .int .i64 k, .int .u64 bits, .string (strB text), .string (strB X)] 69)) := (Below.refl _ _).alloc (Nat.le_refl _) _
        have hcB := CellsAt.new w8 #[.int .i64 n, .int .i64 k, .int .u64 bits, .string (strB text), .string (strB X)] 69
        have hcG := (HC7.out.stays hb8).stays hbA
        have ho8 := (HO7.out.stays hb8).stays hbA
        have hbe8 := (HBE7.out.trans (hb8.mono HBE7.out.size)).trans (hbA.mono (HBE7.out.trans (hb8.mono HBE7.out.size)).size)
        clear HP HO7 HC7 HBE7 hb8 hbA
        go_upto_region 12 with fail
        generalize w8.alloc (.cells #[.int .i64 n, .int .i64 k, .int .u64 bits, .string (strB text), .string (strB X)] 69) = W8 at hcB hcG ho8 hbe8 ⊢
        generalize w8.heap.size = gB at hcB ⊢
        generalize c4' = cX at ho8 ⊢
        have HK : Hid (∀ w', Below W8.heap.size W8 w' → Below W8.heap.size W8 w' ∧ w'.cell? ⟨w.heap.size, 0, none⟩ = some (.int .i64 n) ∧ w'.cell? ⟨w.heap.size, 1, none⟩ = some (.int .i64 k) ∧ w'.cell? ⟨w.heap.size, 2, none⟩ = some (.int .u64 bits) ∧ w'.cell? ⟨w.heap.size, 3, none⟩ = some (.string (strB text)) ∧ w'.cell? ⟨w.heap.size, 4, none⟩ = some (.string (strB raw)) ∧ w'.cell? ⟨gB, 0, none⟩ = some (.int .i64 n) ∧ w'.cell? ⟨gB, 1, none⟩ = some (.int .i64 k) ∧ w'.cell? ⟨gB, 2, none⟩ = some (.int .u64 bits) ∧ w'.cell? ⟨gB, 3, none⟩ = some (.string (strB text)) ∧ w'.cell? ⟨gB, 4, none⟩ = some (.string (strB X)) ∧ (convert 23 9 (.slice a4 X.length cX)).run Tryd.prog w' = .ok (.string (strB X)) w') := fun w' hb =>
          ⟨hb, (hcG.stays hb).cell 0 rfl, (hcG.stays hb).cell 1 rfl, (hcG.stays hb).cell 2 rfl, (hcG.stays hb).cell 3 rfl, (hcG.stays hb).cell 4 rfl, (hcB.stays hb).cell 0 rfl, (hcB.stays hb).cell 1 rfl, (hcB.stays hb).cell 2 rfl, (hcB.stays hb).cell 3 rfl, (hcB.stays hb).cell 4 rfl, convert_str (ho8.stays hb).row⟩
        have hbd : Below W8.heap.size W8 W8.drew := (Below.refl _ _).drew
        have se1 := strB_eq text text
        rw [decide_eq_true rfl] at se1
        have se2 := strB_eq X X
        rw [decide_eq_true rfl] at se2
        have b0 : (n == n) = true := by simp
        have b1 : (k == k) = true := by simp
        have b2 : ((bits : Int) == bits) = true := by simp
        have b3 : ((X.length : Int) == X.length) = true := by simp
        have HBE8 := Lib.hid hbe8
        clear hcB hcG ho8 hbe8 c0 c1 c2 c3 c4 bK bK' HE hs1 hs2
        go_region_held (fun w' => Below W8.heap.size W8 w' ∧ w'.cell? ⟨w.heap.size, 0, none⟩ = some (.int .i64 n) ∧ w'.cell? ⟨w.heap.size, 1, none⟩ = some (.int .i64 k) ∧ w'.cell? ⟨w.heap.size, 2, none⟩ = some (.int .u64 bits) ∧ w'.cell? ⟨w.heap.size, 3, none⟩ = some (.string (strB text)) ∧ w'.cell? ⟨w.heap.size, 4, none⟩ = some (.string (strB raw)) ∧ w'.cell? ⟨gB, 0, none⟩ = some (.int .i64 n) ∧ w'.cell? ⟨gB, 1, none⟩ = some (.int .i64 k) ∧ w'.cell? ⟨gB, 2, none⟩ = some (.int .u64 bits) ∧ w'.cell? ⟨gB, 3, none⟩ = some (.string (strB text)) ∧ w'.cell? ⟨gB, 4, none⟩ = some (.string (strB X)) ∧ (convert 23 9 (.slice a4 X.length cX)).run Tryd.prog w' = .ok (.string (strB X)) w')
          (exact HK.out _ (by assumption))
          ((first
            | (go_at_call 44; refine (HO.out _).mono ?_; rintro e wA ⟨rfl, hbA⟩; have hbB : Below W8.heap.size W8 wA := Below.trans (by assumption) (hbA.mono (Below.size (by assumption))))
            | (go_at_call 61; refine (HPR0.out _).mono ?_; rintro e wC ⟨vC, rfl, hoC, hbC⟩; have sC := convert_str hoC.row; have hbD : Below W8.heap.size W8 wC := Below.trans (by assumption) (hbC.mono (Below.size (by assumption))))))
        all_goals clear HK
        all_goals go_wp2_with fail
        all_goals go_ret
        all_goals exact ⟨rfl, HBE8.out.trans (hbD.mono HBE8.out.size)⟩
      · rw [if_neg hK] at ho7
        obtain ⟨a4, c4', rfl, -, -⟩ := ho7.row.gen.shape
        have bK0 : ((K : Int) != 0) = true := by simp; omega
        have bK1 : ((K : Int) == 0) = false := by simp; omega
        clear HRP HPR ho7 hc7
        go_wp2_with fail
        go_ret
        exact ⟨rfl, hbe7⟩
theorem walkRecordPuts (w : World) (x : Rc) (hx : rcGood x) (ea : Nat → Addr) (he : ErrsAll ea w) :
    Calls Tryd.prog 10 #[.agg (rcC x).toArray] w fun e w' => e = .returned (.bool true) ∧ Below w.heap.size w w' :=
  walkRecordPuts0 w x.n hx.1 x.k hx.2.1 x.bits hx.2.2 (strB x.text) (strB x.raw) ea he
end Go.Proofs.YtgehbabcpmkgaaaDoor
