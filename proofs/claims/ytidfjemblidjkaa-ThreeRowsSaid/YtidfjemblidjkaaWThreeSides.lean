/- The walk of ThreeSides: with the sides changed the chunks are mirrored. -/
import Derived.Test.YtidfjemblidjkaaAlive27
import Derived.Test.YtidfjemblidjkaaThN
import Derived.Test.YtidfjemblidjkaaThK
namespace Go.Proofs.Ytidfjemblidjkaa
open Go Go.RowKit
set_option linter.unusedVariables false
theorem mirK_mirK (k : Int) : mirK (mirK k) = k := by
  unfold mirK
  by_cases h2 : k = 2
  · subst h2; decide
  · by_cases h3 : k = 3
    · subst h3; decide
    · rw [if_neg h2, if_neg h3, if_neg h2, if_neg h3]
theorem mirC_mirC (c : Ck) : mirC (mirC c) = c := by
  unfold mirC
  simp only [mirK_mirK]
section
variable {o a b : List Int} (hlo : o.length ≤ 40) (hla : a.length ≤ 40) (hlb : b.length ≤ 40)
theorem dist40 {u v : List Int} (hu : u.length ≤ 40) (hv : v.length ≤ 40) : dist u v ≤ 400 := by have := dist_le _ u v (Nat.le_refl _); omega
theorem rows_swap : rowsC o b a = (rowsC o a b).map mirC := chunks_swap
theorem rows_swap2 : (rowsC o b a).map mirC = rowsC o a b := by
  rw [rows_swap, List.map_map]
  conv => rhs; rw [← List.map_id (rowsC o a b)]
  exact List.map_congr_left fun c _ => mirC_mirC c
include hlo hla in
theorem rows_old : clearB (rowsC o a o) = true ∧ mergeL a o (rowsC o a o) = a := merge_old (dist40 hlo hla) (dist40 hlo hlo)
include hlo hla in
theorem rows_old2 : clearB (rowsC o o a) = true ∧ mergeL o a (rowsC o o a) = a := by
  obtain ⟨h1, h2⟩ := rows_old hlo hla
  have h3 : rowsC o o a = (rowsC o a o).map mirC := rows_swap
  have hk : ∀ c ∈ rowsC o a o, KindOk o a o c := chunks_of (dist40 hlo hla) (dist40 hlo hlo)
  rw [h3, clear_mirror, merge_mirror hk h1]
  exact ⟨h1, h2⟩
include hlo hla in
theorem rows_twin : clearB (rowsC o a a) = true ∧ mergeL a a (rowsC o a a) = a := merge_twin (dist40 hlo hla)
/-- what a merge hands back -/
def outL (a b : List Int) (cs : List Ck) : List Int := if clearB cs = true then mergeL a b cs else []
include hlo hla hlb in
theorem out_swap : clearB (rowsC o b a) = clearB (rowsC o a b) ∧ outL b a (rowsC o b a) = outL a b (rowsC o a b) := by
  have h1 : clearB (rowsC o b a) = clearB (rowsC o a b) := by rw [rows_swap, clear_mirror]
  refine ⟨h1, ?_⟩
  unfold outL
  rw [h1]
  by_cases h : clearB (rowsC o a b) = true
  · have hk : ∀ c ∈ rowsC o a b, KindOk o a b c := chunks_of (dist40 hlo hla) (dist40 hlo hlb)
    rw [if_pos h, if_pos h, rows_swap, merge_mirror hk h]
  · rw [if_neg h, if_neg h]
end
theorem MergePost.out {w w' : World} {a b : List Int} {cs : List Ck} {e : Ending} (h : MergePost w a b cs e w') : ∃ v', e = .returned (.tuple #[v', .bool (clearB cs)]) ∧ RowZ w' v' (outL a b cs) ∧ Below w.heap.size w w' := by
  obtain ⟨v', h1, h2, h3, h4⟩ := h
  refine ⟨v', h1, ?_, h4⟩
  unfold outL
  by_cases hc : clearB cs = true
  · rw [if_pos hc]; exact (h2 hc).row
  · rw [if_neg hc, h3 (by simpa using hc)]; exact RowL.nil _
theorem outL_of {a b l : List Int} {cs : List Ck} (h : clearB cs = true ∧ mergeL a b cs = l) : outL a b cs = l := by unfold outL; rw [if_pos h.1, h.2]
theorem outL_len {a b : List Int} {cs : List Ck} (ha : a.length ≤ 40) (hb : b.length ≤ 40) : (outL a b cs).length ≤ 40 * cs.length := by
  unfold outL
  split
  · exact mergeL_len ha hb cs
  · simp
set_option maxRecDepth 100000 in
set_option maxHeartbeats 16000000 in
theorem walkThreeSides (w : World) (vo : Value) (o : List Int) (hro : RowZ w vo o) (hxo : ∀ n ∈ o, -9223372036854775808 ≤ n ∧ n ≤ 9223372036854775807) (va : Value) (a : List Int) (hra : RowZ w va a) (hxa : ∀ n ∈ a, -9223372036854775808 ≤ n ∧ n ≤ 9223372036854775807) (vb : Value) (b : List Int) (hrb : RowZ w vb b) (hxb : ∀ n ∈ b, -9223372036854775808 ≤ n ∧ n ≤ 9223372036854775807) :
    Calls Try.prog 9 #[vo, va, vb] w fun e w' => e = .returned (.bool true) ∧ Below w.heap.size w w' := by
  clear hxo hxa hxb
  have HA := Lib.hid (alive27 w)
  obtain ⟨ao, co, rfl, hmo, -⟩ := hro.gen.shape
  obtain ⟨aa, ca, rfl, hma, -⟩ := hra.gen.shape
  obtain ⟨ab, cb, rfl, hmb, -⟩ := hrb.gen.shape
  unfold maxLen at hmo hma hmb
  have HRO : Hid (∀ w', Below w.heap.size w w' → RowZ w' _ o) := fun w' h => hro.stays h
  have HRA : Hid (∀ w', Below w.heap.size w w' → RowZ w' _ a) := fun w' h => hra.stays h
  have HRB : Hid (∀ w', Below w.heap.size w w' → RowZ w' _ b) := fun w' h => hrb.stays h
  clear hro hra hrb
  go_enter Try.func9, Try.ntmps9
  go_wp2_with fail
  refine HA.out.mono ?_
  rintro e w1 ⟨rfl, hb1⟩
  clear HA
  by_cases l1 : 40 < o.length
  · go_wp2_with fail
    go_ret
    exact ⟨rfl, hb1⟩
  · by_cases l2 : 40 < a.length
    · go_wp2_with fail
      go_ret
      exact ⟨rfl, hb1⟩
    · by_cases l3 : 40 < b.length
      · go_wp2_with fail
        go_ret
        exact ⟨rfl, hb1⟩
      · have hlo : o.length ≤ 40 := by omega
        have hla : a.length ≤ 40 := by omega
        have hlb : b.length ≤ 40 := by omega
        have hcl := cov_len (cov_start (dist40 hlo hla) (dist40 hlo hlb))
        replace hcl : (rowsC o a b).length + 0 + 0 + 0 ≤ o.length + a.length + b.length := hcl
        have HS2 := Lib.hid (rows_swap2 (o := o) (a := a) (b := b))
        have HSW := Lib.hid (out_swap hlo hla hlb)
        have HX := Lib.hid (rows_old hlo hla)
        have HY := Lib.hid (rows_old2 hlo hlb)
        have HZ := Lib.hid (rows_twin hlo hla)
        have hl2 : (rowsC o b a).length ≤ 1000 := by rw [rows_swap, List.length_map]; omega
        have HL2 := Lib.hid hl2
        have HR1 := Lib.hid (rows_any _ _ _ o a b w1 (HRO.out _ hb1) (HRA.out _ hb1) (HRB.out _ hb1) hlo hla hlb)
        have HOL := Lib.hid (outL_len (a := a) (b := b) (cs := rowsC o a b) hla hlb)
        obtain ⟨cs, hcs⟩ : ∃ cs, cs = rowsC o a b := ⟨_, rfl⟩
        rw [← hcs] at HR1 HS2 HSW hcl HOL
        have HCS := Lib.hid hcs
        have hcl120 : cs.length ≤ 120 := by omega
        clear hcl hcs hl2
        go_wp2_with fail
        refine HR1.out.mono ?_
        rintro e w2 ⟨v39, rfl, o39, hb2⟩
        have hbe2 := hb1.trans (hb2.mono hb1.size)
        have HR2 := Lib.hid (rows_any _ _ _ o b a w2 (HRO.out _ hbe2) (HRB.out _ hbe2) (HRA.out _ hbe2) hlo hlb hla)
        have HO39 := Lib.hid o39
        clear HR1 o39 hb1 hb2
        go_wp2_with fail
        refine HR2.out.mono ?_
        rintro e w3 ⟨v43, rfl, o43, hb3⟩
        have hbe3 := hbe2.trans (hb3.mono hbe2.size)
        have HMI := Lib.hid (mirror_any v43 _ w3 o43.row HL2.out)
        rw [HS2.out] at HMI
        have HO39 := Lib.hid (OwnS.stays HO39.out hb3)
        clear HR2 o43 hb3
        go_wp2_with fail
        refine HMI.out.mono ?_
        rintro e w4 ⟨v44, rfl, o44, hb4⟩
        have hbe4 := hbe3.trans (hb4.mono hbe3.size)
        have r39 := (OwnS.stays HO39.out hb4).row
        have r44 := OwnS.row o44
        obtain ⟨a1, c1, hv1, -, hi1⟩ := r39.shape ckC_len
        obtain ⟨a2, c2, hv2, -, hi2⟩ := r44.shape ckC_len
        subst hv1
        subst hv2
        have HI1 := Lib.hid hi1
        have HI2 := Lib.hid hi2
        clear HMI HO39 o44 r39 r44 hi1 hi2 hb4 hbe3 hbe2
        go_wp2_with fail
        go_loopw [52] (fun i wr => ∃ m : Nat, m ≤ cs.length ∧ i = .int .i64 m ∧ Below w4.heap.size w4 wr) (fun i _ => cs.length - (intOf i).toNat)
        case atStart => exact ⟨0, Nat.zero_le _, rfl, Below.refl _ _⟩
        case round =>
          obtain ⟨m, hm, rfl, hbe⟩ := hrel
          by_cases h1 : m < cs.length
          · obtain ⟨⟨k, o0, o1, p0, p1, q0, q1⟩, hq⟩ : ∃ r, cs[m]? = some r := ⟨_, List.getElem?_eq_getElem h1⟩
            obtain ⟨gb, ob, rfl, hc⟩ := HI1.out m _ hq
            obtain ⟨gc, oc, rfl, hc'⟩ := HI2.out m _ hq
            have d0 := cell_below hbe (hc 0 (.int .i64 k) rfl)
            have d1 := cell_below hbe (hc 1 (.int .i64 o0) rfl)
            have d2 := cell_below hbe (hc 2 (.int .i64 o1) rfl)
            have d3 := cell_below hbe (hc 3 (.int .i64 p0) rfl)
            have d4 := cell_below hbe (hc 4 (.int .i64 p1) rfl)
            have d5 := cell_below hbe (hc 5 (.int .i64 q0) rfl)
            have d6 := cell_below hbe (hc 6 (.int .i64 q1) rfl)
            have hbA : Below wr.heap.size wr (wr.alloc (.cells #[.int .i64 k, .int .i64 o0, .int .i64 o1, .int .i64 p0, .int .i64 p1, .int .i64 q0, .int .i64 q1] 51)) := (Below.refl _ _).alloc (Nat.le_refl _) _
            have x0 := cell_below hbA (cell_below hbe (hc' 0 (.int .i64 k) rfl))
            have x1 := cell_below hbA (cell_below hbe (hc' 1 (.int .i64 o0) rfl))
            have x2 := cell_below hbA (cell_below hbe (hc' 2 (.int .i64 o1) rfl))
            have x3 := cell_below hbA (cell_below hbe (hc' 3 (.int .i64 p0) rfl))
            have x4 := cell_below hbA (cell_below hbe (hc' 4 (.int .i64 p1) rfl))
            have x5 := cell_below hbA (cell_below hbe (hc' 5 (.int .i64 q0) rfl))
            have x6 := cell_below hbA (cell_below hbe (hc' 6 (.int .i64 q1) rfl))
            rw [Nat.add_zero] at d0 x0
            rw [← Nat.add_assoc] at d1 d2 d3 d4 d5 d6 x1 x2 x3 x4 x5 x6
            have hbW := hbe.trans (hbA.mono hbe.size)
            have y1 := eqPair (wr.alloc (.cells #[.int .i64 k, .int .i64 o0, .int .i64 o1, .int .i64 p0, .int .i64 p1, .int .i64 q0, .int .i64 q1] 51)).drew o0 o1
            have y2 := eqPair (wr.alloc (.cells #[.int .i64 k, .int .i64 o0, .int .i64 o1, .int .i64 p0, .int .i64 p1, .int .i64 q0, .int .i64 q1] 51)).drew p0 p1
            have y3 := eqPair (wr.alloc (.cells #[.int .i64 k, .int .i64 o0, .int .i64 o1, .int .i64 p0, .int .i64 p1, .int .i64 q0, .int .i64 q1] 51)).drew q0 q1
            clear hc hc' hq hbe hbA
            go_wp2_with fail
            go_region
            all_goals go_wp2_with fail
            all_goals go_roundw
            case rel => exact ⟨m + 1, by omega, by go_num, hbW.drew⟩
            case measure => simp only [intOf]; omega
          · obtain rfl : cs.length = m := by omega
            have hbr := hbe4.trans (hbe.mono hbe4.size)
            have HM1 := Lib.hid (merge_any _ _ _ o a o wr (HRO.out _ hbr) (HRA.out _ hbr) (HRO.out _ hbr) hlo hla hlo)
            clear hbe HI1 HI2
            go_wp2_with fail
            refine HM1.out.mono ?_
            intro e w5 hmp
            obtain ⟨v5, rfl, r5, hb5⟩ := hmp.out
            rw [HX.out.1]
            rw [outL_of HX.out] at r5
            have hbe5 := hbr.trans (hb5.mono hbr.size)
            have HM2 := Lib.hid (merge_any _ _ _ o o b w5 (HRO.out _ hbe5) (HRO.out _ hbe5) (HRB.out _ hbe5) hlo hlo hlb)
            have HF5 : Hid (∀ w', Below w5.heap.size w5 w' → RowZ w' v5 a) := fun w' h => r5.stays h
            clear hmp HM1 hb5 r5 hbr hbe4
            go_wp2_with fail
            refine HM2.out.mono ?_
            intro e w6 hmp
            obtain ⟨v6, rfl, r6, hb6⟩ := hmp.out
            rw [HY.out.1]
            rw [outL_of HY.out] at r6
            have hbe6 := hbe5.trans (hb6.mono hbe5.size)
            have HM3 := Lib.hid (merge_any _ _ _ o a a w6 (HRO.out _ hbe6) (HRA.out _ hbe6) (HRA.out _ hbe6) hlo hla hla)
            have HF5 : Hid (∀ w', Below w6.heap.size w6 w' → RowZ w' v5 a) := fun w' h => HF5.out w' (hb6.trans (h.mono hb6.size))
            have HF6 : Hid (∀ w', Below w6.heap.size w6 w' → RowZ w' v6 b) := fun w' h => r6.stays h
            clear hmp HM2 hb6 r6 hbe5
            go_wp2_with fail
            refine HM3.out.mono ?_
            intro e w7 hmp
            obtain ⟨v7, rfl, r7, hb7⟩ := hmp.out
            rw [HZ.out.1]
            rw [outL_of HZ.out] at r7
            have hbe7 := hbe6.trans (hb7.mono hbe6.size)
            have HM4 := Lib.hid (merge_any _ _ _ o a b w7 (HRO.out _ hbe7) (HRA.out _ hbe7) (HRB.out _ hbe7) hlo hla hlb)
            rw [← HCS.out] at HM4
            have HF5 : Hid (∀ w', Below w7.heap.size w7 w' → RowZ w' v5 a) := fun w' h => HF5.out w' (hb7.trans (h.mono hb7.size))
            have HF6 : Hid (∀ w', Below w7.heap.size w7 w' → RowZ w' v6 b) := fun w' h => HF6.out w' (hb7.trans (h.mono hb7.size))
            have HF7 : Hid (∀ w', Below w7.heap.size w7 w' → RowZ w' v7 a) := fun w' h => r7.stays h
            clear hmp HM3 hb7 r7 hbe6
            go_wp2_with fail
            refine HM4.out.mono ?_
            intro e w8 hmp
            obtain ⟨v8, rfl, r8, hb8⟩ := hmp.out
            have hbe8 := hbe7.trans (hb8.mono hbe7.size)
            have HM5 := Lib.hid (merge_any _ _ _ o b a w8 (HRO.out _ hbe8) (HRB.out _ hbe8) (HRA.out _ hbe8) hlo hlb hla)
            have HF5 : Hid (∀ w', Below w8.heap.size w8 w' → RowZ w' v5 a) := fun w' h => HF5.out w' (hb8.trans (h.mono hb8.size))
            have HF6 : Hid (∀ w', Below w8.heap.size w8 w' → RowZ w' v6 b) := fun w' h => HF6.out w' (hb8.trans (h.mono hb8.size))
            have HF7 : Hid (∀ w', Below w8.heap.size w8 w' → RowZ w' v7 a) := fun w' h => HF7.out w' (hb8.trans (h.mono hb8.size))
            have HF8 : Hid (∀ w', Below w8.heap.size w8 w' → RowZ w' v8 (outL a b cs)) := fun w' h => r8.stays h
            clear hmp HM4 hb8 r8 hbe7
            go_wp2_with fail
            refine HM5.out.mono ?_
            intro e w9 hmp
            obtain ⟨v9, rfl, r9, hb9⟩ := hmp.out
            rw [HSW.out.1]
            rw [HSW.out.2] at r9
            obtain ⟨C, hC⟩ : ∃ C, C = clearB cs := ⟨_, rfl⟩
            rw [← hC]
            have hbe9 := hbe8.trans (hb9.mono hbe8.size)
            have f5 := HF5.out w9 hb9
            have f6 := HF6.out w9 hb9
            have f7 := HF7.out w9 hb9
            have f8 := HF8.out w9 hb9
            have HF6 : Hid (∀ w', Below w9.heap.size w9 w' → RowZ w' v6 b) := fun w' h => f6.stays h
            have HF7 : Hid (∀ w', Below w9.heap.size w9 w' → RowZ w' v7 a) := fun w' h => f7.stays h
            have HF8 : Hid (∀ w', Below w9.heap.size w9 w' → RowZ w' v8 (outL a b cs)) := fun w' h => f8.stays h
            have HF9 : Hid (∀ w', Below w9.heap.size w9 w' → RowZ w' v9 (outL a b cs)) := fun w' h => r9.stays h
            have HN1 := Lib.hid (sameZ_any _ _ a a w9 f5 (HRA.out _ hbe9) (by omega) (by omega))
            rw [eqB_yes rfl] at HN1
            clear hmp HM5 hb9 r9 f5 f6 f7 f8 HF5 hbe8 hC
            go_wp2_with fail
            refine HN1.out.mono ?_
            rintro e w10 ⟨rfl, hb10⟩
            have hbe10 := hbe9.trans (hb10.mono hbe9.size)
            have HN2 := Lib.hid (sameZ_any _ _ b b w10 (HF6.out _ hb10) (HRB.out _ hbe10) (by omega) (by omega))
            rw [eqB_yes rfl] at HN2
            clear HN1
            go_wp2_with fail
            refine HN2.out.mono ?_
            rintro e w11 ⟨rfl, hb11⟩
            have hb911 := hb10.trans (hb11.mono hb10.size)
            have hbe11 := hbe9.trans (hb911.mono hbe9.size)
            have HN3 := Lib.hid (sameZ_any _ _ a a w11 (HF7.out _ hb911) (HRA.out _ hbe11) (by omega) (by omega))
            rw [eqB_yes rfl] at HN3
            clear HN2 hb10 hb11 hbe10
            go_wp2_with fail
            refine HN3.out.mono ?_
            rintro e w12 ⟨rfl, hb12⟩
            have hb912 := hb911.trans (hb12.mono hb911.size)
            have hbe12 := hbe9.trans (hb912.mono hbe9.size)
            have hol : (outL a b cs).length ≤ 100000000 := by have := HOL.out; omega
            have HN4 := Lib.hid (sameZ_any _ _ (outL a b cs) (outL a b cs) w12 (HF8.out _ hb912) (HF9.out _ hb912) hol hol)
            rw [eqB_yes rfl] at HN4
            clear HN3 hb911 hb12 hbe11 hol
            cases C with
            | true =>
              go_wp2_with fail
              refine HN4.out.mono ?_
              rintro e w13 ⟨rfl, hb13⟩
              go_wp2_with fail
              go_ret
              exact ⟨rfl, hbe12.trans (hb13.mono hbe12.size)⟩
            | false =>
              go_wp2_with fail
              refine HN4.out.mono ?_
              rintro e w13 ⟨rfl, hb13⟩
              go_wp2_with fail
              go_ret
              exact ⟨rfl, hbe12.trans (hb13.mono hbe12.size)⟩
end Go.Proofs.Ytidfjemblidjkaa
