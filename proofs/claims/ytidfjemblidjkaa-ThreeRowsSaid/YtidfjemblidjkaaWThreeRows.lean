/- The walk of ThreeRows: the chunks of all rows, and what comes of them. -/
import Derived.Test.YtidfjemblidjkaaThQ
import Derived.Test.YtidfjemblidjkaaWThreeSides
namespace Go.Proofs.Ytidfjemblidjkaa
open Go Go.RowKit
set_option linter.unusedVariables false
/-- what is wanted of chunks -/
def wantL (a b : List Int) (cs : List Ck) : List Int := cs.flatMap fun c => if c.k = 5 then [] else if c.k = 3 then seg b c.b0 c.b1 else seg a c.a0 c.a1
theorem wantL_next {a b : List Int} {cs : List Ck} {m : Nat} {c : Ck} (h : cs[m]? = some c) : wantL a b (cs.take (m + 1)) = wantL a b (cs.take m) ++ if c.k = 5 then [] else if c.k = 3 then seg b c.b0 c.b1 else seg a c.a0 c.a1 := by
  unfold wantL
  rw [List.take_add_one, h, List.flatMap_append]
  simp
theorem wantL_clear {a b : List Int} : ∀ {cs : List Ck}, clearB cs = true → wantL a b cs = mergeL a b cs
  | [], _ => rfl
  | c :: cs, h => by
    have h1 : c.k ≠ 5 := by have := List.all_eq_true.1 h c (by simp); simpa using this
    have h2 : clearB cs = true := List.all_eq_true.2 fun d hd => List.all_eq_true.1 h d (by simp [hd])
    show (if c.k = 5 then [] else if c.k = 3 then seg b c.b0 c.b1 else seg a c.a0 c.a1) ++ wantL a b cs = (if c.k = 3 then seg b c.b0 c.b1 else seg a c.a0 c.a1) ++ mergeL a b cs
    rw [wantL_clear h2, if_neg h1]
theorem wantL_len {a b : List Int} (ha : a.length ≤ 40) (hb : b.length ≤ 40) : ∀ cs : List Ck, (wantL a b cs).length ≤ 40 * cs.length
  | [] => by simp [wantL]
  | c :: cs => by
    have ih := wantL_len ha hb cs
    have h1 := seg_len_le a c.a0 c.a1
    have h2 := seg_len_le b c.b0 c.b1
    show ((if c.k = 5 then [] else if c.k = 3 then seg b c.b0 c.b1 else seg a c.a0 c.a1) ++ wantL a b cs).length ≤ _
    rw [List.length_append, List.length_cons]
    split
    · simp; omega
    · split <;> omega
set_option maxRecDepth 100000 in
set_option maxHeartbeats 4000000 in
theorem same27_any (va vb : Value) (cs : List Ck) (w : World) (hra : RowS ckC w va cs) (hrb : RowS ckC w vb cs) (hl : cs.length ≤ 1000) :
    Calls Try.prog 29 #[va, vb] w fun e w' => e = .returned (.bool true) ∧ Below w.heap.size w w' := by
  obtain ⟨aa, ca, rfl, -, hia⟩ := hra.shape ckC_len
  obtain ⟨ab, cb, rfl, -, hib⟩ := hrb.shape ckC_len
  have HIA := Lib.hid hia
  have HIB := Lib.hid hib
  clear hra hrb hia hib
  go_enter Try.func29, Try.ntmps29
  go_wp2_with fail
  go_loopw [14] (fun i wr => ∃ m : Nat, m ≤ cs.length ∧ i = .int .i64 m ∧ Below w.heap.size w wr) (fun i _ => cs.length - (intOf i).toNat)
  case atStart => exact ⟨0, Nat.zero_le _, rfl, Below.refl _ _⟩
  case round =>
    obtain ⟨m, hm, rfl, hbe⟩ := hrel
    by_cases h1 : m < cs.length
    · obtain ⟨⟨k, o0, o1, p0, p1, q0, q1⟩, hq⟩ : ∃ r, cs[m]? = some r := ⟨_, List.getElem?_eq_getElem h1⟩
      obtain ⟨gb, ob, rfl, hc⟩ := HIA.out m _ hq
      obtain ⟨gc, oc, rfl, hc'⟩ := HIB.out m _ hq
      have d0 := cell_below hbe (hc 0 (.int .i64 k) rfl)
      have d1 := cell_below hbe (hc 1 (.int .i64 o0) rfl)
      have d2 := cell_below hbe (hc 2 (.int .i64 o1) rfl)
      have d3 := cell_below hbe (hc 3 (.int .i64 p0) rfl)
      have d4 := cell_below hbe (hc 4 (.int .i64 p1) rfl)
      have d5 := cell_below hbe (hc 5 (.int .i64 q0) rfl)
      have d6 := cell_below hbe (hc 6 (.int .i64 q1) rfl)
      have hbA : Below wr.heap.size wr (wr.alloc (.cells #[.int .i64 k, .int .i64 o0, .int .i64 o1, .int .i64 p0, .int .i64 p1, .int .i64 q0, .int .i64 q1] 51)) := (Below.refl _ _).alloc (Nat.le_refl _) _
      have x0 := cell_below hbA (cell_below hbe (hc' 0 (.int .i64 k) rfl))
      have x1 := cell_below hbA (cell_below hbe (hc' 1 (.int .i64 o0) rfl))
      have x2 := cell_below hbA (cell_below hbe (hc' 2 (.int .i64 o1) rfl))
      have x3 := cell_below hbA (cell_below hbe (hc' 3 (.int .i64 p0) rfl))
      have x4 := cell_below hbA (cell_below hbe (hc' 4 (.int .i64 p1) rfl))
      have x5 := cell_below hbA (cell_below hbe (hc' 5 (.int .i64 q0) rfl))
      have x6 := cell_below hbA (cell_below hbe (hc' 6 (.int .i64 q1) rfl))
      rw [Nat.add_zero] at d0 x0
      rw [← Nat.add_assoc] at d1 d2 d3 d4 d5 d6 x1 x2 x3 x4 x5 x6
      have hbW := hbe.trans (hbA.mono hbe.size)
      have y1 := eqPair (wr.alloc (.cells #[.int .i64 k, .int .i64 o0, .int .i64 o1, .int .i64 p0, .int .i64 p1, .int .i64 q0, .int .i64 q1] 51)).drew o0 o1
      have y2 := eqPair (wr.alloc (.cells #[.int .i64 k, .int .i64 o0, .int .i64 o1, .int .i64 p0, .int .i64 p1, .int .i64 q0, .int .i64 q1] 51)).drew p0 p1
      have y3 := eqPair (wr.alloc (.cells #[.int .i64 k, .int .i64 o0, .int .i64 o1, .int .i64 p0, .int .i64 p1, .int .i64 q0, .int .i64 q1] 51)).drew q0 q1
      clear hc hc' hq hbe hbA
      go_wp2_with fail
      go_region
      all_goals go_wp2_with fail
      all_goals go_roundw
      case rel => exact ⟨m + 1, by omega, by go_num, hbW.drew⟩
      case measure => simp only [intOf]; omega
    · obtain rfl : cs.length = m := by omega
      go_wp2_with fail
      go_ret
      exact ⟨rfl, hbe⟩
set_option maxRecDepth 100000 in
set_option maxHeartbeats 16000000 in
theorem walkThreeRows (w : World) (vo : Value) (o : List Int) (hro : RowZ w vo o) (hxo : ∀ n ∈ o, -9223372036854775808 ≤ n ∧ n ≤ 9223372036854775807) (va : Value) (a : List Int) (hra : RowZ w va a) (hxa : ∀ n ∈ a, -9223372036854775808 ≤ n ∧ n ≤ 9223372036854775807) (vb : Value) (b : List Int) (hrb : RowZ w vb b) (hxb : ∀ n ∈ b, -9223372036854775808 ≤ n ∧ n ≤ 9223372036854775807) :
    Calls Try.prog 8 #[vo, va, vb] w fun e w' => e = .returned (.bool true) ∧ Below w.heap.size w w' := by
  clear hxo hxa hxb
  have HA := Lib.hid (alive27 w)
  obtain ⟨ao, co, rfl, hmo, -⟩ := hro.gen.shape
  obtain ⟨aa, ca, rfl, hma, -⟩ := hra.gen.shape
  obtain ⟨ab, cb, rfl, hmb, -⟩ := hrb.gen.shape
  unfold maxLen at hmo hma hmb
  have HRO : Hid (∀ w', Below w.heap.size w w' → RowZ w' _ o) := fun w' h => hro.stays h
  have HRA : Hid (∀ w', Below w.heap.size w w' → RowZ w' _ a) := fun w' h => hra.stays h
  have HRB : Hid (∀ w', Below w.heap.size w w' → RowZ w' _ b) := fun w' h => hrb.stays h
  have hca := hra.gen.cap
  have hcb := hrb.gen.cap
  clear hro hra hrb
  go_enter Try.func8, Try.ntmps8
  go_wp2_with fail
  refine HA.out.mono ?_
  rintro e w1 ⟨rfl, hb1⟩
  clear HA
  by_cases l1 : 40 < o.length
  · go_wp2_with fail
    go_ret
    exact ⟨rfl, hb1⟩
  · by_cases l2 : 40 < a.length
    · go_wp2_with fail
      go_ret
      exact ⟨rfl, hb1⟩
    · by_cases l3 : 40 < b.length
      · go_wp2_with fail
        go_ret
        exact ⟨rfl, hb1⟩
      · have hlo : o.length ≤ 40 := by omega
        have hla : a.length ≤ 40 := by omega
        have hlb : b.length ≤ 40 := by omega
        have hcov := cov_start (dist40 hlo hla) (dist40 hlo hlb)
        have hcl := cov_len hcov
        have hmem := cov_mem hcov
        replace hcl : (rowsC o a b).length + 0 + 0 + 0 ≤ o.length + a.length + b.length := hcl
        replace hmem : ∀ c ∈ rowsC o a b, (c.o0 ≤ c.o1 ∧ c.o1 ≤ o.length) ∧ (c.a0 ≤ c.a1 ∧ c.a1 ≤ a.length) ∧ (c.b0 ≤ c.b1 ∧ c.b1 ≤ b.length) ∧ 1 ≤ c.k ∧ c.k ≤ 5 := hmem
        have HQ := Lib.hid (rowsRef_any _ _ _ o a b w1 (HRO.out _ hb1) (HRA.out _ hb1) (HRB.out _ hb1) hlo hla hlb)
        obtain ⟨cs, hcs⟩ : ∃ cs, cs = rowsC o a b := ⟨_, rfl⟩
        rw [← hcs] at HQ hcl hmem
        have HCS := Lib.hid hcs
        have HM := Lib.hid hmem
        have hcl120 : cs.length ≤ 120 := by omega
        clear hcl hcs hmem hcov
        go_wp2_with fail
        refine HQ.out.mono ?_
        rintro e w2 ⟨v33, rfl, o33, hb2⟩
        have hbe2 := hb1.trans (hb2.mono hb1.size)
        have HRR : Hid (∀ w', Below w2.heap.size w2 w' → RowS ckC w' v33 cs) := fun w' h => (OwnS.row o33).stays h
        obtain ⟨aR, cR, hvR, -, hiR⟩ := (OwnS.row o33).shape ckC_len
        subst hvR
        have HIR := Lib.hid hiR
        have hm : OwnL 3 IV w2.heap.size (w2.alloc (.cells #[] 3)) (.slice (some ⟨w2.heap.size, 0, none⟩) 0 0) [] := OwnL.made w2
        have hbm : Below w2.heap.size w2 (w2.alloc (.cells #[] 3)) := (Below.refl _ _).alloc (Nat.le_refl _) _
        have hs2 := hbe2.size
        clear HQ o33 hiR hb1 hb2
        go_wp2_with fail
        generalize w2.alloc (.cells #[] 3) = wm at hm hbm ⊢
        generalize Value.slice (some ⟨w2.heap.size, 0, none⟩) 0 0 = vm at hm ⊢
        go_loopw [8, 9, 37] (fun vw vn i wr => ∃ m : Nat, m ≤ cs.length ∧ i = .int .i64 m ∧ vn = .int .i64 (badN (cs.take m) : Nat) ∧ OwnL 3 IV w2.heap.size wr vw (wantL a b (cs.take m)) ∧ Below w2.heap.size w2 wr) (fun _ _ i _ => cs.length - (intOf i).toNat)
        case atStart => exact ⟨0, Nat.zero_le _, rfl, rfl, hm, hbm⟩
        case round =>
          clear hm hbm
          obtain ⟨m, hm, rfl, rfl, how, hbe⟩ := hrel
          by_cases h1 : m < cs.length
          · obtain ⟨⟨k, o0, o1, p0, p1, q0, q1⟩, hq⟩ : ∃ r, cs[m]? = some r := ⟨_, List.getElem?_eq_getElem h1⟩
            have hmm := HM.out _ (List.mem_of_getElem? hq)
            have hp1 : p0 ≤ p1 := hmm.2.1.1
            have hp2 : p1 ≤ a.length := hmm.2.1.2
            have hq1 : q0 ≤ q1 := hmm.2.2.1.1
            have hq2 : q1 ≤ b.length := hmm.2.2.1.2
            have HN := Lib.hid (wantL_next (a := a) (b := b) hq)
            have HBN := Lib.hid (badN_next hq)
            have hle := badN_le (cs.take m)
            have hlen := wantL_len hla hlb (cs.take m)
            rw [List.length_take] at hle hlen
            have hlen2 : (wantL a b (cs.take m)).length ≤ 5000 := by omega
            have HLEN := Lib.hid hlen2
            obtain ⟨N, hN⟩ : ∃ N, N = badN (cs.take m) := ⟨_, rfl⟩
            rw [← hN] at hle HBN ⊢
            have hN9 : N ≤ 1000 := by omega
            obtain ⟨gb, ob, rfl, hc⟩ := HIR.out m _ hq
            have d0 := cell_below hbe (hc 0 (.int .i64 k) rfl)
            have d1 := cell_below hbe (hc 1 (.int .i64 o0) rfl)
            have d2 := cell_below hbe (hc 2 (.int .i64 o1) rfl)
            have d3 := cell_below hbe (hc 3 (.int .i64 p0) rfl)
            have d4 := cell_below hbe (hc 4 (.int .i64 p1) rfl)
            have d5 := cell_below hbe (hc 5 (.int .i64 q0) rfl)
            have d6 := cell_below hbe (hc 6 (.int .i64 q1) rfl)
            rw [Nat.add_zero] at d0
            rw [← Nat.add_assoc] at d1 d2 d3 d4 d5 d6
            have hbW := hbe.alloc hbe.size (.cells #[.int .i64 k, .int .i64 o0, .int .i64 o1, .int .i64 p0, .int .i64 p1, .int .i64 q0, .int .i64 q1] 55)
            have how2 := how.alloc (.cells #[.int .i64 k, .int .i64 o0, .int .i64 o1, .int .i64 p0, .int .i64 p1, .int .i64 q0, .int .i64 q1] 55)
            have hbW1 := hbe2.trans (hbW.mono hs2)
            have hsW : w2.heap.size ≤ (wr.alloc (.cells #[.int .i64 k, .int .i64 o0, .int .i64 o1, .int .i64 p0, .int .i64 p1, .int .i64 q0, .int .i64 q1] 55)).heap.size := hbW.size
            clear hc hq hmm hbe how hle hlen hlen2 hN
            by_cases k5 : k = 5
            · subst k5
              have HN5 := Lib.hid (HN.out.trans (by rw [if_pos rfl, List.append_nil]))
              have HB5 := Lib.hid (HBN.out.trans (by rw [if_pos rfl]))
              clear HN HBN
              go_wp2_with fail
              go_roundw
              case rel => exact ⟨m + 1, by omega, by go_num, by rw [HB5.out]; go_num, by rw [HN5.out]; exact how2, hbW⟩
              case measure => simp only [intOf]; omega
            · have n5 : (k == 5) = false := by simpa using k5
              have HB5 := Lib.hid (HBN.out.trans (by rw [if_neg k5, Nat.add_zero]))
              have HN4 := Lib.hid (HN.out.trans (by rw [if_neg k5]))
              clear HN HBN k5
              by_cases k3 : k = 3
              · subst k3
                have HN3 := Lib.hid (HN4.out.trans (by rw [if_pos rfl]))
                have hpa := (HRB.out _ hbW1).gen.part (l := q0) (h := q1) hq1 hq2
                have hsl : (seg b q0 q1).length ≤ 40 := by have := seg_len_le b q0 q1; omega
                by_cases kc : cb = q0
                · subst kc
                  obtain rfl : cb = q1 := by omega
                  rw [if_pos rfl, Nat.sub_self] at hpa
                  have HSL := Lib.hid hsl
                  clear HN4 hsl
                  go_wp2_with (at_builtin; go_must (refine wpList_appendL IV_one Try.underlying22 infoZ0 rfl (by decide) how2 (ys := seg b cb cb) hpa (by have := HLEN.out; have := HSL.out; omega) hsW rfl _ _ rfl (by rfl) (by rfl) ?_))
                  intro v2 w9 o2 g2 n2 _
                  have hb2 := OwnL.below how2 hbW g2 hsW
                  clear g2 n2 how2 hpa
                  go_wp2_with fail
                  go_roundw
                  case rel => exact ⟨m + 1, by omega, by go_num, by rw [HB5.out], by rw [HN3.out]; exact o2, hb2⟩
                  case measure => simp only [intOf]; omega
                · rw [if_neg kc] at hpa
                  have HSL := Lib.hid hsl
                  clear HN4 hsl
                  go_wp2_with (at_builtin; go_must (refine wpList_appendL IV_one Try.underlying22 infoZ0 rfl (by decide) how2 (ys := seg b q0 q1) hpa (by have := HLEN.out; have := HSL.out; omega) hsW rfl _ _ rfl (by rfl) (by rfl) ?_))
                  intro v2 w9 o2 g2 n2 _
                  have hb2 := OwnL.below how2 hbW g2 hsW
                  clear g2 n2 how2 hpa
                  go_wp2_with fail
                  go_roundw
                  case rel => exact ⟨m + 1, by omega, by go_num, by rw [HB5.out], by rw [HN3.out]; exact o2, hb2⟩
                  case measure => simp only [intOf]; omega
              · have n3 : (k == 3) = false := by simpa using k3
                have HN3 := Lib.hid (HN4.out.trans (by rw [if_neg k3]))
                have hpa := (HRA.out _ hbW1).gen.part (l := p0) (h := p1) hp1 hp2
                have hsl : (seg a p0 p1).length ≤ 40 := by have := seg_len_le a p0 p1; omega
                by_cases kc : ca = p0
                · subst kc
                  obtain rfl : ca = p1 := by omega
                  rw [if_pos rfl, Nat.sub_self] at hpa
                  have HSL := Lib.hid hsl
                  clear HN4 hsl k3
                  go_wp2_with (at_builtin; go_must (refine wpList_appendL IV_one Try.underlying22 infoZ0 rfl (by decide) how2 (ys := seg a ca ca) hpa (by have := HLEN.out; have := HSL.out; omega) hsW rfl _ _ rfl (by rfl) (by rfl) ?_))
                  intro v2 w9 o2 g2 n2 _
                  have hb2 := OwnL.below how2 hbW g2 hsW
                  clear g2 n2 how2 hpa
                  go_wp2_with fail
                  go_roundw
                  case rel => exact ⟨m + 1, by omega, by go_num, by rw [HB5.out], by rw [HN3.out]; exact o2, hb2⟩
                  case measure => simp only [intOf]; omega
                · rw [if_neg kc] at hpa
                  have HSL := Lib.hid hsl
                  clear HN4 hsl k3
                  go_wp2_with (at_builtin; go_must (refine wpList_appendL IV_one Try.underlying22 infoZ0 rfl (by decide) how2 (ys := seg a p0 p1) hpa (by have := HLEN.out; have := HSL.out; omega) hsW rfl _ _ rfl (by rfl) (by rfl) ?_))
                  intro v2 w9 o2 g2 n2 _
                  have hb2 := OwnL.below how2 hbW g2 hsW
                  clear g2 n2 how2 hpa
                  go_wp2_with fail
                  go_roundw
                  case rel => exact ⟨m + 1, by omega, by go_num, by rw [HB5.out], by rw [HN3.out]; exact o2, hb2⟩
                  case measure => simp only [intOf]; omega
          · obtain rfl : cs.length = m := by omega
            rw [List.take_length] at how ⊢
            have hbr := hbe2.trans (hbe.mono hs2)
            have hrr := HRR.out _ hbe
            have HW : Hid (∀ w', Below wr.heap.size wr w' → RowZ w' u8 (wantL a b cs)) := fun w' h => how.row.stays h
            have hwl := wantL_len hla hlb cs
            have hle := badN_le cs
            have hcb' := clear_bad cs
            have HRP := Lib.hid (rows_any _ _ _ o a b wr (HRO.out _ hbr) (HRA.out _ hbr) (HRB.out _ hbr) hlo hla hlb)
            rw [← HCS.out] at HRP
            obtain ⟨N, hN⟩ : ∃ N, N = badN cs := ⟨_, rfl⟩
            rw [← hN] at hle hcb' ⊢
            have hN9 : N ≤ 1000 := by omega
            have HR2 : Hid (∀ w', Below wr.heap.size wr w' → RowS ckC w' (.slice aR cs.length cR) cs) := fun w' h => hrr.stays h
            have hWL : (wantL a b cs).length ≤ 100000000 := by omega
            have HCB := Lib.hid hcb'
            have HNN := Lib.hid hN
            have HWL := Lib.hid hWL
            clear hrr how hbe hle hcb' hN hwl hWL h1 HIR HRR
            go_wp2_with fail
            refine HRP.out.mono ?_
            rintro e w5 ⟨v73, rfl, o73, hb5⟩
            have hbe5 := hbr.trans (hb5.mono hbr.size)
            have HME := Lib.hid (merge_any _ _ _ o a b w5 (HRO.out _ hbe5) (HRA.out _ hbe5) (HRB.out _ hbe5) hlo hla hlb)
            rw [← HCS.out] at HME
            have HO73 := Lib.hid (OwnS.row o73)
            clear HRP o73
            go_wp2_with fail
            refine HME.out.mono ?_
            intro e w6 hmp
            obtain ⟨v78, rfl, r78, hb6⟩ := hmp.out
            have hbe6 := hbe5.trans (hb6.mono hbe5.size)
            have hb56 := hb5.trans (hb6.mono hb5.size)
            have HSM := Lib.hid (same27_any _ _ cs w6 (RowS.stays HO73.out hb6) (HR2.out _ hb56) (by omega))
            have HO73 := Lib.hid (RowS.stays HO73.out hb6)
            have HR78 : Hid (∀ w', Below w6.heap.size w6 w' → RowZ w' v78 (outL a b cs)) := fun w' h => r78.stays h
            obtain ⟨a78, c78, hv78, -, -⟩ := r78.gen.shape
            subst hv78
            clear hmp HME r78 hb5 hb6
            go_wp2_with fail
            refine HSM.out.mono ?_
            rintro e w7 ⟨rfl, hb7⟩
            have hbe7 := hbe6.trans (hb7.mono hbe6.size)
            have hb67 := hb56.trans (hb7.mono hb56.size)
            have HCF := Lib.hid (conflicts_any v73 cs w7 (RowS.stays HO73.out hb7) (by omega))
            rw [← HNN.out] at HCF
            obtain ⟨C, hC⟩ : ∃ C, C = clearB cs := ⟨_, rfl⟩
            rw [← hC] at HCB ⊢
            have HC := Lib.hid hC
            clear HSM hC
            cases C with
            | true =>
              have hN0 : N = 0 := of_decide_eq_true HCB.out.symm
              subst hN0
              have HOW : Hid (outL a b cs = wantL a b cs) := by show _ = _; unfold outL; rw [if_pos HC.out.symm, wantL_clear HC.out.symm]
              have HOL := Lib.hid (congrArg List.length HOW.out)
              go_wp2_with fail
              refine HCF.out.mono ?_
              rintro e w8 ⟨rfl, hb8⟩
              have hbe8 := hbe7.trans (hb8.mono hbe7.size)
              have hb78 := hb7.trans (hb8.mono hb7.size)
              have hb68 := hb67.trans (hb8.mono hb67.size)
              have hr1 := HR78.out _ hb78
              rw [HOW.out] at hr1
              have HSI := sameZ_any _ _ _ _ w8 hr1 (HW.out _ hb68) HWL.out HWL.out
              rw [eqB_yes rfl] at HSI
              have HSI2 := Lib.hid HSI
              rw [HOW.out]
              clear HSI HCF hb7 hb8 hb78 hb68 hb67 hr1
              go_wp2_with fail
              refine HSI2.out.mono ?_
              rintro e w9 ⟨rfl, hb9⟩
              go_wp2_with fail
              go_ret
              exact ⟨rfl, hbe8.trans (hb9.mono hbe8.size)⟩
            | false =>
              have hN0 : ¬ N = 0 := of_decide_eq_false HCB.out.symm
              have eN : ((N : Int) == 0) = false := by simp; omega
              have eN' : (N == 0) = false := by simp; omega
              have HOW : Hid (outL a b cs = []) := by show _ = _; unfold outL; rw [if_neg (by rw [← HC.out]; decide)]
              rw [HOW.out]
              go_wp2_with fail
              refine HCF.out.mono ?_
              rintro e w8 ⟨rfl, hb8⟩
              go_wp2_with fail
              go_ret
              exact ⟨rfl, hbe7.trans (hb8.mono hbe7.size)⟩
end Go.Proofs.Ytidfjemblidjkaa
