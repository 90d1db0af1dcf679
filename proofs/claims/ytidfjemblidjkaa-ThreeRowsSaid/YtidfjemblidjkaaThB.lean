/- The walk of three.fellows. -/
import Derived.Test.YtidfjemblidjkaaThA
namespace Go.Proofs.Ytidfjemblidjkaa
open Go Go.RowKit
set_option linter.unusedVariables false
theorem fel_1 (ss : List Int) (p : Int) : fel (1 :: ss) p = p :: fel ss (p + 1) := by simp [fel]
theorem fel_2 (ss : List Int) (p : Int) : fel (2 :: ss) p = -1 :: fel ss p := by simp [fel]
theorem fel_3 (ss : List Int) (p : Int) : fel (3 :: ss) p = fel ss (p + 1) := by simp [fel]
theorem stepsOf_at' {rs : List Rn} {m : Nat} {r : Rn} (h : rs[m]? = some r) : stepsOf (rs.drop m) = List.replicate r.2.toNat r.1 ++ stepsOf (rs.drop (m + 1)) := by
  have hm := (List.getElem?_eq_some_iff.1 h).1
  rw [List.drop_eq_getElem_cons hm, stepsOf_cons]
  have := (List.getElem?_eq_some_iff.1 h).2
  rw [this]
set_option maxRecDepth 100000 in
set_option maxHeartbeats 8000000 in
theorem fellows_any (va vb : Value) (a b : List Int) (w : World) (hra : RowZ w va a) (hrb : RowZ w vb b) (hla : a.length ≤ 100) (hlb : b.length ≤ 100) :
    Calls Try.prog 41 #[va, vb] w fun e w' => ∃ v', e = .returned v' ∧ OwnL 3 IV w.heap.size w' v' (felV a b) ∧ Below w.heap.size w w' := by
  have HA := Lib.hid (align_any va vb a b w hra hrb (by omega) (by omega))
  have hdl := dist_le _ a b (Nat.le_refl _)
  have hgd := runsV_good (stepsV a b)
  have hsl := stepsV_len a b
  have he : stepsV a b = stepsT a b := by unfold stepsV; rw [if_neg (by omega)]
  have hk := (wayP_T _ a b (Nat.le_refl _)).2.2
  have hrt : rightB (alignV a b) = true := by unfold alignV; rw [he]; exact runsV_right hk
  have hgood : ∀ r ∈ alignV a b, (1 ≤ r.1 ∧ r.1 ≤ 3) ∧ 1 ≤ r.2 ∧ r.2 ≤ 200 := fun r h => by
    have h1 := List.all_eq_true.1 hrt r h
    unfold rightR at h1
    simp at h1
    have := hgd.1 r h
    omega
  have hst : stepsOf (alignV a b) = stepsV a b := stepsOf_runsV _
  have hrl : (alignV a b).length ≤ 200 := Nat.le_trans hgd.2 (by omega)
  obtain ⟨rs, hrs⟩ : ∃ rs, rs = alignV a b := ⟨_, rfl⟩
  rw [← hrs] at HA hgood hst hrl
  have HG := Lib.hid hgood
  have HF : Hid (fel (stepsOf rs) 0 = felV a b) := by show _ = _; rw [hst]; rfl
  clear hra hrb hdl hgd hsl he hk hrt hgood hst hrs
  go_enter Try.func41, Try.ntmps41
  go_wp2_with fail
  refine HA.out.mono ?_
  rintro e w1 ⟨v11, rfl, o11, hb1⟩
  obtain ⟨a0, c0, hv, -, hin⟩ := o11.row.shape rnC_len
  subst hv
  have HIN := Lib.hid hin
  have hs1 := hb1.size
  clear o11 hin
  go_wp2_with fail
  go_loopw [5, 6, 13] (fun x at' i wr => ∃ (m p : Nat) (L : List Int), m ≤ rs.length ∧ i = .int .i64 m ∧ at' = .int .i64 p ∧ p ≤ 200 * m ∧ L.length ≤ 200 * m ∧ OwnL 3 IV w1.heap.size wr x L ∧ Hid (L ++ fel (stepsOf (rs.drop m)) p = felV a b) ∧ Below w1.heap.size w1 wr) (fun _ _ i _ => rs.length - (intOf i).toNat)
  case atStart => exact ⟨0, 0, [], Nat.zero_le _, rfl, rfl, Nat.le_refl _, Nat.le_refl _, OwnL.nil _ _, by show _ = _; simpa using HF.out, Below.refl _ _⟩
  case round =>
    obtain ⟨m, p, L, hm, rfl, rfl, hpm, hLm, how, HL, hbe⟩ := hrel
    have hsz := hbe.size
    by_cases h1 : m < rs.length
    · obtain ⟨⟨k, c⟩, hq⟩ : ∃ r, rs[m]? = some r := ⟨_, List.getElem?_eq_getElem h1⟩
      have hgd := HG.out (k, c) (List.mem_of_getElem? hq)
      have hk1 : 1 ≤ k := hgd.1.1
      have hk2 : k ≤ 3 := hgd.1.2
      have hc1 : 1 ≤ c := hgd.2.1
      have hc2 : c ≤ 200 := hgd.2.2
      obtain ⟨C, rfl⟩ := Int.eq_ofNat_of_zero_le (by omega : 0 ≤ c)
      have HS : Hid (L ++ fel (List.replicate C k ++ stepsOf (rs.drop (m + 1))) p = felV a b) := by show _ = _; rw [← HL.out, stepsOf_at' hq]; rfl
      obtain ⟨gb, ob, rfl, hc⟩ := HIN.out m _ hq
      have d0 := cell_below hbe (hc 0 (.int .i64 k) rfl)
      have d1 := cell_below hbe (hc 1 (.int .i64 C) rfl)
      rw [Nat.add_zero] at d0
      rw [← Nat.add_assoc] at d1
      have hbW := hbe.alloc hbe.size (.cells #[.int .i64 k, .int .i64 C] 41)
      have how2 := how.alloc (.cells #[.int .i64 k, .int .i64 C] 41)
      have hcA := CellsAt.new wr #[.int .i64 k, .int .i64 C] 41
      have hax : u5.ownBlock ≠ some wr.heap.size := fun h => by have := (how.lt _ h).2; omega
      clear hc hq hgd hbe how HL
      go_wp2_with fail
      obtain ⟨W, hW⟩ : ∃ W : World, W = wr.alloc (.cells #[.int .i64 k, .int .i64 C] 41) := ⟨_, rfl⟩
      obtain ⟨gs, hgs⟩ : ∃ gs, gs = wr.heap.size := ⟨_, rfl⟩
      rw [← hgs] at hcA hax ⊢
      rw [← hW] at hcA hbW how2 ⊢
      clear hW hgs d0 d1
      go_loopw [5, 6, 19] (fun x at' i wr => ∃ (n q : Nat) (L2 : List Int), n ≤ C ∧ i = .int .i64 n ∧ at' = .int .i64 q ∧ q ≤ 200 * m + n ∧ L2.length ≤ 200 * m + n ∧ OwnL 3 IV w1.heap.size wr x L2 ∧ Hid (L2 ++ fel (List.replicate (C - n) k ++ stepsOf (rs.drop (m + 1))) q = felV a b) ∧ CellsAt wr gs 41 #[.int .i64 k, .int .i64 C] ∧ x.ownBlock ≠ some gs ∧ Below w1.heap.size w1 wr) (fun _ _ i _ => C - (intOf i).toNat)
      case atStart => exact ⟨0, p, L, Nat.zero_le _, rfl, rfl, by omega, by omega, how2, by show _ = _; exact HS.out, hcA, hax, hbW⟩
      case round =>
        clear how2 hcA hax hbW HS hpm hLm
        obtain ⟨n, q, L2, hn, rfl, rfl, hqn, hLn, how, HL, hcA, hax, hbe⟩ := hrel
        have f0 := hcA.cell 0 (v := .int .i64 k) rfl
        have f1 := hcA.cell 1 (v := .int .i64 C) rfl
        have hsw : w1.heap.size ≤ wr.heap.size := hbe.size
        by_cases h2 : n < C
        · have HL2 : Hid (L2 ++ fel (k :: (List.replicate (C - (n + 1)) k ++ stepsOf (rs.drop (m + 1)))) q = felV a b) := by
            show _ = _; rw [← HL.out, show C - n = (C - (n + 1)) + 1 from by omega, List.replicate_succ, List.cons_append]
          have hq1 : (q : Int) ≤ 1000000 := by omega
          clear HL
          rcases (show k = 1 ∨ k = 2 ∨ k = 3 by omega) with rfl | rfl | rfl
          · have HL3 : Hid ((L2 ++ [(q : Int)]) ++ fel (List.replicate (C - (n + 1)) 1 ++ stepsOf (rs.drop (m + 1))) ((q + 1 : Nat) : Int) = felV a b) := by
              show _ = _; rw [← HL2.out, fel_1]; simp
            go_wp2_with (at_builtin; go_must (refine wpList_pushL IV_one Try.underlying22 infoZ rfl (by decide) how (q : Int) (by omega) hsw rfl _ _ rfl (by rfl) _ _ _ (by rfl) (by rfl) ?_))
            intro v2 w2 o2 g2 n2
            have hb12 := OwnL.below how hbe g2 hsw
            have hcA2 := hcA.grown g2 hax
            have hax2 : v2.ownBlock ≠ some gs := fun h => by
              rcases n2 _ h with h3 | h3
              · exact hax h3
              · have := hcA.lt; omega
            clear HL2 how hcA hax g2 n2 f0 f1
            go_wp2_with fail
            go_roundw
            case rel => exact ⟨n + 1, q + 1, _, by omega, by go_num, by go_num, by omega, by simp; omega, o2, HL3, hcA2, hax2, hb12⟩
            case measure => simp only [intOf]; omega
          · have HL3 : Hid ((L2 ++ [(-1 : Int)]) ++ fel (List.replicate (C - (n + 1)) 2 ++ stepsOf (rs.drop (m + 1))) q = felV a b) := by
              show _ = _; rw [← HL2.out, fel_2]; simp
            go_wp2_with (at_builtin; go_must (refine wpList_pushL IV_one Try.underlying22 infoZ rfl (by decide) how (-1) (by omega) hsw rfl _ _ rfl (by rfl) _ _ _ (by rfl) (by rfl) ?_))
            intro v2 w2 o2 g2 n2
            have hb12 := OwnL.below how hbe g2 hsw
            have hcA2 := hcA.grown g2 hax
            have hax2 : v2.ownBlock ≠ some gs := fun h => by
              rcases n2 _ h with h3 | h3
              · exact hax h3
              · have := hcA.lt; omega
            clear HL2 how hcA hax g2 n2 f0 f1
            go_wp2_with fail
            go_roundw
            case rel => exact ⟨n + 1, q, _, by omega, by go_num, rfl, by omega, by simp; omega, o2, HL3, hcA2, hax2, hb12⟩
            case measure => simp only [intOf]; omega
          · have HL3 : Hid (L2 ++ fel (List.replicate (C - (n + 1)) 3 ++ stepsOf (rs.drop (m + 1))) ((q + 1 : Nat) : Int) = felV a b) := by
              show _ = _; rw [← HL2.out, fel_3]; rfl
            clear HL2
            go_wp2_with fail
            go_roundw
            case rel => exact ⟨n + 1, q + 1, L2, by omega, by go_num, by go_num, by omega, by omega, how, HL3, hcA, hax, hbe⟩
            case measure => simp only [intOf]; omega
        · obtain rfl : n = C := by omega
          have HL2 : Hid (L2 ++ fel (stepsOf (rs.drop (m + 1))) q = felV a b) := by show _ = _; rw [← HL.out, Nat.sub_self]; rfl
          clear HL
          go_wp2_with fail
          go_roundw
          case rel => exact ⟨m + 1, q, L2, by omega, by go_num, rfl, by omega, by omega, how, HL2, hbe⟩
          case measure => simp only [intOf]; omega
    · obtain rfl : rs.length = m := by omega
      have HL2 : Hid (L = felV a b) := by
        show _ = _
        have := HL.out
        rw [List.drop_length] at this
        simpa [stepsOf, fel] using this
      go_wp2_with fail
      go_ret
      exact ⟨_, rfl, by rw [← HL2.out]; exact how.mono hs1, hb1.trans (hbe.mono hs1)⟩
end Go.Proofs.Ytidfjemblidjkaa
