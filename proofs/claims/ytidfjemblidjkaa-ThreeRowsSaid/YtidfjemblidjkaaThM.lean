/- The walk of three.Merge. -/
import Derived.Test.YtidfjemblidjkaaThE
import Derived.Test.YtidfjemblidjkaaThJ
namespace Go.Proofs.Ytidfjemblidjkaa
open Go Go.RowKit
set_option linter.unusedVariables false
/-- what a merge hands back -/
def MergePost (w : World) (a b : List Int) (cs : List Ck) (e : Ending) (w' : World) : Prop := ∃ v', e = .returned (.tuple #[v', .bool (clearB cs)]) ∧ (clearB cs = true → OwnL 3 IV w.heap.size w' v' (mergeL a b cs)) ∧ (clearB cs = false → v' = .slice none 0 0) ∧ Below w.heap.size w w'
theorem MergePost.yes {w w' : World} {a b : List Int} {cs : List Ck} {e : Ending} (v' : Value) (h : clearB cs = true) (h1 : e = .returned (.tuple #[v', .bool true])) (h2 : OwnL 3 IV w.heap.size w' v' (mergeL a b cs)) (h3 : Below w.heap.size w w') : MergePost w a b cs e w' := ⟨v', by rw [h]; exact h1, fun _ => h2, (fun h4 => by rw [h] at h4; cases h4), h3⟩
theorem MergePost.no {w w' : World} {a b : List Int} {cs : List Ck} {e : Ending} (h : clearB cs = false) (h1 : e = .returned (.tuple #[.slice none 0 0, .bool false])) (h3 : Below w.heap.size w w') : MergePost w a b cs e w' := ⟨.slice none 0 0, by rw [h]; exact h1, (fun h4 => by rw [h] at h4; cases h4), fun _ => rfl, h3⟩
theorem clearB_no {cs : List Ck} {c : Ck} (h : c ∈ cs) (hk : c.k = 5) : clearB cs = false := by
  unfold clearB
  rw [List.all_eq_false]
  exact ⟨c, h, by simp [hk]⟩
theorem seg_len_le (l : List Int) (i j : Nat) : (seg l i j).length ≤ l.length := by unfold seg; simp; omega
theorem MergePost.clear {w w' : World} {a b : List Int} {cs : List Ck} {e : Ending} (hc : clearB cs = true) (h : MergePost w a b cs e w') : ∃ v', e = .returned (.tuple #[v', .bool true]) ∧ OwnL 3 IV w.heap.size w' v' (mergeL a b cs) ∧ Below w.heap.size w w' := by
  obtain ⟨v', h1, h2, _, h3⟩ := h
  rw [hc] at h1
  exact ⟨v', h1, h2 hc, h3⟩
theorem MergePost.not {w w' : World} {a b : List Int} {cs : List Ck} {e : Ending} (hc : clearB cs = false) (h : MergePost w a b cs e w') : e = .returned (.tuple #[.slice none 0 0, .bool false]) ∧ Below w.heap.size w w' := by
  obtain ⟨v', h1, _, h2, h3⟩ := h
  rw [hc, h2 hc] at h1
  exact ⟨h1, h3⟩
theorem mergeL_len {a b : List Int} (ha : a.length ≤ 40) (hb : b.length ≤ 40) : ∀ cs : List Ck, (mergeL a b cs).length ≤ 40 * cs.length
  | [] => by simp [mergeL]
  | c :: cs => by
    have ih := mergeL_len ha hb cs
    have h1 := seg_len_le a c.a0 c.a1
    have h2 := seg_len_le b c.b0 c.b1
    show ((if c.k = 3 then seg b c.b0 c.b1 else seg a c.a0 c.a1) ++ mergeL a b cs).length ≤ _
    rw [List.length_append, List.length_cons]
    split <;> omega
theorem clear_next {cs : List Ck} {m : Nat} {c : Ck} (h : cs[m]? = some c) (hc : clearB (cs.take m) = true) (hk : c.k ≠ 5) : clearB (cs.take (m + 1)) = true := by
  rw [List.take_add_one, h]
  unfold clearB at hc ⊢
  rw [List.all_append, hc]
  simp [hk]
theorem mergeL_next {a b : List Int} {cs : List Ck} {m : Nat} {c : Ck} (h : cs[m]? = some c) : mergeL a b (cs.take (m + 1)) = mergeL a b (cs.take m) ++ if c.k = 3 then seg b c.b0 c.b1 else seg a c.a0 c.a1 := by
  rw [List.take_add_one, h, mergeL_append]
  simp [mergeL]
set_option maxRecDepth 100000 in
set_option maxHeartbeats 8000000 in
theorem merge_any (vo va vb : Value) (o a b : List Int) (w : World) (ho : RowZ w vo o) (ha : RowZ w va a) (hb : RowZ w vb b) (hlo : o.length ≤ 40) (hla : a.length ≤ 40) (hlb : b.length ≤ 40) :
    Calls Try.prog 28 #[vo, va, vb] w (MergePost w a b (rowsC o a b)) := by
  have hcov : Cov o a b (rowsC o a b) 0 0 0 0 := cov_start (by have := dist_le _ o a (Nat.le_refl _); omega) (by have := dist_le _ o b (Nat.le_refl _); omega)
  have hmem := cov_mem hcov
  have hcl := cov_len hcov
  have HRW := Lib.hid (rows_any vo va vb o a b w ho ha hb hlo hla hlb)
  obtain ⟨cs, hcs⟩ : ∃ cs, cs = rowsC o a b := ⟨_, rfl⟩
  rw [← hcs] at hmem hcl HRW ⊢
  have HM := Lib.hid hmem
  have HRA : Hid (∀ w', Below w.heap.size w w' → RowZ w' va a) := fun w' h => ha.stays h
  have HRB : Hid (∀ w', Below w.heap.size w w' → RowZ w' vb b) := fun w' h => hb.stays h
  obtain ⟨aa, ca, rfl, -, -⟩ := ha.gen.shape
  obtain ⟨ab, cb, rfl, -, -⟩ := hb.gen.shape
  have hca := ha.gen.cap
  have hcb := hb.gen.cap
  have hcs120 : cs.length ≤ 120 := by omega
  clear ho ha hb hcov hmem hcl hcs
  go_enter Try.func28, Try.ntmps28
  go_wp2_with fail
  refine HRW.out.mono ?_
  rintro e w1 ⟨v11, rfl, o11, hb1⟩
  obtain ⟨a0, c0, hv, -, hin⟩ := o11.row.shape ckC_len
  subst hv
  have HIN := Lib.hid hin
  have hs1 := hb1.size
  clear o11 hin HRW
  go_wp2_with fail
  go_loopw [8, 16] (fun x i wr => ∃ m : Nat, m ≤ cs.length ∧ i = .int .i64 m ∧ OwnL 3 IV w1.heap.size wr x (mergeL a b (cs.take m)) ∧ Hid (clearB (cs.take m) = true) ∧ Below w1.heap.size w1 wr) (fun _ i _ => cs.length - (intOf i).toNat)
  case atStart => exact ⟨0, Nat.zero_le _, rfl, OwnL.nil _ _, rfl, Below.refl _ _⟩
  case round =>
    obtain ⟨m, hm, rfl, how, HC, hbe⟩ := hrel
    have hsz := hbe.size
    by_cases h1 : m < cs.length
    · obtain ⟨⟨k, o0, o1, p0, p1, q0, q1⟩, hq⟩ : ∃ r, cs[m]? = some r := ⟨_, List.getElem?_eq_getElem h1⟩
      have hmm := HM.out _ (List.mem_of_getElem? hq)
      have hp1 : p0 ≤ p1 := hmm.2.1.1
      have hp2 : p1 ≤ a.length := hmm.2.1.2
      have hq1 : q0 ≤ q1 := hmm.2.2.1.1
      have hq2 : q1 ≤ b.length := hmm.2.2.1.2
      have hk1 : 1 ≤ k := hmm.2.2.2.1
      have hk2 : k ≤ 5 := hmm.2.2.2.2
      have HN := Lib.hid (mergeL_next (a := a) (b := b) hq)
      have HCN : Hid (k ≠ 5 → clearB (cs.take (m + 1)) = true) := clear_next hq HC.out
      have HNO : Hid (k = 5 → clearB cs = false) := fun h => clearB_no (List.mem_of_getElem? hq) h
      have hlen := mergeL_len hla hlb (cs.take m)
      rw [List.length_take] at hlen
      have hlen2 : (mergeL a b (cs.take m)).length ≤ 5000 := by omega
      have HLEN := Lib.hid hlen2
      obtain ⟨gb, ob, rfl, hc⟩ := HIN.out m _ hq
      have d0 := cell_below hbe (hc 0 (.int .i64 k) rfl)
      have d1 := cell_below hbe (hc 1 (.int .i64 o0) rfl)
      have d2 := cell_below hbe (hc 2 (.int .i64 o1) rfl)
      have d3 := cell_below hbe (hc 3 (.int .i64 p0) rfl)
      have d4 := cell_below hbe (hc 4 (.int .i64 p1) rfl)
      have d5 := cell_below hbe (hc 5 (.int .i64 q0) rfl)
      have d6 := cell_below hbe (hc 6 (.int .i64 q1) rfl)
      rw [Nat.add_zero] at d0
      rw [← Nat.add_assoc] at d1 d2 d3 d4 d5 d6
      have hbW := hbe.alloc hbe.size (.cells #[.int .i64 k, .int .i64 o0, .int .i64 o1, .int .i64 p0, .int .i64 p1, .int .i64 q0, .int .i64 q1] 51)
      have how2 := how.alloc (.cells #[.int .i64 k, .int .i64 o0, .int .i64 o1, .int .i64 p0, .int .i64 p1, .int .i64 q0, .int .i64 q1] 51)
      have hbW1 := hb1.trans (hbW.mono hs1)
      clear hc hq hmm hbe how hlen hlen2
      by_cases k5 : k = 5
      · have HNO2 := Lib.hid (HNO.out k5)
        subst k5
        go_wp2_with fail
        go_ret2
        exact MergePost.no HNO2.out rfl hbW1
      · have n5 : (k == 5) = false := by simpa using k5
        have HCN2 := Lib.hid (HCN.out k5)
        have hsW : w1.heap.size ≤ (wr.alloc (.cells #[.int .i64 k, .int .i64 o0, .int .i64 o1, .int .i64 p0, .int .i64 p1, .int .i64 q0, .int .i64 q1] 51)).heap.size := hbW.size
        clear HNO HCN k5
        by_cases k3 : k = 3
        · subst k3
          have HN3 := Lib.hid (HN.out.trans (by rw [if_pos rfl]))
          have hpa := (HRB.out _ hbW1).gen.part (l := q0) (h := q1) hq1 hq2
          have hsl : (seg b q0 q1).length ≤ 40 := by have := seg_len_le b q0 q1; omega
          by_cases kc : cb = q0
          · subst kc
            obtain rfl : cb = q1 := by omega
            rw [if_pos rfl, Nat.sub_self] at hpa
            have HSL := Lib.hid hsl
            clear HN hsl
            go_wp2_with (at_builtin; go_must (refine wpList_appendL IV_one Try.underlying22 infoZ0 rfl (by decide) how2 (ys := seg b cb cb) hpa (by have := HLEN.out; have := HSL.out; omega) hsW rfl _ _ rfl (by rfl) (by rfl) ?_))
            intro v2 w2 o2 g2 n2 _
            have hb2 := OwnL.below how2 hbW g2 hsW
            clear g2 n2 how2 hpa
            go_wp2_with fail
            go_roundw
            case rel => exact ⟨m + 1, by omega, by go_num, by rw [HN3.out]; exact o2, HCN2, hb2⟩
            case measure => simp only [intOf]; omega
          · rw [if_neg kc] at hpa
            have HSL := Lib.hid hsl
            clear HN hsl
            go_wp2_with (at_builtin; go_must (refine wpList_appendL IV_one Try.underlying22 infoZ0 rfl (by decide) how2 (ys := seg b q0 q1) hpa (by have := HLEN.out; have := HSL.out; omega) hsW rfl _ _ rfl (by rfl) (by rfl) ?_))
            intro v2 w2 o2 g2 n2 _
            have hb2 := OwnL.below how2 hbW g2 hsW
            clear g2 n2 how2 hpa
            go_wp2_with fail
            go_roundw
            case rel => exact ⟨m + 1, by omega, by go_num, by rw [HN3.out]; exact o2, HCN2, hb2⟩
            case measure => simp only [intOf]; omega
        · have n3 : (k == 3) = false := by simpa using k3
          have HN3 := Lib.hid (HN.out.trans (by rw [if_neg k3]))
          have hpa := (HRA.out _ hbW1).gen.part (l := p0) (h := p1) hp1 hp2
          have hsl : (seg a p0 p1).length ≤ 40 := by have := seg_len_le a p0 p1; omega
          by_cases kc : ca = p0
          · subst kc
            obtain rfl : ca = p1 := by omega
            rw [if_pos rfl, Nat.sub_self] at hpa
            have HSL := Lib.hid hsl
            clear HN hsl k3
            go_wp2_with (at_builtin; go_must (refine wpList_appendL IV_one Try.underlying22 infoZ0 rfl (by decide) how2 (ys := seg a ca ca) hpa (by have := HLEN.out; have := HSL.out; omega) hsW rfl _ _ rfl (by rfl) (by rfl) ?_))
            intro v2 w2 o2 g2 n2 _
            have hb2 := OwnL.below how2 hbW g2 hsW
            clear g2 n2 how2 hpa
            go_wp2_with fail
            go_roundw
            case rel => exact ⟨m + 1, by omega, by go_num, by rw [HN3.out]; exact o2, HCN2, hb2⟩
            case measure => simp only [intOf]; omega
          · rw [if_neg kc] at hpa
            have HSL := Lib.hid hsl
            clear HN hsl k3
            go_wp2_with (at_builtin; go_must (refine wpList_appendL IV_one Try.underlying22 infoZ0 rfl (by decide) how2 (ys := seg a p0 p1) hpa (by have := HLEN.out; have := HSL.out; omega) hsW rfl _ _ rfl (by rfl) (by rfl) ?_))
            intro v2 w2 o2 g2 n2 _
            have hb2 := OwnL.below how2 hbW g2 hsW
            clear g2 n2 how2 hpa
            go_wp2_with fail
            go_roundw
            case rel => exact ⟨m + 1, by omega, by go_num, by rw [HN3.out]; exact o2, HCN2, hb2⟩
            case measure => simp only [intOf]; omega
    · obtain rfl : cs.length = m := by omega
      rw [List.take_length] at how HC
      have HC2 := Lib.hid HC.out
      go_wp2_with fail
      go_ret2
      exact MergePost.yes _ HC2.out rfl (how.mono hs1) (hb1.trans (hbe.mono hs1))
end Go.Proofs.Ytidfjemblidjkaa
