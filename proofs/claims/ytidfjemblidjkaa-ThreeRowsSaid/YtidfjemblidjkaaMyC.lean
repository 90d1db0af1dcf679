/- The walks of myers' Common, and of the laws' same, alive. -/
import Derived.Test.YtidfjemblidjkaaMyN
namespace Go.Proofs.Ytidfjemblidjkaa
open Go Go.RowKit
set_option linter.unusedVariables false
/-- the sum of the counts of one kind -/
def sumK (k : Int) : List Rn → Int
  | [] => 0
  | r :: rs => (if r.1 = k then r.2 else 0) + sumK k rs
theorem sumK_append (k : Int) : ∀ rs qs : List Rn, sumK k (rs ++ qs) = sumK k rs + sumK k qs
  | [], qs => by simp [sumK]
  | r :: rs, qs => by rw [List.cons_append, sumK, sumK_append k rs qs, sumK]; omega
theorem sumK_addR (k k' c : Int) (rs : List Rn) : sumK k (addR rs k' c) = sumK k rs + if k' = k then c else 0 := by
  by_cases h0 : c = 0
  · subst h0; rw [addR_zero]; split <;> omega
  · rcases List.eq_nil_or_concat rs with rfl | ⟨L, r, rfl⟩
    · rw [addR_nil k' h0]; simp [sumK]
    · obtain ⟨k2, d⟩ := r
      rw [List.concat_eq_append]
      by_cases hk : k2 = k'
      · subst hk
        rw [addR_same h0, sumK_append, sumK_append]
        simp only [sumK]
        split <;> omega
      · rw [addR_other h0 hk, sumK_append]
        simp only [sumK]
        omega
/-- how many steps are of a kind -/
def cntS (k : Int) : List Int → Nat
  | [] => 0
  | s :: ss => (if s = k then 1 else 0) + cntS k ss
theorem cntS_append (k : Int) : ∀ ss ts : List Int, cntS k (ss ++ ts) = cntS k ss + cntS k ts
  | [], ts => by simp [cntS]
  | s :: ss, ts => by rw [List.cons_append, cntS, cntS_append k ss ts, cntS]; omega
theorem cntS_le (k : Int) : ∀ ss : List Int, cntS k ss ≤ ss.length
  | [] => by simp [cntS]
  | s :: ss => by have := cntS_le k ss; rw [cntS, List.length_cons]; split <;> omega
theorem sumK_runsV (k : Int) (ss : List Int) : sumK k (runsV ss) = cntS k ss := by
  refine snoc_ind (P := fun ss => sumK k (runsV ss) = cntS k ss) ?_ ?_ ss
  · rfl
  · intro ss s ih
    rw [runsV_snoc, sumK_addR, ih, cntS_append]
    simp only [cntS]
    split <;> omega
theorem stepsT_len : ∀ (n : Nat) (us bs : List Int), us.length + bs.length ≤ n → (stepsT us bs).length ≤ us.length + bs.length
  | _, [], bs, _ => by rw [stepsT_nil]; simp
  | _, x :: us, [], _ => by rw [stepsT_nil']; simp
  | 0, x :: us, y :: bs, h => by simp at h
  | n + 1, x :: us, y :: bs, h => by
    simp only [List.length_cons] at h
    by_cases e : x = y
    · subst e
      rw [stepsT_same]
      have := stepsT_len n us bs (by omega)
      simp; omega
    · by_cases h2 : dist us (y :: bs) ≤ dist (x :: us) bs
      · rw [stepsT_drop e h2]
        have := stepsT_len n us (y :: bs) (by simp; omega)
        simp at this ⊢; omega
      · rw [stepsT_put e h2]
        have := stepsT_len n (x :: us) bs (by simp; omega)
        simp at this ⊢; omega
theorem stepsF_len (a b : List Int) : (stepsF a b).length ≤ a.length + b.length := by
  have h1 := alike_le a b
  have h2 := alike_le (a.drop (alike a b)).reverse (b.drop (alike a b)).reverse
  unfold stepsF
  simp at *
  omega
theorem stepsV_len (a b : List Int) : (stepsV a b).length ≤ a.length + b.length := by
  unfold stepsV
  split
  · exact stepsF_len a b
  · exact stepsT_len _ a b (Nat.le_refl _)
/-- how many numbers are kept -/
def keptV (a b : List Int) : Nat := cntS 1 (stepsV a b)
theorem keptV_le (a b : List Int) : keptV a b ≤ a.length + b.length := Nat.le_trans (cntS_le _ _) (stepsV_len a b)
theorem sumK_take_le {n : Nat} {rs : List Rn} (h : GoodR n rs) (k : Int) (m : Nat) : 0 ≤ sumK k (rs.take m) ∧ sumK k (rs.take m) ≤ sumK k rs := by
  have hn : ∀ qs : List Rn, (∀ r ∈ qs, 1 ≤ r.2) → 0 ≤ sumK k qs := by
    intro qs
    induction qs with
    | nil => intro _; simp [sumK]
    | cons r qs ih =>
      intro hq
      have h1 := hq r (by simp)
      have h2 := ih (fun r hr => hq r (by simp [hr]))
      rw [sumK]; split <;> omega
  have h1 := hn (rs.take m) (fun r hr => (h r (List.mem_of_mem_take hr)).1)
  have h2 := hn (rs.drop m) (fun r hr => (h r (List.mem_of_mem_drop hr)).1)
  have h3 : sumK k rs = sumK k (rs.take m) + sumK k (rs.drop m) := by rw [← sumK_append, List.take_append_drop]
  omega
set_option maxRecDepth 100000 in
set_option maxHeartbeats 4000000 in
theorem common_any (va vb : Value) (a b : List Int) (w : World) (hra : RowZ w va a) (hrb : RowZ w vb b) (hla : a.length ≤ 400) (hlb : b.length ≤ 400) :
    Calls Try.prog 17 #[va, vb] w fun e w' => e = .returned (.int .i64 (keptV a b : Nat)) ∧ Below w.heap.size w w' := by
  have HA := Lib.hid (align_any va vb a b w hra hrb hla hlb)
  have hg := runsV_good (stepsV a b)
  have hsl := stepsV_len a b
  have hk : sumK 1 (alignV a b) = (keptV a b : Nat) := sumK_runsV 1 (stepsV a b)
  have hkl := keptV_le a b
  have HK := Lib.hid hk
  have hgl : (alignV a b).length ≤ 800 := Nat.le_trans hg.2 (by omega)
  have hgd : GoodR 800 (alignV a b) := fun r hr => by have := hg.1 r hr; omega
  have HG := Lib.hid hgd
  have hst : ∀ m, 0 ≤ sumK 1 ((alignV a b).take m) ∧ sumK 1 ((alignV a b).take m) ≤ 800 := fun m => by have := sumK_take_le hgd 1 m; omega
  have HST := Lib.hid hst
  obtain ⟨rs, hrs⟩ : ∃ rs, rs = alignV a b := ⟨_, rfl⟩
  rw [← hrs] at HA HK HG HST hgl
  clear hra hrb hg hsl hk hkl hgd hst hrs
  go_enter Try.func17, Try.ntmps17
  go_wp2_with fail
  refine HA.out.mono ?_
  rintro e w1 ⟨v', rfl, how, hb1⟩
  obtain ⟨a0, c0, rfl, -, hin⟩ := how.row.shape rnC_len
  have HIN := Lib.hid hin
  have hs1 := hb1.size
  clear how hin
  go_wp2_with fail
  go_loopw [5, 12] (fun x i wr => ∃ m : Nat, m ≤ rs.length ∧ i = .int .i64 m ∧ x = .int .i64 (sumK 1 (rs.take m)) ∧ Below w1.heap.size w1 wr) (fun _ i _ => rs.length - (intOf i).toNat)
  case atStart => exact ⟨0, Nat.zero_le _, rfl, rfl, Below.refl _ _⟩
  case round =>
    obtain ⟨m, hm, rfl, rfl, hbe⟩ := hrel
    by_cases h1 : m < rs.length
    · obtain ⟨⟨k, c⟩, hx⟩ : ∃ r, rs[m]? = some r := ⟨_, List.getElem?_eq_getElem h1⟩
      have hgd := HG.out (k, c) (List.mem_of_getElem? hx)
      obtain ⟨gb, ob, rfl, hc⟩ := HIN.out m _ hx
      have d0 := cell_below hbe (hc 0 (.int .i64 k) rfl)
      have d1 := cell_below hbe (hc 1 (.int .i64 c) rfl)
      rw [Nat.add_zero] at d0
      rw [← Nat.add_assoc] at d1
      have hS1 := (HST.out m).1
      have hS2 := (HST.out m).2
      have hc1 : 1 ≤ c := hgd.1
      have hc2 : c ≤ 800 := by have := hgd.2; simp only [] at this; omega
      have HS : Hid (sumK 1 (rs.take (m + 1)) = sumK 1 (rs.take m) + (if k = 1 then c else 0) ) := by
        show _ = _
        rw [List.take_add_one, hx, sumK_append]
        simp [sumK]
      have hbW := hbe.alloc hbe.size (.cells #[.int .i64 k, .int .i64 c] 41)
      clear hc hx hgd hbe
      by_cases hk : k = 1
      · subst hk
        have HS2 := Lib.hid (HS.out.trans (by rw [if_pos rfl] : _ = sumK 1 (rs.take m) + c))
        go_wp2_with fail
        go_roundw
        case rel => exact ⟨m + 1, by omega, by go_num, by rw [HS2.out], hbW⟩
        case measure => simp only [intOf]; omega
      · have e3 : (k == 1) = false := by simpa using hk
        have HS2 := Lib.hid (HS.out.trans (by rw [if_neg hk, Int.add_zero] : _ = sumK 1 (rs.take m)))
        go_wp2_with fail
        go_roundw
        case rel => exact ⟨m + 1, by omega, by go_num, by rw [HS2.out], hbW⟩
        case measure => simp only [intOf]; omega
    · obtain rfl : rs.length = m := by omega
      go_wp2_with fail
      go_ret
      exact ⟨ret1 (by rw [← HK.out, List.take_length]; rfl), hb1.trans (hbe.mono hb1.size)⟩
set_option maxRecDepth 100000 in
set_option maxHeartbeats 4000000 in
theorem same_any (va vb : Value) (rs : List Rn) (w : World) (hra : RowS rnC w va rs) (hrb : RowS rnC w vb rs) (hl : rs.length ≤ 1000000) :
    Calls Try.prog 12 #[va, vb] w fun e w' => e = .returned (.bool true) ∧ Below w.heap.size w w' := by
  obtain ⟨aa, ca, rfl, -, hia⟩ := hra.shape rnC_len
  obtain ⟨ab, cb, rfl, -, hib⟩ := hrb.shape rnC_len
  have HIA := Lib.hid hia
  have HIB := Lib.hid hib
  clear hra hrb hia hib
  go_enter Try.func12, Try.ntmps12
  go_wp2_with fail
  go_loopw [14] (fun i wr => ∃ m : Nat, m ≤ rs.length ∧ i = .int .i64 m ∧ Below w.heap.size w wr) (fun i _ => rs.length - (intOf i).toNat)
  case atStart => exact ⟨0, Nat.zero_le _, rfl, Below.refl _ _⟩
  case round =>
    obtain ⟨m, hm, rfl, hbe⟩ := hrel
    by_cases h1 : m < rs.length
    · obtain ⟨⟨k, c⟩, hx⟩ : ∃ r, rs[m]? = some r := ⟨_, List.getElem?_eq_getElem h1⟩
      obtain ⟨gb, ob, rfl, hc⟩ := HIA.out m _ hx
      obtain ⟨gb', ob', rfl, hc'⟩ := HIB.out m _ hx
      have d0 := cell_below hbe (hc 0 (.int .i64 k) rfl)
      have d1 := cell_below hbe (hc 1 (.int .i64 c) rfl)
      rw [Nat.add_zero] at d0
      rw [← Nat.add_assoc] at d1
      have hbA : Below wr.heap.size wr (wr.alloc (.cells #[.int .i64 k, .int .i64 c] 41)) := (Below.refl _ _).alloc (Nat.le_refl _) _
      have d2 := cell_below hbA (cell_below hbe (hc' 0 (.int .i64 k) rfl))
      have d3 := cell_below hbA (cell_below hbe (hc' 1 (.int .i64 c) rfl))
      rw [Nat.add_zero] at d2
      rw [← Nat.add_assoc] at d3
      have hbW := hbe.alloc hbe.size (.cells #[.int .i64 k, .int .i64 c] 41)
      clear hc hc' hx hbe hbA
      go_wp2_with fail
      go_region
      all_goals go_wp2_with fail
      all_goals go_roundw
      case rel => exact ⟨m + 1, by omega, by go_num, hbW.drew⟩
      case measure => simp only [intOf]; omega
    · obtain rfl : rs.length = m := by omega
      go_wp2_with fail
      go_ret
      exact ⟨rfl, hbe⟩
end Go.Proofs.Ytidfjemblidjkaa
