/- The walk of the reference's runs. -/
import Derived.Test.YtidfjemblidjkaaMyP
namespace Go.Proofs.Ytidfjemblidjkaa
open Go Go.RowKit
set_option linter.unusedVariables false
/-- a run's cells -/
def rnC (r : Rn) : List Value := [.int .i64 r.1, .int .i64 r.2]
theorem rnC_len (r : Rn) : (rnC r).length = 2 := rfl
theorem rnC_one (r : Rn) : (rnC r).all Value.oneCell' = true := rfl
theorem infoR : (Try.prog.info? 42).map (fun i => (i.zero, i.size, i.bytes)) = some (some (.agg #[.int .i64 0, .int .i64 0]), 2, 16) := by kernel_rfl
theorem addR_len (rs : List Rn) (k c : Int) : (addR rs k c).length ≤ rs.length + 1 := by
  unfold addR
  split
  · omega
  · split
    · simp
    · split <;> simp <;> omega
/-- all counts are at least 1 and not great -/
def GoodR (n : Nat) (rs : List Rn) : Prop := ∀ r ∈ rs, 1 ≤ r.2 ∧ r.2 ≤ n
theorem addR_good {n m : Nat} {rs : List Rn} {k : Int} (h : GoodR n rs) (hm : 1 ≤ m) : GoodR (n + m) (addR rs k m) := by
  unfold addR
  rw [if_neg (by omega)]
  have h' : GoodR (n + m) rs := fun r hr => by have := h r hr; omega
  split
  · intro r hr; simp at hr; subst hr; simp; omega
  · rename_i r0 hl
    have hr0 := h r0 (List.mem_of_getLast? hl)
    split
    · intro r hr
      rw [List.mem_append] at hr
      rcases hr with hr | hr
      · exact h' r (List.dropLast_subset _ hr)
      · simp at hr; subst hr; simp; omega
    · intro r hr
      rw [List.mem_append] at hr
      rcases hr with hr | hr
      · exact h' r hr
      · simp at hr; subst hr; simp; omega
/-- the last run is of a step's kind -/
theorem runsV_last {ss : List Int} {k : Int} : ∃ rs c, runsV (ss ++ [k]) = rs ++ [(k, c)] := by
  rw [runsV_snoc]
  unfold addR
  rw [if_neg (by decide)]
  split
  · exact ⟨[], 1, rfl⟩
  · rename_i r hl
    split
    · exact ⟨_, _, rfl⟩
    · exact ⟨_, _, rfl⟩
theorem snoc_ind {α : Type} {P : List α → Prop} (h0 : P []) (h1 : ∀ xs x, P xs → P (xs ++ [x])) : ∀ xs, P xs := fun xs => by
  have : ∀ n (xs : List α), xs.length = n → P xs := by
    intro n
    induction n with
    | zero => intro xs h; rw [List.length_eq_zero_iff.1 h]; exact h0
    | succ n ih =>
      intro xs h
      rcases List.eq_nil_or_concat xs with rfl | ⟨L, x, rfl⟩
      · simp at h
      · rw [List.concat_eq_append] at h ⊢; exact h1 L x (ih L (by simp at h; exact h))
  exact this _ xs rfl
theorem runsV_good : ∀ ss : List Int, GoodR ss.length (runsV ss) ∧ (runsV ss).length ≤ ss.length := by
  intro ss
  refine snoc_ind (P := fun ss => GoodR ss.length (runsV ss) ∧ (runsV ss).length ≤ ss.length) ?_ ?_ ss
  · exact ⟨fun r hr => by simp [runsV] at hr, by simp [runsV]⟩
  · intro ss k ih
    rw [runsV_snoc, List.length_append]
    refine ⟨addR_good ih.1 (Nat.le_refl _), ?_⟩
    have := addR_len (runsV ss) k 1
    simp; omega
theorem take_snocL {α : Type} {ss : List α} {k : Nat} (h : k < ss.length) : ss.take (k + 1) = ss.take k ++ [ss[k]] := List.take_succ_eq_append_getElem h
set_option maxRecDepth 100000 in
set_option maxHeartbeats 4000000 in
theorem runs_any (v : Value) (ss : List Int) (w : World) (hr : RowZ w v ss) (hl : ss.length ≤ 100000) :
    Calls Try.prog 14 #[v] w fun e w' => ∃ v', e = .returned v' ∧ OwnS 42 2 rnC w.heap.size w' v' (runsV ss) ∧ Below w.heap.size w w' := by
  obtain ⟨aa, ca, rfl, -, hia⟩ := hr.gen.shape
  have HIA := Lib.hid hia
  have hm : OwnS 42 2 rnC w.heap.size (w.alloc (.cells #[] 42)) (.slice (some ⟨w.heap.size, 0, none⟩) 0 0) [] := World.ownsRow_made (base := w.heap.size) (e := 42) (size := 2) w #[] 0 (Nat.le_refl _) (Nat.zero_le _) rfl
  have hbA : Below w.heap.size w (w.alloc (.cells #[] 42)) := (Below.refl _ _).alloc (Nat.le_refl _) _
  clear hr hia
  go_enter Try.func14, Try.ntmps14
  go_wp2_with fail
  generalize w.alloc (.cells #[] 42) = wm at hm hbA ⊢
  generalize Value.slice (some ⟨w.heap.size, 0, none⟩) 0 0 = vm at hm ⊢
  go_loopw [3, 9] (fun v i wr => ∃ k : Nat, k ≤ ss.length ∧ i = .int .i64 k ∧ OwnS 42 2 rnC w.heap.size wr v (runsV (ss.take k)) ∧ Below w.heap.size w wr) (fun _ i _ => ss.length - (intOf i).toNat)
  case atStart => exact ⟨0, Nat.zero_le _, rfl, by simpa [runsV] using hm, hbA⟩
  case round =>
    obtain ⟨k, hk, rfl, how, hbe⟩ := hrel
    have hsz := hbe.size
    by_cases h1 : k < ss.length
    · have hg := runsV_good (ss.take k)
      have hgl : (runsV (ss.take k)).length ≤ k := by have := hg.2; simp at this; omega
      have HG := Lib.hid hg.1
      clear hg
      obtain ⟨ga, oa, rfl, hca⟩ := HIA.out k _ (List.getElem?_eq_getElem h1)
      have d3 : wr.cell? ⟨ga, oa + k, none⟩ = some (.int .i64 ss[k]) := cell_below hbe hca
      clear hca
      have HS : Hid (runsV (ss.take (k + 1)) = addR (runsV (ss.take k)) ss[k] 1) := by show _ = _; rw [take_snocL h1, runsV_snoc]
      cases k with
      | zero =>
        rw [Nat.add_zero] at d3
        rw [show ((0 : Nat) : Int) = 0 from rfl]
        have HA : Hid (addR (runsV (ss.take 0)) ss[0] 1 = runsV (ss.take 0) ++ [(ss[0], 1)]) := by show _ = _; rw [List.take_zero]; exact addR_nil _ (by decide)
        go_wp2_with (at_builtin; go_must (refine wpList_pushS rnC_len rnC_one Try.underlying30 infoR rfl (by decide) how (ss[0], 1) (by omega) (by omega) rfl _ _ rfl (by rfl) _ _ _ (by rfl) (by rfl) ?_); intro v2 w2 how3 hg3 hn3)
        have hb3 := OwnS.below how hbe hg3 hsz
        clear hg3 hn3 how hbe
        go_wp2_with fail
        go_roundw
        case rel => exact ⟨1, by omega, by go_num, by rw [HS.out, HA.out]; exact how3, hb3⟩
        case measure => simp only [intOf]; omega
      | succ j =>
        have h1' : j < ss.length := by omega
        obtain ⟨ga', oa', hh, hca⟩ := HIA.out j _ (List.getElem?_eq_getElem h1')
        cases hh
        have d4 : wr.cell? ⟨ga, oa + j, none⟩ = some (.int .i64 ss[j]) := cell_below hbe hca
        have q1 : ((j + 1 : Nat) : Int) - 1 = (j : Int) := by omega
        clear hca
        have hlast : ∃ rs c, runsV (ss.take (j + 1)) = rs ++ [(ss[j], c)] := by rw [take_snocL h1']; exact runsV_last
        obtain ⟨rs, c, hrs⟩ := hlast
        rw [hrs] at how HG hgl HS
        clear hrs
        by_cases h2 : ss[j] = ss[j + 1]
        · have e2 : (ss[j] == ss[j + 1]) = true := by simp [h2]
          have HA : Hid (addR (rs ++ [(ss[j], c)]) ss[j + 1] 1 = rs ++ [(ss[j], c + 1)]) := by show _ = _; rw [← h2]; exact addR_same (by decide)
          obtain ⟨g, cc, rfl, b1, b2, b3, b4, b5⟩ := how.block rnC_len (by simp)
          have hc := HG.out (ss[j], c) (by simp)
          have hc1 : 1 ≤ c := hc.1
          have hc2 : c ≤ 100000 := by have := hc.2; have h3 : (ss.take (j + 1)).length ≤ ss.length := List.length_take_le' _ _; simp only [] at this; omega
          clear hc
          have d5 := b5 rs.length (ss[j], c) (by simp) 1 (.int .i64 c) rfl
          have d6 := b4 (rs.length * 2 + 1)
          have hlr : (rs ++ [(ss[j], c)]).length = rs.length + 1 := by simp
          rw [hlr] at how ⊢
          rw [hlr] at hgl b3
          clear b4 b5 h2 hlr
          go_wp2_with fail
          go_roundw
          case rel => exact ⟨j + 1 + 1, by omega, by go_num, by
            rw [HS.out, HA.out]
            have := how.set rnC_len rs.length 1 (ss[j], c) (ss[j], c + 1) (.int .i64 (c + 1)) (by simp) (by omega) rfl
            rw [List.set_append_right _ _ (Nat.le_refl _), Nat.sub_self] at this
            exact this, hbe.setCell b1 _⟩
          case measure => simp only [intOf]; omega
        · have e2 : (ss[j] == ss[j + 1]) = false := by simp [h2]
          have HA : Hid (addR (rs ++ [(ss[j], c)]) ss[j + 1] 1 = rs ++ [(ss[j], c)] ++ [(ss[j + 1], 1)]) := addR_other (by decide) h2
          clear h2
          go_wp2_with (at_builtin; go_must (refine wpList_pushS rnC_len rnC_one Try.underlying30 infoR rfl (by decide) how (ss[j + 1], 1) (by omega) (by omega) rfl _ _ rfl (by rfl) _ _ _ (by rfl) (by rfl) ?_); intro v2 w2 how3 hg3 hn3)
          have hb3 := OwnS.below how hbe hg3 hsz
          clear hg3 hn3 how hbe
          go_wp2_with fail
          go_roundw
          case rel => exact ⟨j + 1 + 1, by omega, by go_num, by rw [HS.out, HA.out]; exact how3, hb3⟩
          case measure => simp only [intOf]; omega
    · obtain rfl : ss.length = k := by omega
      go_wp2_with fail
      go_ret
      exact ⟨_, ret1 rfl, by rw [List.take_length] at how; exact how, hbe⟩
end Go.Proofs.Ytidfjemblidjkaa
