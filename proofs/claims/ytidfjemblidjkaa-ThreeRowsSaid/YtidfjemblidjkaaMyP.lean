/- The walk of the reference's steps. -/
import Derived.Test.YtidfjemblidjkaaMyF
namespace Go.Proofs.Ytidfjemblidjkaa
open Go Go.RowKit
set_option linter.unusedVariables false
theorem TabFrom.within {w : World} {gT lim : Nat} {a b : List Int} {x0 : Nat} (h : TabFrom w gT lim a b x0) : TabFrom w gT w.heap.size a b x0 := fun x h1 h2 => by
  obtain ⟨g, h3, h4, h5, h6⟩ := h x h1 h2
  exact ⟨g, h3, World.block_lt_of_cell? w ⟨g, 0, none⟩ (h6 0 (Nat.zero_le _)), h5, h6⟩
/-- a row of the call's own behind the table has been written -/
theorem TabFrom.after {w w' : World} {gT lim B : Nat} {a b : List Int} {x0 : Nat} {v : Value} (h : TabFrom w gT lim a b x0) (hg : w.grownBy w' v.ownBlock) (hk : ∀ k, v.ownBlock = some k → B ≤ k) (hB : gT < B ∧ lim ≤ B) : TabFrom w' gT lim a b x0 := by
  cases e : v.ownBlock with
  | none => rw [e] at hg; exact h.below (Nat.le_refl _) ((Below.refl _ _).grown hg (Nat.le_refl _) (fun k hk => by cases hk))
  | some g => rw [e] at hg; have := hk g e; exact h.grown hg (by omega) (by omega)
set_option maxRecDepth 100000 in
set_option maxHeartbeats 4000000 in
theorem steps_any (va vb : Value) (a b : List Int) (w : World) (ha : RowZ w va a) (hb : RowZ w vb b) (hla : a.length ≤ 400) (hlb : b.length ≤ 400) :
    Calls Try.prog 15 #[va, vb] w fun e w' => ∃ v', e = .returned v' ∧ OwnL 3 IV w.heap.size w' v' (stepsV a b) ∧ Below w.heap.size w w' := by
  have HT := Lib.hid (table_any va vb a b w ha hb hla hlb)
  have HF : Hid (∀ w', Below w.heap.size w w' → _) := fun w' hbe => apart_any va vb a b w' (ha.stays hbe) (hb.stays hbe) hla hlb
  obtain ⟨aa, ca, rfl, -, hia⟩ := ha.gen.shape
  obtain ⟨ab, cb, rfl, -, hib⟩ := hb.gen.shape
  have HIA := Lib.hid hia
  have HIB := Lib.hid hib
  clear ha hb hia hib
  go_enter Try.func15, Try.ntmps15
  go_wp2_with fail
  refine HT.out.mono ?_
  rintro e w1 ⟨rfl, ⟨lim, htab⟩, hbe⟩
  have hm : OwnL 3 IV w1.heap.size (w1.alloc (.cells #[] 3)) (.slice (some ⟨w1.heap.size, 0, none⟩) 0 0) [] := OwnL.made w1
  have hbA : Below w1.heap.size w1 (w1.alloc (.cells #[] 3)) := (Below.refl _ _).alloc (Nat.le_refl _) _
  have htA := htab.within.below (Nat.le_refl _) hbA
  have hB1 := hbA.size
  have hB0 := hbe.size
  have hbe2 := hbe.trans (hbA.mono hbe.size)
  have HB := Lib.hid hB0
  have hgl1 : w.heap.size < w1.heap.size := by
    obtain ⟨g0, h1, h2, h3, h4⟩ := htab 0 (Nat.le_refl _) (Nat.zero_le _)
    exact World.block_lt_of_cell? w1 ⟨w.heap.size, 0, none⟩ h3
  have HGL := Lib.hid hgl1
  clear htab hbA hbe hgl1
  go_upto_region 3 with fail
  have HW1 : Hid (w1.heap.size ≤ (w1.alloc (.cells #[] 3)).heap.size) := by show _ ≤ _; simp
  generalize w1.alloc (.cells #[] 3) = wm at hm htA hbe2 HW1 ⊢
  generalize Value.slice (some ⟨w1.heap.size, 0, none⟩) 0 0 = vm at hm ⊢
  obtain ⟨g, hg⟩ : ∃ g, g = w.heap.size := ⟨_, rfl⟩
  rw [← hg] at htA ⊢
  have HG := Lib.hid hg
  have hwg : w.heap.size ≤ g := by omega
  clear hg
  obtain ⟨g0, h01, h02, h03, h04⟩ := htA 0 (Nat.le_refl _) (Nat.zero_le _)
  have d0 := h04 0 (Nat.zero_le _)
  have HTAB := Lib.hid htA
  clear htA h04
  by_cases hfar : 400 < dist a b
  · have q : decide ((tab a b 0 0 : Int) > 400) = true := by
      have : tab a b 0 0 = dist a b := by unfold tab; rfl
      rw [this]; simp; omega
    have hb2 := hbe2
    go_wp2_with fail
    refine (HF.out wm hb2).mono ?_
    rintro e w3 ⟨v', rfl, how, hb3⟩
    go_wp2_with fail
    go_ret
    exact ⟨_, ret1 rfl, by unfold stepsV; rw [if_pos hfar]; exact how.mono hb2.size, hb2.trans (hb3.mono hb2.size)⟩
  · have q : decide ((tab a b 0 0 : Int) > 400) = false := by
      have : tab a b 0 0 = dist a b := by unfold tab; rfl
      rw [this]; simp; omega
    go_wp2_with fail
    go_loopw [6, 7, 8] (fun v xx yy wr => ∃ (x y : Nat) (out : List Int), x ≤ a.length ∧ y ≤ b.length ∧ xx = .int .i64 x ∧ yy = .int .i64 y ∧ OwnL 3 IV w1.heap.size wr v out ∧ out.length ≤ x + y ∧ w1.heap.size ≤ wr.heap.size ∧ Hid (out ++ stepsAt a b x y = stepsT a b) ∧ TabFrom wr g w1.heap.size a b 0 ∧ Below w.heap.size w wr) (fun _ xx yy _ => (a.length - (intOf xx).toNat) + (b.length - (intOf yy).toNat))
    case atStart => exact ⟨0, 0, [], Nat.zero_le _, Nat.zero_le _, rfl, rfl, hm, Nat.le_refl _, HW1.out, by show _ = _; unfold stepsAt; simp, HTAB.out, hbe2⟩
    case round =>
      obtain ⟨x, y, out, hx, hy, rfl, rfl, how, hol, hw1, HO, hT, hbe⟩ := hrel
      have hsz := hbe.size
      have hlt : g < w1.heap.size ∧ w1.heap.size ≤ w1.heap.size := ⟨by have := HG.out; have := HGL.out; omega, Nat.le_refl _⟩
      by_cases h1 : x < a.length
      · have e1 : decide ((x : Int) < a.length) = true := by simp; omega
        by_cases h2 : y < b.length
        · have e2 : decide ((y : Int) < b.length) = true := by simp; omega
          have e2' : ((y : Int) == b.length) = false := by simp; omega
          obtain ⟨gb, ob, rfl, hcb⟩ := HIB.out y _ (List.getElem?_eq_getElem h2)
          obtain ⟨ga, oa, rfl, hca⟩ := HIA.out x _ (List.getElem?_eq_getElem h1)
          have d3 : wr.cell? ⟨ga, oa + x, none⟩ = some (.int .i64 a[x]) := cell_below hbe hca
          have d4 : wr.cell? ⟨gb, ob + y, none⟩ = some (.int .i64 b[y]) := cell_below hbe hcb
          clear hca hcb
          by_cases h3 : a[x] = b[y]
          · have e3 : (a[x] == b[y]) = true := by simp [h3]
            have HS := Lib.hid (stepsAt_same h1 h2 h3)
            clear h3
            have how2 := how.stays ((Below.refl wr.heap.size wr).drew)
            have hT2 := hT.below (Nat.le_refl _) ((Below.refl wr.heap.size wr).drew)
            have hbe2 := hbe.drew
            clear how hT hbe
            go_wp2_with fail
            go_region
            all_goals go_wp2_with (at_builtin; go_must (refine wpList_pushL IV_one Try.underlying22 infoZ rfl (by decide) how2 1 (by omega) (by simp; omega) rfl _ _ rfl (by rfl) _ _ _ (by rfl) (by rfl) ?_); intro v2 w2 how3 hg3 hn3)
            have hb3 := OwnL.below (how2.mono HB.out) hbe2 hg3 (by simp; omega)
            have hT3 := hT2.after hg3 (fun k hk => (how2.lt k hk).1) hlt
            have hg3z := hg3.size
            clear hg3 hn3 how2 hT2 hbe2
            go_wp2_with fail
            go_roundw
            case rel => exact ⟨x + 1, y + 1, _, by omega, by omega, by go_num, by go_num, how3, by simp only [List.length_append, List.length_singleton]; omega, Nat.le_trans hw1 (by have := hg3z; simpa using this), by rw [← HO.out, HS.out, List.append_assoc]; rfl, hT3, hb3⟩
            case measure => simp only [intOf]; omega
          · have e3 : (a[x] == b[y]) = false := by simp [h3]
            obtain ⟨g3, h31, h32, h33, h34⟩ := hT (x + 1) (by omega) (by omega)
            obtain ⟨g4, h41, h42, h43, h44⟩ := hT x (by omega) (by omega)
            have d5 := h34 y (by omega)
            have d6 := h44 (y + 1) (by omega)
            have hta := tab_le a b (x + 1) y
            have htb := tab_le a b x (y + 1)
            clear h31 h32 h34 h41 h42 h44
            by_cases h4 : tab a b (x + 1) y ≤ tab a b x (y + 1)
            · have e4 : decide ((tab a b (x + 1) y : Int) ≤ tab a b x (y + 1)) = true := by simp; omega
              have HS := Lib.hid (stepsAt_drop h1 h2 h3 h4)
              clear h3
              have how2 := how.stays ((Below.refl wr.heap.size wr).drew.drew)
              have hT2 := hT.below (Nat.le_refl _) ((Below.refl wr.heap.size wr).drew.drew)
              have hbe2 := hbe.drew.drew
              clear how hT hbe
              go_wp2_with fail
              go_region
              all_goals go_wp2_with fail
              go_region
              all_goals go_wp2_with (at_builtin; go_must (refine wpList_pushL IV_one Try.underlying22 infoZ rfl (by decide) how2 2 (by omega) (by simp; omega) rfl _ _ rfl (by rfl) _ _ _ (by rfl) (by rfl) ?_); intro v2 w2 how3 hg3 hn3)
              have hb3 := OwnL.below (how2.mono HB.out) hbe2 hg3 (by simp; omega)
              have hT3 := hT2.after hg3 (fun k hk => (how2.lt k hk).1) hlt
              have hg3z := hg3.size
              clear hg3 hn3 how2 hT2 hbe2
              go_wp2_with fail
              go_roundw
              case rel => exact ⟨x + 1, y, _, by omega, by omega, by go_num, by go_num, how3, by simp only [List.length_append, List.length_singleton]; omega, Nat.le_trans hw1 (by have := hg3z; simpa using this), by rw [← HO.out, HS.out, List.append_assoc]; rfl, hT3, hb3⟩
              case measure => simp only [intOf]; omega
            · have e4 : decide ((tab a b (x + 1) y : Int) ≤ tab a b x (y + 1)) = false := by simp; omega
              have HS := Lib.hid (stepsAt_put h1 h2 h3 h4)
              clear h3
              have how2 := how.stays ((Below.refl wr.heap.size wr).drew.drew)
              have hT2 := hT.below (Nat.le_refl _) ((Below.refl wr.heap.size wr).drew.drew)
              have hbe2 := hbe.drew.drew
              clear how hT hbe
              go_wp2_with fail
              go_region
              all_goals go_wp2_with fail
              go_region
              all_goals go_wp2_with (at_builtin; go_must (refine wpList_pushL IV_one Try.underlying22 infoZ rfl (by decide) how2 3 (by omega) (by simp; omega) rfl _ _ rfl (by rfl) _ _ _ (by rfl) (by rfl) ?_); intro v2 w2 how3 hg3 hn3)
              have hb3 := OwnL.below (how2.mono HB.out) hbe2 hg3 (by simp; omega)
              have hT3 := hT2.after hg3 (fun k hk => (how2.lt k hk).1) hlt
              have hg3z := hg3.size
              clear hg3 hn3 how2 hT2 hbe2
              go_wp2_with fail
              go_roundw
              case rel => exact ⟨x, y + 1, _, by omega, by omega, by go_num, by go_num, how3, by simp only [List.length_append, List.length_singleton]; omega, Nat.le_trans hw1 (by have := hg3z; simpa using this), by rw [← HO.out, HS.out, List.append_assoc]; rfl, hT3, hb3⟩
              case measure => simp only [intOf]; omega
        · have e2 : decide ((y : Int) < b.length) = false := by simp; omega
          have e2' : ((y : Int) == b.length) = true := by simp; omega
          have HS := Lib.hid (stepsAt_drop' (b := b) (y := y) h1 (by omega))
          have how2 := how.stays ((Below.refl wr.heap.size wr).drew.drew)
          have hT2 := hT.below (Nat.le_refl _) ((Below.refl wr.heap.size wr).drew.drew)
          have hbe2 := hbe.drew.drew
          clear how hT hbe
          go_wp2_with fail
          go_region
          all_goals go_wp2_with fail
          go_region
          all_goals go_wp2_with (at_builtin; go_must (refine wpList_pushL IV_one Try.underlying22 infoZ rfl (by decide) how2 2 (by omega) (by simp; omega) rfl _ _ rfl (by rfl) _ _ _ (by rfl) (by rfl) ?_); intro v2 w2 how3 hg3 hn3)
          have hb3 := OwnL.below (how2.mono HB.out) hbe2 hg3 (by simp; omega)
          have hT3 := hT2.after hg3 (fun k hk => (how2.lt k hk).1) hlt
          have hg3z := hg3.size
          clear hg3 hn3 how2 hT2 hbe2
          go_wp2_with fail
          go_roundw
          case rel => exact ⟨x + 1, y, _, by omega, by omega, by go_num, by go_num, how3, by simp only [List.length_append, List.length_singleton]; omega, Nat.le_trans hw1 (by have := hg3z; simpa using this), by rw [← HO.out, HS.out, List.append_assoc]; rfl, hT3, hb3⟩
          case measure => simp only [intOf]; omega
      · by_cases h2 : y < b.length
        · have e1 : decide ((x : Int) < a.length) = false := by simp; omega
          have e2 : decide ((y : Int) < b.length) = true := by simp; omega
          have HS := Lib.hid (stepsAt_put' (a := a) (x := x) (by omega) h2)
          have how2 := how.stays ((Below.refl wr.heap.size wr).drew.drew)
          have hT2 := hT.below (Nat.le_refl _) ((Below.refl wr.heap.size wr).drew.drew)
          have hbe2 := hbe.drew.drew
          clear how hT hbe
          go_wp2_with fail
          go_region
          all_goals go_wp2_with fail
          go_region
          all_goals go_wp2_with (at_builtin; go_must (refine wpList_pushL IV_one Try.underlying22 infoZ rfl (by decide) how2 3 (by omega) (by simp; omega) rfl _ _ rfl (by rfl) _ _ _ (by rfl) (by rfl) ?_); intro v2 w2 how3 hg3 hn3)
          have hb3 := OwnL.below (how2.mono HB.out) hbe2 hg3 (by simp; omega)
          have hT3 := hT2.after hg3 (fun k hk => (how2.lt k hk).1) hlt
          have hg3z := hg3.size
          clear hg3 hn3 how2 hT2 hbe2
          go_wp2_with fail
          go_roundw
          case rel => exact ⟨x, y + 1, _, by omega, by omega, by go_num, by go_num, how3, by simp only [List.length_append, List.length_singleton]; omega, Nat.le_trans hw1 (by have := hg3z; simpa using this), by rw [← HO.out, HS.out, List.append_assoc]; rfl, hT3, hb3⟩
          case measure => simp only [intOf]; omega
        · obtain rfl : a.length = x := by omega
          obtain rfl : b.length = y := by omega
          clear h1 h2 hT hol
          go_wp2_with fail
          go_ret
          exact ⟨_, ret1 rfl, by unfold stepsV; rw [if_neg hfar, ← HO.out, stepsAt_end (Nat.le_refl _) (Nat.le_refl _), List.append_nil]; exact how.mono HB.out, hbe⟩
end Go.Proofs.Ytidfjemblidjkaa
