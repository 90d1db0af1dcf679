/- The walk of the reference's steps of rows that are far apart. -/
import Derived.Test.YtidfjemblidjkaaMyT
import Derived.Deep.CutBlock
import Derived.Deep.DeepCutAuto
namespace Go.Proofs.Ytidfjemblidjkaa
open Go Go.RowKit
set_option linter.unusedVariables false
theorem alike_nil (bs : List Int) : alike [] bs = 0 := by unfold alike; rfl
theorem alike_nil' (us : List Int) : alike us [] = 0 := by cases us <;> (unfold alike; rfl)
theorem alike_same {a b : List Int} {k : Nat} (ha : k < a.length) (hb : k < b.length) (h : a[k] = b[k]) : alike (a.drop k) (b.drop k) = alike (a.drop (k + 1)) (b.drop (k + 1)) + 1 := by
  rw [List.drop_eq_getElem_cons ha, List.drop_eq_getElem_cons hb, alike, if_pos h]
theorem alike_other {a b : List Int} {k : Nat} (ha : k < a.length) (hb : k < b.length) (h : ¬ a[k] = b[k]) : alike (a.drop k) (b.drop k) = 0 := by
  rw [List.drop_eq_getElem_cons ha, List.drop_eq_getElem_cons hb, alike, if_neg h]
set_option maxRecDepth 100000 in
set_option maxHeartbeats 4000000 in
theorem apart_any (va vb : Value) (a b : List Int) (w : World) (ha : RowZ w va a) (hb : RowZ w vb b) (hla : a.length ≤ 400) (hlb : b.length ≤ 400) :
    Calls Try.prog 36 #[va, vb] w fun e w' => ∃ v', e = .returned v' ∧ OwnL 3 IV w.heap.size w' v' (stepsF a b) ∧ Below w.heap.size w w' := by
  obtain ⟨aa, ca, rfl, -, hia⟩ := ha.gen.shape
  obtain ⟨ab, cb, rfl, -, hib⟩ := hb.gen.shape
  have HIA := Lib.hid hia
  have HIB := Lib.hid hib
  clear ha hb hia hib
  go_enter Try.func36, Try.ntmps36
  go_wp2_with fail
  go_loopw [5] (fun x wr => ∃ k : Nat, k ≤ a.length ∧ k ≤ b.length ∧ x = .int .i64 k ∧ Hid (k + alike (a.drop k) (b.drop k) = alike a b) ∧ Below w.heap.size w wr) (fun x _ => a.length - (intOf x).toNat)
  case atStart => exact ⟨0, Nat.zero_le _, Nat.zero_le _, rfl, by show _ = _; simp, Below.refl _ _⟩
  case round =>
    obtain ⟨k, hk, hk2, rfl, HK, hbe⟩ := hrel
    go_upto_region 2 with fail
    go_cut [32] from 12 to 32 (fun x wx => ∃ c : Bool, x = .bool c ∧ Below w.heap.size w wx ∧ Hid (c = true → k < a.length ∧ k < b.length ∧ k + 1 + alike (a.drop (k + 1)) (b.drop (k + 1)) = alike a b) ∧ Hid (c = false → k = alike a b))
    case first =>
      by_cases h1 : k < a.length
      · have e1 : decide ((k : Int) < a.length) = true := by simp; omega
        by_cases h2 : k < b.length
        · have e2 : decide ((k : Int) < b.length) = true := by simp; omega
          obtain ⟨gb, ob, rfl, hcb⟩ := HIB.out k _ (List.getElem?_eq_getElem h2)
          obtain ⟨ga, oa, rfl, hca⟩ := HIA.out k _ (List.getElem?_eq_getElem h1)
          have d3 : wr.cell? ⟨ga, oa + k, none⟩ = some (.int .i64 a[k]) := cell_below hbe hca
          have d4 : wr.cell? ⟨gb, ob + k, none⟩ = some (.int .i64 b[k]) := cell_below hbe hcb
          clear hca hcb
          by_cases h3 : a[k] = b[k]
          · have HA := Lib.hid (alike_same h1 h2 h3)
            have e3 : (a[k] == b[k]) = true := by simp [h3]
            go_region
            all_goals go_wp2_with fail
            all_goals go_meet
            case rel => exact ⟨true, rfl, hbe.drew, fun _ => ⟨h1, h2, by have := HK.out; rw [HA.out] at this; omega⟩, (fun h => by cases h)⟩
          · have HA := Lib.hid (alike_other h1 h2 h3)
            have e3 : (a[k] == b[k]) = false := by simp [h3]
            go_region
            all_goals go_wp2_with fail
            all_goals go_meet
            case rel => exact ⟨false, rfl, hbe.drew, (fun h => by cases h), fun _ => by have := HK.out; rw [HA.out] at this; exact this⟩
        · have e2 : decide ((k : Int) < b.length) = false := by simp; omega
          have HA : Hid (alike (a.drop k) (b.drop k) = 0) := by show _ = _; rw [List.drop_of_length_le (by omega : b.length ≤ k), alike_nil']
          go_region
          all_goals go_wp2_with fail
          all_goals go_meet
          case rel => exact ⟨false, rfl, hbe.drew, (fun h => by cases h), fun _ => by have := HK.out; rw [HA.out] at this; exact this⟩
      · have e1 : decide ((k : Int) < a.length) = false := by simp; omega
        have HA : Hid (alike (a.drop k) (b.drop k) = 0) := by show _ = _; rw [List.drop_of_length_le (by omega : a.length ≤ k), alike_nil]
        go_region
        all_goals go_wp2_with fail
        all_goals go_meet
        case rel => exact ⟨false, rfl, hbe.drew, (fun h => by cases h), fun _ => by have := HK.out; rw [HA.out] at this; exact this⟩
    case rest =>
      obtain ⟨c, rfl, hbe2, HT, HF⟩ := hcut
      clear hbe
      cases c with
      | true =>
        obtain ⟨h1, h2, h3⟩ := HT.out rfl
        have H3 := Lib.hid h3
        clear h3
        go_wp2_with fail
        go_roundw
        case rel => exact ⟨k + 1, h1, h2, by go_num, H3.out, hbe2⟩
        case measure => simp only [intOf]; omega
      | false =>
        have HH := Lib.hid (HF.out rfl)
        go_wp2_with fail
        obtain ⟨h, hh⟩ : ∃ h, h = alike a b := ⟨_, rfl⟩
        obtain rfl : k = h := by rw [hh]; exact HH.out
        have HE := Lib.hid hh
        clear hh HH HF HT HK
        go_loopw [6] (fun x wr => ∃ t : Nat, k + t ≤ a.length ∧ k + t ≤ b.length ∧ x = .int .i64 t ∧ Hid (t + alike ((a.drop k).reverse.drop t) ((b.drop k).reverse.drop t) = alike (a.drop k).reverse (b.drop k).reverse) ∧ Below w.heap.size w wr) (fun x _ => a.length - (intOf x).toNat)
        case atStart => exact ⟨0, by omega, by omega, rfl, by show _ = _; simp, hbe2⟩
        case round =>
          obtain ⟨t, ht, ht2, rfl, HK, hbe⟩ := hrel
          go_upto_region 5 with fail
          go_cut [67] from 35 to 67 (fun x wx => ∃ c : Bool, x = .bool c ∧ Below w.heap.size w wx ∧ Hid (c = true → k + (t + 1) ≤ a.length ∧ k + (t + 1) ≤ b.length ∧ t + 1 + alike ((a.drop k).reverse.drop (t + 1)) ((b.drop k).reverse.drop (t + 1)) = alike (a.drop k).reverse (b.drop k).reverse) ∧ Hid (c = false → t = alike (a.drop k).reverse (b.drop k).reverse))
          case first =>
            by_cases h1 : t < a.length - k
            · have e1 : decide ((t : Int) < a.length - k) = true := by simp; omega
              by_cases h2 : t < b.length - k
              · have e2 : decide ((t : Int) < b.length - k) = true := by simp; omega
                obtain ⟨p, hp⟩ : ∃ p, p = a.length - 1 - t := ⟨_, rfl⟩
                obtain ⟨q, hq⟩ : ∃ q, q = b.length - 1 - t := ⟨_, rfl⟩
                have hpa : p < a.length := by omega
                have hqb : q < b.length := by omega
                have ra : (a.drop k).reverse[t]'(by simp; omega) = a[p] := by
                  rw [List.getElem_reverse, List.getElem_drop]; congr 1; simp; omega
                have rb : (b.drop k).reverse[t]'(by simp; omega) = b[q] := by
                  rw [List.getElem_reverse, List.getElem_drop]; congr 1; simp; omega
                have qa : (a.length : Int) - 1 - t = (p : Int) := by omega
                have qb : (b.length : Int) - 1 - t = (q : Int) := by omega
                obtain ⟨gb, ob, rfl, hcb⟩ := HIB.out q _ (List.getElem?_eq_getElem hqb)
                obtain ⟨ga, oa, rfl, hca⟩ := HIA.out p _ (List.getElem?_eq_getElem hpa)
                have d3 : wr.cell? ⟨ga, oa + p, none⟩ = some (.int .i64 a[p]) := cell_below hbe hca
                have d4 : wr.cell? ⟨gb, ob + q, none⟩ = some (.int .i64 b[q]) := cell_below hbe hcb
                by_cases h3 : a[p] = b[q]
                · have HA := Lib.hid (alike_same (a := (a.drop k).reverse) (b := (b.drop k).reverse) (k := t) (by simp; omega) (by simp; omega) (by rw [ra, rb, h3]))
                  have e3 : (a[p] == b[q]) = true := by simp [h3]
                  clear hca hcb ra rb hp hq
                  go_region
                  all_goals go_wp2_with fail
                  all_goals go_meet
                  case rel => exact ⟨true, rfl, hbe.drew, fun _ => ⟨by omega, by omega, by have := HK.out; rw [HA.out] at this; omega⟩, (fun h => by cases h)⟩
                · have HA := Lib.hid (alike_other (a := (a.drop k).reverse) (b := (b.drop k).reverse) (k := t) (by simp; omega) (by simp; omega) (by rw [ra, rb]; exact h3))
                  have e3 : (a[p] == b[q]) = false := by simp [h3]
                  clear hca hcb ra rb hp hq
                  go_region
                  all_goals go_wp2_with fail
                  all_goals go_meet
                  case rel => exact ⟨false, rfl, hbe.drew, (fun h => by cases h), fun _ => by have := HK.out; rw [HA.out] at this; exact this⟩
              · have e2 : decide ((t : Int) < b.length - k) = false := by simp; omega
                have HA : Hid (alike ((a.drop k).reverse.drop t) ((b.drop k).reverse.drop t) = 0) := by show _ = _; rw [List.drop_of_length_le (l := (b.drop k).reverse) (by simp; omega), alike_nil']
                go_region
                all_goals go_wp2_with fail
                all_goals go_meet
                case rel => exact ⟨false, rfl, hbe.drew, (fun h => by cases h), fun _ => by have := HK.out; rw [HA.out] at this; exact this⟩
            · have e1 : decide ((t : Int) < a.length - k) = false := by simp; omega
              have HA : Hid (alike ((a.drop k).reverse.drop t) ((b.drop k).reverse.drop t) = 0) := by show _ = _; rw [List.drop_of_length_le (l := (a.drop k).reverse) (by simp; omega), alike_nil]
              go_region
              all_goals go_wp2_with fail
              all_goals go_meet
              case rel => exact ⟨false, rfl, hbe.drew, (fun h => by cases h), fun _ => by have := HK.out; rw [HA.out] at this; exact this⟩
          case rest =>
            obtain ⟨c, rfl, hbe3, HT, HF⟩ := hcut
            clear hbe
            cases c with
            | true =>
              obtain ⟨h1, h2, h3⟩ := HT.out rfl
              have H3 := Lib.hid h3
              clear h3
              go_wp2_with fail
              go_roundw
              case rel => exact ⟨t + 1, h1, h2, by go_num, H3.out, hbe3⟩
              case measure => simp only [intOf]; omega
            | false =>
              have HH := Lib.hid (HF.out rfl)
              go_wp2_with fail
              have hm : OwnL 3 IV w.heap.size (wc.alloc (.cells #[] 3)) (.slice (some ⟨wc.heap.size, 0, none⟩) 0 0) [] := (OwnL.made wc).mono hbe3.size
              have hbm := hbe3.alloc hbe3.size (.cells #[] 3)
              generalize wc.alloc (.cells #[] 3) = wm at hm hbm ⊢
              generalize Value.slice (some ⟨wc.heap.size, 0, none⟩) 0 0 = vm at hm ⊢
              go_loopw [7, 8] (fun v x wr => ∃ n : Nat, n ≤ k ∧ x = .int .i64 n ∧ OwnL 3 IV w.heap.size wr v (List.replicate n 1) ∧ Below w.heap.size w wr) (fun _ x _ => k - (intOf x).toNat)
              case atStart => exact ⟨0, Nat.zero_le _, rfl, hm, hbm⟩
              case round =>
                obtain ⟨n, hn, rfl, how, hbe⟩ := hrel
                have hsz := hbe.size
                by_cases hnk : n < k
                · go_wp2_with (at_builtin; go_must (refine wpList_pushL IV_one Try.underlying22 infoZ rfl (by decide) how 1 (by rw [List.length_replicate]; omega) (by omega) rfl _ _ rfl (by rfl) _ _ _ (by rfl) (by rfl) ?_))
                  intro v' w2 how2 hg2 _
                  have hbe2 := OwnL.below how hbe hg2 hsz
                  clear hg2 how hbe
                  go_wp2_with fail
                  go_roundw
                  case rel => exact ⟨n + 1, hnk, by go_num, by rw [List.replicate_succ']; exact how2, hbe2⟩
                  case measure => simp only [intOf]; omega
                · obtain rfl : k = n := by omega
                  go_wp2_with fail
                  go_loopw [7, 9] (fun v x wr => ∃ m : Nat, k ≤ m ∧ m ≤ a.length - t ∧ x = .int .i64 m ∧ OwnL 3 IV w.heap.size wr v (List.replicate k 1 ++ List.replicate (m - k) 2) ∧ Below w.heap.size w wr) (fun _ x _ => a.length - t - (intOf x).toNat)
                  case atStart => exact ⟨k, Nat.le_refl _, by omega, rfl, by rw [Nat.sub_self, List.replicate_zero, List.append_nil]; exact how, hbe⟩
                  case round =>
                    obtain ⟨m, hm0, hmE, rfl, how4, hbe4⟩ := hrel
                    have hsz := hbe4.size
                    by_cases hmk : m < a.length - t
                    · have e9 : decide ((m : Int) < a.length - t) = true := by simp; omega
                      go_wp2_with (at_builtin; go_must (refine wpList_pushL IV_one Try.underlying22 infoZ rfl (by decide) how4 2 (by simp only [List.length_append, List.length_replicate]; omega) (by omega) rfl _ _ rfl (by rfl) _ _ _ (by rfl) (by rfl) ?_))
                      intro v' w2 how2 hg2 _
                      have hbe2 := OwnL.below how4 hbe4 hg2 hsz
                      clear hg2 how4 hbe4
                      go_wp2_with fail
                      go_roundw
                      case rel => exact ⟨m + 1, by omega, by omega, by go_num, by rw [show m + 1 - k = (m - k) + 1 from by omega, List.replicate_succ']; simpa only [List.append_assoc, Nat.sub_zero] using how2, hbe2⟩
                      case measure => simp only [intOf]; omega
                    · have e9 : decide ((m : Int) < a.length - t) = false := by simp; omega
                      obtain hmm : m = a.length - t := by omega
                      rw [hmm] at how4
                      clear hmm
                      go_wp2_with fail
                      go_loopw [7, 10] (fun v x wr => ∃ m : Nat, k ≤ m ∧ m ≤ b.length - t ∧ x = .int .i64 m ∧ OwnL 3 IV w.heap.size wr v ((List.replicate k 1 ++ List.replicate (a.length - t - k) 2) ++ List.replicate (m - k) 3) ∧ Below w.heap.size w wr) (fun _ x _ => b.length - t - (intOf x).toNat)
                      case atStart => exact ⟨k, Nat.le_refl _, by omega, rfl, by rw [Nat.sub_self, List.replicate_zero, List.append_nil]; exact how4, hbe4⟩
                      case round =>
                        obtain ⟨m, hm0, hmE, rfl, how5, hbe5⟩ := hrel
                        have hsz := hbe5.size
                        by_cases hmk : m < b.length - t
                        · have e9 : decide ((m : Int) < b.length - t) = true := by simp; omega
                          go_wp2_with (at_builtin; go_must (refine wpList_pushL IV_one Try.underlying22 infoZ rfl (by decide) how5 3 (by simp only [List.length_append, List.length_replicate]; omega) (by omega) rfl _ _ rfl (by rfl) _ _ _ (by rfl) (by rfl) ?_))
                          intro v' w2 how2 hg2 _
                          have hbe2 := OwnL.below how5 hbe5 hg2 hsz
                          clear hg2 how5 hbe5
                          go_wp2_with fail
                          go_roundw
                          case rel => exact ⟨m + 1, by omega, by omega, by go_num, by rw [show m + 1 - k = (m - k) + 1 from by omega, List.replicate_succ']; simpa only [List.append_assoc, Nat.sub_zero] using how2, hbe2⟩
                          case measure => simp only [intOf]; omega
                        · have e9 : decide ((m : Int) < b.length - t) = false := by simp; omega
                          obtain hmm : m = b.length - t := by omega
                          rw [hmm] at how5
                          clear hmm
                          go_wp2_with fail
                          go_loopw [7, 11] (fun v x wr => ∃ m : Nat, 0 ≤ m ∧ m ≤ t ∧ x = .int .i64 m ∧ OwnL 3 IV w.heap.size wr v (((List.replicate k 1 ++ List.replicate (a.length - t - k) 2) ++ List.replicate (b.length - t - k) 3) ++ List.replicate (m - 0) 1) ∧ Below w.heap.size w wr) (fun _ x _ => t - (intOf x).toNat)
                          case atStart => exact ⟨0, Nat.le_refl _, by omega, rfl, by rw [Nat.sub_self, List.replicate_zero, List.append_nil]; exact how5, hbe5⟩
                          case round =>
                            obtain ⟨m, hm0, hmE, rfl, how6, hbe6⟩ := hrel
                            have hsz := hbe6.size
                            by_cases hmk : m < t
                            · have e9 : decide ((m : Int) < t) = true := by simp; omega
                              go_wp2_with (at_builtin; go_must (refine wpList_pushL IV_one Try.underlying22 infoZ rfl (by decide) how6 1 (by simp only [List.length_append, List.length_replicate]; omega) (by omega) rfl _ _ rfl (by rfl) _ _ _ (by rfl) (by rfl) ?_))
                              intro v' w2 how2 hg2 _
                              have hbe2 := OwnL.below how6 hbe6 hg2 hsz
                              clear hg2 how6 hbe6
                              go_wp2_with fail
                              go_roundw
                              case rel => exact ⟨m + 1, by omega, by omega, by go_num, by rw [show m + 1 - 0 = (m - 0) + 1 from by omega, List.replicate_succ']; simpa only [List.append_assoc, Nat.sub_zero] using how2, hbe2⟩
                              case measure => simp only [intOf]; omega
                            · have e9 : decide ((m : Int) < t) = false := by simp; omega
                              obtain hmm : m = t := by omega
                              rw [hmm] at how6
                              clear hmm
                              go_wp2_with fail
                              go_ret
                              exact ⟨_, ret1 rfl, by unfold stepsF; simp only []; rw [← HE.out, ← HH.out]; simpa [Nat.sub_right_comm, Nat.sub_sub, Nat.add_comm] using how6, hbe6⟩
end Go.Proofs.Ytidfjemblidjkaa
