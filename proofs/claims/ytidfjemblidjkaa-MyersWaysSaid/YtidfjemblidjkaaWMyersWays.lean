/- The walk of MyersWays: which runs are a way, how many edits they have, and runs in order. -/
import Derived.Test.YtidfjemblidjkaaAlive19
import Derived.Test.YtidfjemblidjkaaMyQ
import Derived.Test.YtidfjemblidjkaaMyO
import Derived.Test.YtidfjemblidjkaaMyU2
import Derived.Test.YtidfjemblidjkaaMyZ
import Derived.Test.YtidfjemblidjkaaOpenR
namespace Go.Proofs.Ytidfjemblidjkaa
open Go Go.RowKit
set_option linter.unusedVariables false
theorem tidyV_bd {rs : List Rn} (hN : ∀ r ∈ rs, r.2 ≤ 200) (hl : rs.length ≤ 40) : (∀ r ∈ tidyV rs, r.2 ≤ 100000) ∧ (tidyV rs).length ≤ 100000 := by
  have h5 := tdAll_len hN rs.length
  rw [List.take_length] at h5
  have h6 : (tdEnd (tdAll rs)).length ≤ 8000 := by rw [tdEnd_len]; omega
  have hg := runsV_good (tdEnd (tdAll rs))
  exact ⟨fun r h => by have := hg.1 r h; omega, Nat.le_trans hg.2 (by omega)⟩
set_option maxRecDepth 100000 in
set_option maxHeartbeats 8000000 in
theorem walkMyersWays (w : World) (vr : Value) (rs : List Rn) (hr : RowS rnC w vr rs) (hxr : ∀ r ∈ rs, (-9223372036854775808 ≤ r.1 ∧ r.1 ≤ 9223372036854775807) ∧ (-9223372036854775808 ≤ r.2 ∧ r.2 ≤ 9223372036854775807)) (hreach : rs.length * 16 ≤ 140737488351232)
    (va : Value) (a : List Int) (hra : RowZ w va a) (hxa : ∀ n ∈ a, -9223372036854775808 ≤ n ∧ n ≤ 9223372036854775807) (vb : Value) (b : List Int) (hrb : RowZ w vb b) (hxb : ∀ n ∈ b, -9223372036854775808 ≤ n ∧ n ≤ 9223372036854775807) :
    Calls Try.prog 6 #[vr, va, vb] w fun e w' => e = .returned (.bool true) ∧ Below w.heap.size w w' := by
  clear hxa hxb
  have HA := Lib.hid (alive19 w)
  have HXR : Hid (∀ r ∈ rs, -9223372036854775808 ≤ r.2) := fun r h => (hxr r h).2.1
  have HOF : Hid (∀ w', Below w.heap.size w w' → _) := fun w' hb => of_any vr rs w' (RowS.stays hr hb) (fun r h => (hxr r h).2) hreach
  obtain ⟨aa, ca, rfl, hma, -⟩ := hra.gen.shape
  obtain ⟨ab, cb, rfl, hmb, -⟩ := hrb.gen.shape
  unfold maxLen at hma hmb
  have HRA : Hid (∀ w', Below w.heap.size w w' → RowZ w' _ a) := fun w' hb => hra.gen.stays hb
  have HRB : Hid (∀ w', Below w.heap.size w w' → RowZ w' _ b) := fun w' hb => hrb.gen.stays hb
  have HRR : Hid (∀ w', Below w.heap.size w w' → RowS rnC w' vr rs) := fun w' hb => RowS.stays hr hb
  clear hra hrb hr hxr hreach
  go_enter Try.func6, Try.ntmps6
  go_wp2_with fail
  refine HA.out.mono ?_
  rintro e w1 ⟨rfl, hb1⟩
  go_wp2_with fail
  refine (HOF.out w1 hb1).mono ?_
  rintro e w2 ⟨v', B, rfl, hof, hb2⟩
  have hbe2 := hb1.trans (hb2.mono hb1.size)
  have hs1 := hb1.size
  clear hb2 HOF
  cases B with
  | false =>
    clear hof
    go_wp2_with fail
    go_ret
    exact ⟨rfl, hbe2⟩
  | true =>
    have how := OwnS.mono (hof rfl).1 hs1
    have hrl := (hof rfl).2.1
    have hn200 := (hof rfl).2.2
    have HRN := Lib.hid hn200
    clear hof hs1 hb1
    by_cases hl : 60 < a.length
    · go_wp2_with fail
      go_ret
      exact ⟨rfl, hbe2⟩
    · by_cases hl2 : 60 < b.length
      · go_wp2_with fail
        go_ret
        exact ⟨rfl, hbe2⟩
      · have hla : a.length ≤ 60 := by omega
        have hlb : b.length ≤ 60 := by omega
        have hN1 : ∀ r ∈ rs, r.2 ≤ 1000 := fun r h => by have := hn200 r h; omega
        have HE := Lib.hid (editsV_take hN1)
        have HN1 := Lib.hid hN1
        have HTB := Lib.hid (tidyV_bd hn200 hrl)
        obtain ⟨a7, c7, hv7, -, hin⟩ := how.row.shape rnC_len
        subst hv7
        have HIN := Lib.hid hin
        have HOW := Lib.hid how
        have hs2 := hbe2.size
        obtain ⟨M, hM⟩ : ∃ M, M = rs.length := ⟨_, rfl⟩
        rw [← hM] at HOW ⊢
        have HM := Lib.hid hM
        have hM40 : (M : Int) ≤ 40 := by omega
        clear hl hl2 hN1 hin how hn200 hM
        go_wp2_with fail
        go_loopw [9, 36] (fun x i wr => ∃ m : Nat, m ≤ M ∧ i = .int .i64 m ∧ x = .int .i64 (editsV (rs.take m)) ∧ Below w2.heap.size w2 wr) (fun _ i _ => M - (intOf i).toNat)
        case atStart => exact ⟨0, Nat.zero_le _, rfl, rfl, Below.refl _ _⟩
        case round =>
          obtain ⟨m, hm, rfl, rfl, hbe⟩ := hrel
          have hS1 := (HE.out m).1
          have hS2 := (HE.out m).2
          by_cases h1 : m < M
          · obtain ⟨⟨k, c⟩, hx⟩ : ∃ r, rs[m]? = some r := ⟨_, List.getElem?_eq_getElem (by have := HM.out; omega)⟩
            have hc2 : c ≤ 200 := HRN.out (k, c) (List.mem_of_getElem? hx)
            obtain ⟨gb, ob, rfl, hc⟩ := HIN.out m _ hx
            have d0 := cell_below hbe (hc 0 (.int .i64 k) rfl)
            have d1 := cell_below hbe (hc 1 (.int .i64 c) rfl)
            rw [Nat.add_zero] at d0
            rw [← Nat.add_assoc] at d1
            have HS := Lib.hid (editsV_next hx)
            have hbW := hbe.alloc hbe.size (.cells #[.int .i64 k, .int .i64 c] 42)
            have hm2 : (m : Int) ≤ 40 := by omega
            clear hc hx hbe
            by_cases hc0 : 0 < c
            · have e5 : decide (c > 0) = true := by simpa using hc0
              have hcl : 0 ≤ c := by omega
              by_cases hk2 : k = 2
              · subst hk2
                have HS2 := Lib.hid (HS.out.trans (by rw [if_pos ⟨rightR_yes (by decide) (by decide) (by omega), by simp⟩] : _ = editsV (rs.take m) + c))
                go_wp2_with fail
                go_roundw
                case rel => exact ⟨m + 1, by omega, by go_num, by rw [HS2.out], hbW⟩
                case measure => simp only [intOf]; omega
              · have e2 : (k == 2) = false := by simpa using hk2
                by_cases hk3 : k = 3
                · subst hk3
                  have HS2 := Lib.hid (HS.out.trans (by rw [if_pos ⟨rightR_yes (by decide) (by decide) (by omega), by simp⟩] : _ = editsV (rs.take m) + c))
                  go_wp2_with fail
                  go_roundw
                  case rel => exact ⟨m + 1, by omega, by go_num, by rw [HS2.out], hbW⟩
                  case measure => simp only [intOf]; omega
                · have e3 : (k == 3) = false := by simpa using hk3
                  have HS2 := Lib.hid (HS.out.trans (by
                    rw [if_neg (fun h => by
                      have h1 := h.1
                      have h2 := h.2
                      unfold rightR at h1
                      simp at h1 h2
                      omega), Int.add_zero] : _ = editsV (rs.take m)))
                  clear hk2 hk3
                  go_wp2_with fail
                  go_roundw
                  case rel => exact ⟨m + 1, by omega, by go_num, by rw [HS2.out], hbW⟩
                  case measure => simp only [intOf]; omega
            · have e5 : decide (c > 0) = false := by simpa using hc0
              have HS2 := Lib.hid (HS.out.trans (by
                rw [if_neg (fun h => by
                  have h1 := h.1
                  unfold rightR at h1
                  simp at h1
                  omega), Int.add_zero] : _ = editsV (rs.take m)))
              by_cases hk2 : k = 2
              · subst hk2
                go_wp2_with fail
                go_roundw
                case rel => exact ⟨m + 1, by omega, by go_num, by rw [HS2.out], hbW⟩
                case measure => simp only [intOf]; omega
              · have e2 : (k == 2) = false := by simpa using hk2
                by_cases hk3 : k = 3
                · subst hk3
                  go_wp2_with fail
                  go_roundw
                  case rel => exact ⟨m + 1, by omega, by go_num, by rw [HS2.out], hbW⟩
                  case measure => simp only [intOf]; omega
                · have e3 : (k == 3) = false := by simpa using hk3
                  clear hk2 hk3
                  go_wp2_with fail
                  go_roundw
                  case rel => exact ⟨m + 1, by omega, by go_num, by rw [HS2.out], hbW⟩
                  case measure => simp only [intOf]; omega
          · obtain rfl : m = M := by omega
            have hbe3 := hbe2.trans (hbe.mono hs2)
            have HV : Hid (rs.take m = rs) := by show _ = _; rw [HM.out, List.take_length]
            rw [HV.out] at hS1 hS2 ⊢
            have hS3 : editsV rs ≤ 40000 := by omega
            have ho3 := OwnS.stays HOW.out hbe
            have HTR := Lib.hid (tidyRef_any _ rs wr ho3.row HRN.out HXR.out hrl)
            have HO3 := Lib.hid ho3
            clear hS2 ho3 h1 hbe
            go_wp2_with fail
            refine HTR.out.mono ?_
            rintro e w4 ⟨v12, rfl, ho12, hb4⟩
            have hbe4 := hbe3.trans (hb4.mono hbe3.size)
            have hown : OwnP w4.heap.size (w4.alloc (.cells #[] 41)) (.slice (some ⟨w4.heap.size, 0, none⟩) 0 0) [] := World.ownsRow_made (base := w4.heap.size) (e := 41) (size := 2) w4 #[] 0 (Nat.le_refl _) (Nat.zero_le _) rfl
            have hbA : Below w4.heap.size w4 (w4.alloc (.cells #[] 41)) := (Below.refl _ _).alloc (Nat.le_refl _) _
            have hrA := HRR.out _ (hbe4.trans (hbA.mono hbe4.size))
            have HO4 := Lib.hid ((OwnS.stays HO3.out hb4).row)
            have HO12 := Lib.hid ho12.row
            clear ho12 hb4
            go_wp2_with (at_builtin; go_must (refine wpList_appendS rnC_len rnC_one Try.underlying28 infoP rfl (by decide) hown hrA (by simp; omega) (by simp) rfl _ _ rfl (by rfl) (by rfl) ?_))
            intro v13 w5 o13 g13 n13 _
            have hb5 : Below w4.heap.size w4 w5 := OwnS.below hown hbA g13 (by simp)
            have hbe5 := hbe4.trans (hb5.mono hbe4.size)
            have HRO13 := Lib.hid o13.row
            clear hown hbA hrA o13 g13 n13
            have HTP := Lib.hid (tidyProg_any v13 rs w5 HRO13.out HRN.out hrl)
            go_wp2_with fail
            refine HTP.out.mono ?_
            rintro e w6 ⟨v64, rfl, hr64, hb6⟩
            have hb46 := hb5.trans (hb6.mono hb5.size)
            have hbe6 := hbe5.trans (hb6.mono hbe5.size)
            have HSA := Lib.hid (same_any v64 v12 (tidyV rs) w6 hr64 (RowS.stays HO12.out hb46) (by have := HTB.out.2; omega))
            have H13 := Lib.hid (RowS.stays HRO13.out hb6)
            clear hr64 hb5 hb6 hbe4 hbe5
            go_wp2_with fail
            refine HSA.out.mono ?_
            rintro e w7 ⟨rfl, hb7⟩
            have hb47 := hb46.trans (hb7.mono hb46.size)
            have hbe7 := hbe6.trans (hb7.mono hbe6.size)
            have h47r := RowS.stays HO4.out hb47
            have HSB := Lib.hid (same_any v13 _ rs w7 (RowS.stays H13.out hb7) h47r (by omega))
            clear hb46 hb7 hbe6 h47r
            go_wp2_with fail
            refine HSB.out.mono ?_
            rintro e w8 ⟨rfl, hb8⟩
            have hb48 := hb47.trans (hb8.mono hb47.size)
            have hbe8 := hbe7.trans (hb8.mono hbe7.size)
            have HED := Lib.hid (editsR_any vr rs w8 (HRR.out _ hbe8) HN1.out (by omega))
            have e9 : (editsV rs != editsV rs) = false := by simp
            clear hb47 hb8 hbe7
            go_wp2_with fail
            refine HED.out.mono ?_
            rintro e w9 ⟨rfl, hb9⟩
            have hb49 := hb48.trans (hb9.mono hb48.size)
            have hbe9 := hbe8.trans (hb9.mono hbe8.size)
            have h49r := RowS.stays HO4.out hb49
            have HWR := Lib.hid (wayRef_any _ _ _ rs a b w9 h49r (HRA.out _ hbe9) (HRB.out _ hbe9) (fun r h => by have := HN1.out r h; omega) (by omega) (by omega) (by omega))
            clear hb48 hb9 hbe8 h49r e9
            go_wp2_with fail
            refine HWR.out.mono ?_
            rintro e w10 ⟨rfl, hb10⟩
            have hb410 := hb49.trans (hb10.mono hb49.size)
            have hbe10 := hbe9.trans (hb10.mono hbe9.size)
            have HWP := Lib.hid (wayProg_any vr _ _ rs a b w10 (HRR.out _ hbe10) (HRA.out _ hbe10) (HRB.out _ hbe10) HN1.out (by omega) (by omega) (by omega))
            have HTW : Hid (wayB rs a b = true → wayB (tidyV rs) a b = true) := fun h => tidy_way h
            obtain ⟨W, hW⟩ : ∃ W, W = wayB rs a b := ⟨_, rfl⟩
            rw [← hW] at HWP HTW ⊢
            clear hb49 hb10 hbe9 hW
            go_wp2_with fail
            refine HWP.out.mono ?_
            rintro e w11 ⟨rfl, hb11⟩
            have hb411 := hb410.trans (hb11.mono hb410.size)
            have hbe11 := hbe10.trans (hb11.mono hbe10.size)
            have h411 := RowS.stays HO12.out hb411
            have hw2 := wayRef_any v12 _ _ (tidyV rs) a b w11 h411 (HRA.out _ hbe11) (HRB.out _ hbe11) HTB.out.1 HTB.out.2 (by omega) (by omega)
            clear hb410 hb11 hbe10 h411
            cases W with
            | false =>
              clear hw2
              go_wp2_with fail
              go_ret
              exact ⟨rfl, hbe11⟩
            | true =>
              rw [HTW.out rfl] at hw2
              have HW2 := Lib.hid hw2
              clear hw2
              go_wp2_with fail
              refine HW2.out.mono ?_
              rintro e w12 ⟨rfl, hb12⟩
              go_wp2_with fail
              go_ret
              exact ⟨rfl, hbe11.trans (hb12.mono hbe11.size)⟩
end Go.Proofs.Ytidfjemblidjkaa
