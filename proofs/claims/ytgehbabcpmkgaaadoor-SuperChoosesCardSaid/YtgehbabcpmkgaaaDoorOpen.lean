/- crc.Open, crc.Right: what is opened of sealed bytes. (Under way: the plain part.) -/
import Derived.Test.YtgehbabcpmkgaaaDoorSeal
import Derived.Test.YtgehbabcpmkgaaaDoorErrs
namespace Go.Proofs.YtgehbabcpmkgaaaDoor
open Go Go.RowKit
set_option linter.unusedVariables false
/-- the error's number of bytes that are opened -/
def openK (bs : List UInt8) : Nat := if bs.length < 4 then 2 else if fixedV (bs.drop (bs.length - 4)) = csum (bs.take (bs.length - 4)) then 0 else 18
def opened (bs : List UInt8) : List UInt8 := if openK bs = 0 then bs.take (bs.length - 4) else []
theorem openK_short {bs : List UInt8} (h : bs.length < 4) : openK bs = 2 := if_pos h
theorem openK_ok {bs : List UInt8} (h : ¬ bs.length < 4) (h2 : fixedV (bs.drop (bs.length - 4)) = csum (bs.take (bs.length - 4))) : openK bs = 0 := by unfold openK; rw [if_neg h, if_pos h2]
theorem openK_sum {bs : List UInt8} (h : ¬ bs.length < 4) (h2 : ¬ fixedV (bs.drop (bs.length - 4)) = csum (bs.take (bs.length - 4))) : openK bs = 18 := by unfold openK; rw [if_neg h, if_neg h2]
set_option maxRecDepth 100000 in
theorem open_any (ea : Nat → Addr) (v : Value) (bs : List UInt8) (w : World) (hr : RowB w v bs) (hlen : bs.length ≤ 1000000) (he1 : ErrAt w 2 (ea 1)) (he2 : ErrAt w 3 (ea 2)) (he18 : ErrAt w 8 (ea 18)) :
    Calls Tryd.prog 85 #[v] w fun e w' => ∃ v', e = .returned (.tuple #[v', EV ea (openK bs)]) ∧ OwnB w.heap.size w' v' (opened bs) ∧ Below w.heap.size w w' := by
  obtain ⟨a, c, rfl, -, -⟩ := hr.gen.shape
  by_cases h4 : bs.length < 4
  · have HK := Lib.hid (openK_short h4)
    have HO : Hid (opened bs = []) := by show _ = _; unfold opened; rw [if_neg (by rw [HK.out]; decide)]
    unfold ErrAt at he2
    clear hr he1 he18
    go_enter Tryd.func85, Tryd.ntmps85
    go_wp2_with fail
    go_region
    all_goals go_wp2
    all_goals go_ret2
    all_goals exact ⟨.slice none 0 0, ret2 rfl (by rw [HK.out]; rfl), by rw [HO.out]; exact OwnB.nil _ _, (Below.refl _ _).drew⟩
  · obtain ⟨n, hnn⟩ : ∃ n, n = bs.length - 4 := ⟨_, rfl⟩
    have hni : (bs.length : Int) - 4 = (n : Int) := by omega
    have hnl : n ≤ bs.length := by omega
    have hD4 : (bs.drop n).length = 4 := by simp; omega
    have HK1 : Hid (fixedV (bs.drop n) = csum (bs.take n) → openK bs = 0 ∧ opened bs = bs.take n) := fun h => by
      rw [hnn] at h
      have h1 := openK_ok h4 h
      exact ⟨h1, by unfold opened; rw [if_pos h1, hnn]⟩
    have HK2 : Hid (¬ fixedV (bs.drop n) = csum (bs.take n) → openK bs = 18 ∧ opened bs = []) := fun h => by
      rw [hnn] at h
      have h1 := openK_sum h4 h
      exact ⟨h1, by unfold opened; rw [if_neg (by rw [h1]; decide)]⟩
    have hTl : (bs.take n).length ≤ 1000000 := by simp; omega
    have hcl : csum (bs.take n) ≤ 4294967295 := by have := csum_lt (bs.take n); omega
    have hfl : fixedV (bs.drop n) ≤ 4294967295 := by
      have h1 := fixedV_lt (bs.drop n)
      rw [hD4, show 256 ^ 4 = 4294967296 from by decide +kernel] at h1
      omega
    have HROW : Hid (∀ w', Below w.heap.size w w' → RowB w' (.slice a bs.length c) bs) := fun w' hb => hr.stays hb
    have HE1 : Hid (∀ w', Below w.heap.size w w' → ErrAt w' 2 (ea 1)) := fun w' hb => he1.stays hb
    have HE2 : Hid (∀ w', Below w.heap.size w w' → ErrAt w' 3 (ea 2)) := fun w' hb => he2.stays hb
    have HE18 : Hid (∀ w', Below w.heap.size w w' → ErrAt w' 8 (ea 18)) := fun w' hb => he18.stays hb
    clear he1 he2 he18 hr hnn
    generalize hDe : bs.drop n = D at *
    generalize hTe : bs.take n = T at *
    have HDe := Lib.hid hDe
    have HTe := Lib.hid hTe
    clear hDe hTe
    have hask : Hid (ask D 0 4 = 0 ∧ rgot D 0 4 = D) := by
      have h1 : ask D 0 4 = 0 := ask_ok (by decide) (by rw [hD4]; decide)
      refine ⟨h1, ?_⟩
      unfold rgot
      rw [if_pos h1]
      show (D.take 4).drop 0 = D
      rw [List.drop_zero, List.take_of_length_le (by omega)]
    have HD4 := Lib.hid hD4
    clear hD4
    obtain ⟨F, hF⟩ : ∃ F, F = fixedV D := ⟨_, rfl⟩
    obtain ⟨S, hS⟩ : ∃ S, S = csum T := ⟨_, rfl⟩
    rw [← hF] at hfl HK1 HK2
    rw [← hS] at hcl HK1 HK2
    have HF := Lib.hid hF
    have HS := Lib.hid hS
    clear hF hS
    have hfi : (F : Int) ≤ 4294967295 := by omega
    have hsi : (S : Int) ≤ 4294967295 := by omega
    obtain ⟨B, hB⟩ : ∃ B : Bool, ((F : Int) != (S : Int)) = B := ⟨_, rfl⟩
    have HB := Lib.hid hB
    go_enter Tryd.func85, Tryd.ntmps85
    go_wp2_with (refine wpList_sliceFrom (o := ⟨some 16, _, _, _, _, _⟩) (f := BV) (HROW.out w (Below.refl _ _)) n hnl Tryd.underlying23 infoB rfl _ _ rfl rfl .i64 _ rfl (by omega) ?_)
    intro v16 hr16
    rw [HDe.out] at hr16
    have HN := Lib.hid (newReader_any v16 D w hr16 (by rw [HD4.out]; decide))
    clear hr16
    go_wp2_with fail
    refine HN.out.mono ?_
    rintro e w1 ⟨rfl, hrd1, hb1⟩
    have HFx := fixed32_any ea _ v16 D 0 w1 hrd1 (HE1.out w1 hb1) (HE2.out w1 hb1)
    rw [hask.out.1, hask.out.2, EV_zero, ← HF.out] at HFx
    have HFx := Lib.hid HFx
    have hsz := hb1.size
    clear HN hrd1
    go_wp2_with fail
    refine HFx.out.mono ?_
    rintro e w2 ⟨rfl, -, hg2⟩
    have hb2 := hb1.grown hg2 hsz (fun k hk => by cases hk; exact Nat.le_refl _)
    clear HFx hg2 hb1 hsz
    go_wp2_with (refine wpList_sliceTo (o := ⟨some 29, _, _, _, _, _⟩) (f := BV) (HROW.out w2 hb2) n hnl Tryd.underlying23 infoB rfl _ _ rfl rfl .i64 _ rfl (by omega) ?_)
    intro v29 hr29
    rw [HTe.out] at hr29
    obtain ⟨a29, c29, rfl, -, -⟩ := hr29.shape
    have HC := csum1_any w2 23 _ T hr29 hTl
    rw [← HS.out] at HC
    have HC := Lib.hid HC
    clear hr29
    cases B
    · have hq : F = S := by have := HB.out; simp at this; omega
      obtain ⟨hk1, hk2⟩ := HK1.out hq
      have hk1 := Lib.hid hk1
      have hk2 := Lib.hid hk2
      clear hq
      go_wp2_with fail
      refine HC.out.mono ?_
      rintro e w3 ⟨rfl, hb3⟩
      have hbe3 := hb2.trans (hb3.mono hb2.size)
      clear HC hb3 hb2
      go_wp2_with (refine wpList_sliceTo (o := ⟨some 36, _, _, _, _, _⟩) (f := BV) (HROW.out w3 hbe3) n hnl Tryd.underlying23 infoB rfl _ _ rfl rfl .i64 _ rfl (by omega) ?_)
      intro v36 hr36
      rw [HTe.out] at hr36
      have HCl := Lib.hid (clone_any v36 T w3 hr36 (by omega))
      clear hr36
      go_wp2_with fail
      refine HCl.out.mono ?_
      rintro e w4 ⟨v4, rfl, ho4, hb4⟩
      go_wp2_with fail
      go_ret2
      exact ⟨v4, ret2 rfl (by rw [hk1.out]; rfl), by rw [hk2.out]; exact ho4.mono hbe3.size, hbe3.trans (hb4.mono hbe3.size)⟩
    · have hq : ¬ F = S := by have := HB.out; simp at this; omega
      obtain ⟨hk1, hk2⟩ := HK2.out hq
      have hk1 := Lib.hid hk1
      have hk2 := Lib.hid hk2
      clear hq
      go_wp2_with fail
      refine HC.out.mono ?_
      rintro e w3 ⟨rfl, hb3⟩
      have hbe3 := hb2.trans (hb3.mono hb2.size)
      have he := HE18.out w3 hbe3
      unfold ErrAt at he
      clear HC hb3 hb2
      go_wp2_with fail
      go_region
      all_goals go_wp2
      all_goals go_ret2
      all_goals exact ⟨.slice none 0 0, ret2 rfl (by rw [hk1.out]; rfl), by rw [hk2.out]; exact OwnB.nil _ _, hbe3.drew⟩
theorem openK_sealed (bs : List UInt8) : openK (sealed bs) = 0 := by
  refine openK_ok (by rw [sealed_len]; omega) ?_
  rw [sealed_drop, sealed_take, fput_put, fixedV_put]
  exact Nat.mod_eq_of_lt (csum_lt bs)
theorem opened_sealed (bs : List UInt8) : opened (sealed bs) = bs := by
  unfold opened
  rw [if_pos (openK_sealed bs), sealed_take]
end Go.Proofs.YtgehbabcpmkgaaaDoor
