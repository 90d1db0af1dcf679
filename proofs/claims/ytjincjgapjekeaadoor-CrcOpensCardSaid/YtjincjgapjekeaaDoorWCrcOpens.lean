/- The walk of CrcOpens: which bytes are sealed, and what is opened of them. -/
import Derived.Test.YtjincjgapjekeaaDoorAlive05
import Derived.Test.YtjincjgapjekeaaDoorBytes
import Derived.Test.YtjincjgapjekeaaDoorCrcR
import Derived.Test.YtjincjgapjekeaaDoorAskR
import Derived.Test.YtjincjgapjekeaaDoorStr
import Derived.Deep.RegionHeld3
namespace Go.Proofs.YtjincjgapjekeaaDoor
open Go Go.RowKit
set_option linter.unusedVariables false
theorem RowL.to {α : Type} {f : α → Value} {w : World} {a : Option Addr} {c : Nat} {xs : List α} (h : RowL f w (.slice a xs.length c) xs) (m : Nat) (hm : m ≤ xs.length) : RowL f w (.slice a m c) (xs.take m) := by
  have hl : (xs.take m).length = m := by simp; omega
  unfold RowL
  rw [hl]
  rcases h with ⟨h1, h2, _⟩ | ⟨b, o, c', hv, h1, h2, h3, h4⟩
  · obtain rfl : m = 0 := by omega
    exact .inl ⟨rfl, by simp, a, c, rfl⟩
  · cases hv
    refine .inr ⟨b, o, c, rfl, by omega, h2, h3, fun j u hu => h4 j u ?_⟩
    rw [List.getElem?_map, List.getElem?_take] at hu
    rw [List.getElem?_map]
    split at hu
    · exact hu
    · simp at hu
theorem openK_le (bs : List UInt8) : openK bs ≤ 19 := by unfold openK; split <;> (try split) <;> decide
theorem opened_len (bs : List UInt8) : (opened bs).length ≤ bs.length := by
  unfold opened; split
  · simp
  · simp
/-- what the law asks of it: in one of three ways -/
theorem open_cases (bs : List UInt8) :
    (bs.length < 4 ∧ openK bs = 2 ∧ opened bs = []) ∨
    (4 ≤ bs.length ∧ (csum (bs.take (bs.length - 4)) ≠ fixedV ((bs.drop (bs.length - 4)).take 4)) ∧ openK bs = 18 ∧ opened bs = []) ∨
    (4 ≤ bs.length ∧ (csum (bs.take (bs.length - 4)) = fixedV ((bs.drop (bs.length - 4)).take 4)) ∧ openK bs = 0 ∧ opened bs = bs.take (bs.length - 4)) := by
  by_cases h4 : bs.length < 4
  · exact .inl ⟨h4, openK_short h4, by unfold opened; rw [openK_short h4]; rfl⟩
  · have e : (bs.drop (bs.length - 4)).take 4 = bs.drop (bs.length - 4) := List.take_of_length_le (by simp; omega)
    rw [e]
    by_cases h2 : fixedV (bs.drop (bs.length - 4)) = csum (bs.take (bs.length - 4))
    · exact .inr (.inr ⟨by omega, h2.symm, openK_ok h4 h2, by unfold opened; rw [openK_ok h4 h2]; rfl⟩)
    · exact .inr (.inl ⟨by omega, fun h => h2 h.symm, openK_sum h4 h2, by unfold opened; rw [openK_sum h4 h2]; rfl⟩)
set_option maxRecDepth 100000 in
set_option maxHeartbeats 2000000 in
theorem walkCrcOpens (w : World) (v : Value) (bs : List UInt8) (hr : RowB w v bs) (ea : Nat → Addr) (he : ErrsAll ea w) :
    Calls Tryd.prog 9 #[v] w fun e w' => e = .returned (.bool true) ∧ Below w.heap.size w w' := by
  obtain ⟨a, c, rfl, -, -⟩ := hr.gen.shape
  have HA := Lib.hid (alive05 ea w he.e1 he.e2 he.e18)
  have HE : Hid (∀ w', Below w.heap.size w w' → ErrsAll ea w') := fun w' hb => he.stays hb
  have HROW : Hid (∀ w', Below w.heap.size w w' → RowB w' (.slice a bs.length c) bs) := fun w' hb => hr.stays hb
  clear he hr
  go_enter Tryd.func9, Tryd.ntmps9
  go_wp2_with fail
  refine HA.out.mono ?_
  rintro e w1 ⟨rfl, hb1⟩
  clear HA
  by_cases hl : 400 < bs.length
  · go_wp2_with fail
    go_ret
    exact ⟨rfl, hb1⟩
  · have HB := Lib.hid (bytes_any _ bs w1 (HROW.out _ hb1) (by omega))
    go_wp2_with fail
    refine HB.out.mono ?_
    rintro e w2 ⟨v3, rfl, hm2, hb2⟩
    have hbe2 := hb1.trans (hb2.mono hb1.size)
    have HO := Lib.hid (open_any ea v3 bs w2 hm2.row (by omega) (HE.out _ hbe2).e1 (HE.out _ hbe2).e2 (HE.out _ hbe2).e18)
    clear HB hb1 hb2
    go_wp2_with fail
    refine HO.out.mono ?_
    rintro e w3 ⟨v4, rfl, ho3, hb3⟩
    have hm3 := hm2.stays hb3
    have hbe3 := hbe2.trans (hb3.mono hbe2.size)
    clear HO hm2 hb3 hbe2
    have HKp := Lib.hid (fun w' (hb : Below w3.heap.size w3 w') => kept_any _ v3 _ bs w' (hm3.stays hb) (HROW.out _ (hbe3.trans (hb.mono hbe3.size))) (by omega))
    have HR := Lib.hid (fun w' (hb : Below w3.heap.size w3 w') => right_any ea v3 bs w' (hm3.stays hb).row (by omega) (HE.out _ (hbe3.trans (hb.mono hbe3.size))).e1 (HE.out _ (hbe3.trans (hb.mono hbe3.size))).e2 (HE.out _ (hbe3.trans (hb.mono hbe3.size))).e18)
    have HO : Hid (∀ w', Below w3.heap.size w3 w' → OwnB w2.heap.size w' v4 (opened bs)) := fun w' hb => ho3.stays hb
    have hbd : Below w3.heap.size w3 w3.drew := (Below.refl _ _).drew
    have hcs := open_cases bs
    obtain ⟨a4, c4, rfl, -, -⟩ := ho3.row.gen.shape
    clear ho3 hm3
    obtain ⟨O, hO⟩ : ∃ O, O = opened bs := ⟨_, rfl⟩
    obtain ⟨K, hK⟩ : ∃ K, K = openK bs := ⟨_, rfl⟩
    rw [← hO] at HO hcs ⊢
    rw [← hK] at HR hcs ⊢
    clear hO hK
    rcases hcs with ⟨h4, rfl, rfl⟩ | ⟨h4, hne, rfl, rfl⟩ | ⟨h4, heq, rfl, rfl⟩
    · have z2 : ((2 : Nat) == 0) = false := rfl
      rw [z2] at HR
      rw [EV_pos ea (show (2 : Nat) ≠ 0 by decide)]
      go_wp2_with fail
      go_region_held3 (fun w' => Below w3.heap.size w3 w')
        (assumption)
        ((first
          | (go_at_call 15; refine (HKp.out _ (by assumption)).mono ?_; rintro e wA ⟨rfl, rfl⟩)
          | (go_at_call 38; refine (HR.out _ (by assumption)).mono ?_; rintro e wA ⟨rfl, hbA⟩; have hbB := Below.trans (B := w3.heap.size) (a := w3) (by assumption) (hbA.mono (Below.size (by assumption))))))
      all_goals
        have hbe4 := hbe3.trans (hbB.mono hbe3.size)
        have hN := num_any ea 2 (by decide) wA (HE.out _ hbe4)
        rw [EV_pos ea (show (2 : Nat) ≠ 0 by decide)] at hN
        have HN := Lib.hid hN
        clear HKp HR HO hbA hbB hN
        go_wp2_with fail
        refine HN.out.mono ?_
        rintro e w5 ⟨rfl, hb5⟩
        have hbe5 := hbe4.trans (hb5.mono hbe4.size)
        clear HN hb5 hbe4
        go_wp2_with fail
        go_ret
        exact ⟨rfl, hbe5⟩
    · have z2 : ((18 : Nat) == 0) = false := rfl
      rw [z2] at HR
      rw [EV_pos ea (show (18 : Nat) ≠ 0 by decide)]
      obtain ⟨n, hn⟩ : ∃ n, n = bs.length - 4 := ⟨_, rfl⟩
      rw [← hn] at hne
      have hni : (bs.length : Int) - 4 = (n : Int) := by omega
      have hnl : n + 4 ≤ bs.length := by omega
      have hTl : (bs.take n).length ≤ 1000000 := by simp; omega
      have hnl2 : n ≤ bs.length := by omega
      have hS := csum_lt (bs.take n)
      obtain ⟨S, hSe⟩ : ∃ S, S = csum (bs.take n) := ⟨_, rfl⟩
      obtain ⟨F, hFe⟩ : ∃ F, F = fixedV ((bs.drop n).take 4) := ⟨_, rfl⟩
      rw [← hSe] at hne hS
      rw [← hFe] at hne
      have hsf : ((S : Int) != (F : Int)) = true := by simp; omega
      have hSi : (S : Int) ≤ 4294967295 := by omega
      have HSe := Lib.hid hSe
      have HFe := Lib.hid hFe
      clear hn hne hSe hFe hS z2
      go_wp2_with fail
      go_region_held3 (fun w' => Below w3.heap.size w3 w')
        (assumption)
        ((first
          | (go_at_call 15; refine (HKp.out _ (by assumption)).mono ?_; rintro e wA ⟨rfl, rfl⟩)
          | (go_at_call 38; refine (HR.out _ (by assumption)).mono ?_; rintro e wA ⟨rfl, hbA⟩; have hbB := Below.trans (B := w3.heap.size) (a := w3) (by assumption) (hbA.mono (Below.size (by assumption))))))
      all_goals
        have hbe4 := hbe3.trans (hbB.mono hbe3.size)
        have hN := fun w' (hb : Below w.heap.size w w') => num_any ea 18 (by decide) w' (HE.out _ hb)
        rw [EV_pos ea (show (18 : Nat) ≠ 0 by decide)] at hN
        have HN := Lib.hid hN
        have HFx := rfixed_any _ bs n 4 wA (HROW.out _ hbe4) (by omega) (by decide) hnl
        rw [← HFe.out] at HFx
        have HFx := Lib.hid HFx
        clear HKp HR HO hbA hbB hN
        go_wp2_with (refine wpList_sliceTo (o := ⟨some 45, _, _, _, _, _⟩) (f := BV) (HROW.out wA hbe4) n hnl2 Tryd.underlying22 infoB rfl _ _ rfl rfl .i64 _ rfl (by omega) ?_)
        intro v45 hr45
        have HSm := rsum_any v45 (bs.take n) wA hr45 hTl
        rw [← HSe.out] at HSm
        have HSm := Lib.hid HSm
        clear hr45
        go_wp2_with fail
        refine HSm.out.mono ?_
        rintro e w5 ⟨rfl, rfl⟩
        clear HSm
        go_wp2_with fail
        refine HFx.out.mono ?_
        rintro e w5 ⟨rfl, rfl⟩
        clear HFx
        go_wp2_with fail
        refine (HN.out _ hbe4).mono ?_
        rintro e w5 ⟨rfl, hb5⟩
        have hbe5 := hbe4.trans (hb5.mono hbe4.size)
        clear HN hb5 hbe4
        go_wp2_with fail
        go_ret
        exact ⟨rfl, hbe5⟩
    · have z2 : ((0 : Nat) == 0) = true := rfl
      rw [z2] at HR
      rw [EV_zero]
      obtain ⟨n, hn⟩ : ∃ n, n = bs.length - 4 := ⟨_, rfl⟩
      rw [← hn] at heq HO ⊢
      have hni : (bs.length : Int) - 4 = (n : Int) := by omega
      have hnl : n + 4 ≤ bs.length := by omega
      have hTl : (bs.take n).length ≤ 1000000 := by simp; omega
      have hnl2 : n ≤ bs.length := by omega
      have hS := csum_lt (bs.take n)
      obtain ⟨S, hSe⟩ : ∃ S, S = csum (bs.take n) := ⟨_, rfl⟩
      obtain ⟨F, hFe⟩ : ∃ F, F = fixedV ((bs.drop n).take 4) := ⟨_, rfl⟩
      rw [← hSe] at heq hS
      rw [← hFe] at heq
      have hsf : ((S : Int) != (F : Int)) = false := by simp; omega
      have hSi : (S : Int) ≤ 4294967295 := by omega
      have HSe := Lib.hid hSe
      have HFe := Lib.hid hFe
      clear hn heq hSe hFe hS z2
      obtain ⟨X, hX⟩ : ∃ X, X = bs.take n := ⟨_, rfl⟩
      rw [← hX] at HO HSe hTl ⊢
      have HX := Lib.hid hX
      clear hX
      go_wp2_with fail
      go_region_held3 (fun w' => Below w3.heap.size w3 w')
        (assumption)
        ((first
          | (go_at_call 15; refine (HKp.out _ (by assumption)).mono ?_; rintro e wA ⟨rfl, rfl⟩)
          | (go_at_call 38; refine (HR.out _ (by assumption)).mono ?_; rintro e wA ⟨rfl, hbA⟩; have hbB := Below.trans (B := w3.heap.size) (a := w3) (by assumption) (hbA.mono (Below.size (by assumption))))))
      all_goals
        have hbe4 := hbe3.trans (hbB.mono hbe3.size)
        have HFx := rfixed_any _ bs n 4 wA (HROW.out _ hbe4) (by omega) (by decide) hnl
        rw [← HFe.out] at HFx
        have HFx := Lib.hid HFx
        have hrow := (HROW.out _ hbe4).gen.to n hnl2
        rw [← HX.out] at hrow
        have hcap := (HROW.out _ hbe4).gen.cap
        have hcapi : (n : Int) ≤ c := by omega
        have c4 : (convert 22 9 (.slice a4 X.length c4)).run Tryd.prog wA.drew = .ok (.string (strB X)) wA.drew := convert_str ((HO.out _ hbB).row.stays (Below.refl _ _).drew)
        have c5 : (convert 22 9 (.slice a n c)).run Tryd.prog wA.drew = .ok (.string (strB X)) wA.drew := convert_str (RowB.stays hrow (Below.refl _ _).drew)
        clear HKp HR HO hbA hbB hrow
        go_wp2_with (refine wpList_sliceTo (o := ⟨some 45, _, _, _, _, _⟩) (f := BV) (HROW.out wA hbe4) n hnl2 Tryd.underlying22 infoB rfl _ _ rfl rfl .i64 _ rfl (by omega) ?_)
        intro v45 hr45
        rw [← HX.out] at hr45
        have HSm := rsum_any v45 X wA hr45 hTl
        rw [← HSe.out] at HSm
        have HSm := Lib.hid HSm
        clear hr45
        go_wp2_with fail
        refine HSm.out.mono ?_
        rintro e w5 ⟨rfl, rfl⟩
        clear HSm
        go_wp2_with fail
        refine HFx.out.mono ?_
        rintro e w5 ⟨rfl, rfl⟩
        clear HFx
        have se : ((strB X).toList == (strB X).toList) = true := by simp
        go_wp2_with fail
        go_region
        all_goals
          go_wp2_with fail
          go_ret
          exact ⟨rfl, hbe4.drew⟩
end Go.Proofs.YtjincjgapjekeaaDoor
