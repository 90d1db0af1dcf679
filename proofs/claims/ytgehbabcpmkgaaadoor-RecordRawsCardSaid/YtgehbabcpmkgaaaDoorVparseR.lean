/- The reference's Parse answers as varint.Parse does. All bytes. -/
import Derived.Test.YtgehbabcpmkgaaaDoorVmath
import Derived.BigQuiet
import Derived.Deep.QuietTactic
namespace Go.Proofs.YtgehbabcpmkgaaaDoor
open Go Go.RowKit
set_option linter.unusedVariables false
theorem vref_none {bs : List UInt8} (h : vend 10 bs = 10) : vparse 0 0 bs = (0, 0, 4) := by
  rw [vref_eq bs 0 0 (by omega)]
  simp only [vref, Nat.sub_zero, h]
  rw [if_pos (.inl trivial)]
theorem vref_last {bs : List UInt8} {x : UInt8} (h : vend 10 bs = 9) (hl : 9 < bs.length) (hx : bs.getD 9 0 = x) (h1 : 1 < x.toNat) : vparse 0 0 bs = (0, 0, 4) := by
  rw [vref_eq bs 0 0 (by omega)]
  simp only [vref, Nat.sub_zero, h, hx]
  rw [if_pos (.inr ⟨trivial, hl, h1⟩)]
theorem vref_short {bs : List UInt8} (h : vend 10 bs = bs.length) (h10 : bs.length ≠ 10) : vparse 0 0 bs = (0, 0, 2) := by
  rw [vref_eq bs 0 0 (by omega)]
  simp only [vref, Nat.sub_zero, h]
  rw [if_neg (by rintro (h | ⟨_, h, _⟩) <;> omega), if_pos trivial]
theorem vref_ok {bs : List UInt8} {x : UInt8} {k : Nat} (h : vend 10 bs = k) (hl : k < bs.length) (h10 : k ≠ 10) (hx : bs.getD k 0 = x) (h9 : ¬ (k = 9 ∧ 1 < x.toNat)) : vparse 0 0 bs = (vval (bs.take (k + 1)), k + 1, 0) := by
  rw [vref_eq bs 0 0 (by omega)]
  simp only [vref, Nat.sub_zero, h, hx]
  rw [if_neg (by rintro (h | ⟨h, _, h'⟩); omega; exact h9 ⟨by omega, h'⟩), if_neg (by omega)]
  simp
set_option maxRecDepth 100000 in
theorem vParseR_any (v : Value) (bs : List UInt8) (w : World) (hr : RowB w v bs) (hlen : bs.length ≤ 1000000) :
    Calls Tryd.prog 93 #[v] w fun e w' => e = .returned (.tuple #[.int .u64 (vparse 0 0 bs).1, .int .i64 (vparse 0 0 bs).2.1, .int .i64 (vparse 0 0 bs).2.2]) ∧ w = w' := by
  obtain ⟨a, c, rfl, _, hin⟩ := hr.gen.shape
  clear hr
  have HI := Lib.hid hin
  clear hin
  go_enter Tryd.func93, Tryd.ntmps93
  go_wp2_with fail
  go_loopw [5] (fun i wr => ∃ k : Nat, k ≤ 10 ∧ k ≤ bs.length ∧ i = .int .i64 k ∧ Hid (k + vend (10 - k) (bs.drop k) = vend 10 bs) ∧ wr = w) (fun i _ => 10 - (intOf i).toNat)
  case atStart => exact ⟨0, by omega, by omega, rfl, by simp [Hid], rfl⟩
  case round =>
    obtain ⟨k, hk, hkl, rfl, hve', rfl⟩ := hrel
    by_cases h10 : k = 10
    · subst h10
      have HR := Lib.hid (vref_none (bs := bs) (by have := hve'.out; simpa [vend] using this.symm))
      clear hve'
      go_wp2_with fail
      all_goals go_ret3
      all_goals exact ⟨by rw [HR.out]; rfl, rfl⟩
    · by_cases hlt : k < bs.length
      · obtain ⟨x, hx⟩ : ∃ x, bs[k]? = some x := ⟨_, List.getElem?_eq_getElem hlt⟩
        obtain ⟨b, o, rfl, hcb⟩ := HI.out k x hx
        rw [BV_def] at hcb
        have hx255 : x.toNat ≤ 255 := by have := x.toNat_lt; omega
        have hgd : (bs.getD k 0) = x := by rw [List.getD_eq_getElem?_getD, hx]; rfl
        have hdr := List.drop_eq_getElem_cons hlt
        have hxx : bs[k] = x := by rw [List.getElem?_eq_getElem hlt] at hx; exact Option.some.inj hx
        rw [hxx] at hdr
        obtain ⟨m, hm⟩ : ∃ m, 10 - k = m + 1 := ⟨9 - k, by omega⟩
        have hv := hve'.out
        rw [hm, hdr] at hv
        simp only [vend] at hv
        by_cases hx1 : 128 ≤ x.toNat
        · rw [if_pos hx1] at hv
          have HV : Hid (k + 1 + vend (10 - (k + 1)) (bs.drop (k + 1)) = vend 10 bs) := by
            rw [show 10 - (k + 1) = m from by omega]; show _ = _; omega
          clear hv hx hgd hdr hxx hm
          go_wp2_with fail
          go_roundw
          case rel => exact ⟨k + 1, by omega, by omega, by go_num, HV, trivial⟩
          case measure => simp [intOf]; omega
        · rw [if_neg hx1] at hv
          have hve2 : vend 10 bs = k := by omega
          clear hv hdr hxx hm hve'
          by_cases h91 : k = 9 ∧ 1 < x.toNat
          · obtain ⟨h9, h91⟩ := h91
            subst h9
            have HR := Lib.hid (vref_last hve2 hlt hgd h91)
            clear hve2 hx hgd
            go_wp2_with fail
            go_ret3
            exact ⟨by rw [HR.out]; rfl, rfl⟩
          · have HR := Lib.hid (vref_ok hve2 hlt h10 hgd h91)
            have hbd := Lib.hid (vval_bound bs k hlt (by rw [hgd]; by_cases h9 : k = 9; right; exact ⟨h9, by omega⟩; left; omega))
            have htl : Hid ((bs.take (k + 1)).length = k + 1) := by show _ = _; simp; omega
            clear hve2 hx hgd
            have hloop : k ≠ 9 ∨ x.toNat ≤ 1 := by omega
            clear h91
            rcases Classical.em (k = 9) with h9 | h9
            · have h9b : ((k : Int) == 9) = true := by simp; omega
              have hx1' : x.toNat ≤ 1 := by omega
              have hk9 : k ≤ 9 := by omega
              have h10b : ((k : Int) == 10) = false := by simp; omega
              have hx1b : decide (1 < (x.toNat : Int)) = false := by simp; omega
              clear h9 hloop
              go_wp2_with fail
              go_loopw [6, 7] (fun n i wr' => ∃ m : Nat, m ≤ k + 1 ∧ i = .int .i64 ((m : Int) - 1) ∧ n = .int .u64 (vval ((bs.take (k + 1)).drop m)) ∧ wr' = wr) (fun _ i _ => (intOf i + 1).toNat)
              case atStart => exact ⟨k + 1, Nat.le_refl _, vint (by omega), vint (by rw [List.drop_eq_nil_of_le (by rw [htl.out]; exact Nat.le_refl _)]; rfl), rfl⟩
              case round =>
                obtain ⟨m, hm, hi, rfl, rfl⟩ := hrel
                cases m with
                | zero =>
                  obtain rfl := hi
                  go_wp2_with fail
                  go_ret3
                  exact ⟨by rw [HR.out]; exact ret3 (vint (by rw [List.drop_zero])) (vint (by show (k : Int) + 1 = ((k + 1 : Nat) : Int); push_cast; rfl)) rfl, rfl⟩
                | succ m =>
                  obtain rfl := hi.trans (vint (show ((m + 1 : Nat) : Int) - 1 = (m : Int) from by omega))
                  clear hi
                  have hml : m < bs.length := by omega
                  obtain ⟨y, hy⟩ : ∃ y, bs[m]? = some y := ⟨_, List.getElem?_eq_getElem hml⟩
                  obtain ⟨b', o', hbo, hcy⟩ := HI.out m y hy
                  cases hbo
                  rw [BV_def] at hcy
                  have hdm : (bs.take (k + 1)).drop m = y :: (bs.take (k + 1)).drop (m + 1) := by
                    rw [List.drop_eq_getElem_cons (by rw [htl.out]; omega), List.getElem_take]
                    congr 1
                    rw [List.getElem?_eq_getElem hml] at hy; exact Option.some.inj hy
                  have hvd := vval_drop m (bs.take (k + 1))
                  rw [hdm] at hvd
                  simp only [vval] at hvd
                  have hbd' := hbd.out
                  have hval : Hid (vval ((bs.take (k + 1)).drop m) = y.toNat % 128 + 128 * vval ((bs.take (k + 1)).drop (m + 1))) := by show _ = _; rw [hdm]; rfl
                  generalize vval ((bs.take (k + 1)).drop (m + 1)) = q at *
                  have hq : (q : Int) * 128 + (y.toNat : Int) % 128 ≤ 18446744073709551615 := by omega
                  have hq1 : (q : Int) * 128 ≤ 18446744073709551615 := by omega
                  have hy255 : y.toNat ≤ 255 := by have := y.toNat_lt; omega
                  clear hvd hbd' hdm hy
                  go_wp2_with fail
                  go_roundw
                  case rel => exact ⟨m, by omega, rfl, vint (by rw [hval.out]; omega), trivial⟩
                  case measure => simp [intOf]
            · clear hloop
              go_wp2_with fail
              go_loopw [6, 7] (fun n i wr' => ∃ m : Nat, m ≤ k + 1 ∧ i = .int .i64 ((m : Int) - 1) ∧ n = .int .u64 (vval ((bs.take (k + 1)).drop m)) ∧ wr' = wr) (fun _ i _ => (intOf i + 1).toNat)
              case atStart => exact ⟨k + 1, Nat.le_refl _, vint (by omega), vint (by rw [List.drop_eq_nil_of_le (by rw [htl.out]; exact Nat.le_refl _)]; rfl), rfl⟩
              case round =>
                obtain ⟨m, hm, hi, rfl, rfl⟩ := hrel
                cases m with
                | zero =>
                  obtain rfl := hi
                  go_wp2_with fail
                  go_ret3
                  exact ⟨by rw [HR.out]; exact ret3 (vint (by rw [List.drop_zero])) (vint (by show (k : Int) + 1 = ((k + 1 : Nat) : Int); push_cast; rfl)) rfl, rfl⟩
                | succ m =>
                  obtain rfl := hi.trans (vint (show ((m + 1 : Nat) : Int) - 1 = (m : Int) from by omega))
                  clear hi
                  have hml : m < bs.length := by omega
                  obtain ⟨y, hy⟩ : ∃ y, bs[m]? = some y := ⟨_, List.getElem?_eq_getElem hml⟩
                  obtain ⟨b', o', hbo, hcy⟩ := HI.out m y hy
                  cases hbo
                  rw [BV_def] at hcy
                  have hdm : (bs.take (k + 1)).drop m = y :: (bs.take (k + 1)).drop (m + 1) := by
                    rw [List.drop_eq_getElem_cons (by rw [htl.out]; omega), List.getElem_take]
                    congr 1
                    rw [List.getElem?_eq_getElem hml] at hy; exact Option.some.inj hy
                  have hvd := vval_drop m (bs.take (k + 1))
                  rw [hdm] at hvd
                  simp only [vval] at hvd
                  have hbd' := hbd.out
                  have hval : Hid (vval ((bs.take (k + 1)).drop m) = y.toNat % 128 + 128 * vval ((bs.take (k + 1)).drop (m + 1))) := by show _ = _; rw [hdm]; rfl
                  generalize vval ((bs.take (k + 1)).drop (m + 1)) = q at *
                  have hq : (q : Int) * 128 + (y.toNat : Int) % 128 ≤ 18446744073709551615 := by omega
                  have hq1 : (q : Int) * 128 ≤ 18446744073709551615 := by omega
                  have hy255 : y.toNat ≤ 255 := by have := y.toNat_lt; omega
                  clear hvd hbd' hdm hy
                  go_wp2_with fail
                  go_roundw
                  case rel => exact ⟨m, by omega, rfl, vint (by rw [hval.out]; omega), trivial⟩
                  case measure => simp [intOf]
      · obtain rfl : k = bs.length := by omega
        have HR := Lib.hid (vref_short (bs := bs) (by have := hve'.out; rw [List.drop_length] at this; have e : ∀ c, vend c [] = 0 := fun c => by cases c <;> rfl
                                                      rw [e] at this; omega) h10)
        clear hve'
        go_wp2_with fail
        all_goals go_ret3
        all_goals exact ⟨by rw [HR.out]; rfl, rfl⟩
end Go.Proofs.YtgehbabcpmkgaaaDoor
