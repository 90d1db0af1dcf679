/- The walk of VarintParses: the number with which all bytes begin, and all numbers of them. -/
import Derived.Test.YtepogpihmpdeaaaDoorVall
import Derived.Test.YtepogpihmpdeaaaDoorSameN
import Derived.Test.YtepogpihmpdeaaaDoorAlive02
import Derived.Test.YtepogpihmpdeaaaDoorErrs
import Derived.Test.YtepogpihmpdeaaaDoorBytes
namespace Go.Proofs.YtepogpihmpdeaaaDoor
open Go Go.RowKit
theorem vparse_k (bs : List UInt8) : (vparse 0 0 bs).2.2 ≤ 19 := by
  rcases vref_size bs with h | h | h
  · omega
  · rw [h]; decide
  · rw [h]; decide
theorem vall_k (bs : List UInt8) : (vall bs).2 ≤ 19 := by
  rcases vallA_err bs.length [] bs with h | h | h <;> (unfold vall; omega)
theorem vallA_len : ∀ (f : Nat) (out : List Nat) (l : List UInt8), (vallA f out l).1.length ≤ out.length + l.length
  | f, out, [] => by rw [vallA_nil]; simp
  | 0, out, _ :: _ => by simp [vallA]
  | f + 1, out, x :: xs => by
    rcases vref_size (x :: xs) with h | h | h
    · simp only [vallA, h.1, if_true]
      refine Nat.le_trans (vallA_len f _ _) ?_
      have h1 := h.2.1
      have h2 := h.2.2.1
      rw [List.length_append, List.length_drop, List.length_singleton]; omega
    · simp [vallA, h]
    · simp [vallA, h]
theorem bne_self_int (n : Int) : (n != n) = false := by simp
set_option maxRecDepth 100000 in
theorem walkVarintParses (w : World) (v : Value) (bs : List UInt8) (hr : RowB w v bs) (ea : Nat → Addr) (he : ErrsAll ea w) :
    Calls Tryd.prog 7 #[v] w fun e w' => e = .returned (.bool true) ∧ Below w.heap.size w w' := by
  obtain ⟨a, c, rfl, _, _⟩ := hr.gen.shape
  go_enter Tryd.func7, Tryd.ntmps7
  go_wp2_with fail
  refine (alive02 ea w he.e2 he.e4).mono ?_
  rintro e w1 ⟨rfl, hb1⟩
  by_cases hl : 400 < bs.length
  · clear hr he
    go_wp2_with fail
    go_ret
    exact ⟨rfl, hb1⟩
  · have he1 := he.stays hb1
    have hc := Lib.hid (bytes_any _ bs w1 (hr.stays hb1) (by omega))
    clear he
    go_wp2_with fail
    refine hc.out.mono ?_
    rintro e w2 ⟨v2, rfl, hm2, hb2⟩
    have he2 := he1.stays hb2
    have hbe2 := hb1.trans (hb2.mono hb1.size)
    have hc2 := Lib.hid (vParse_any ea v2 bs w2 hm2.row (by omega) he2.e2 he2.e4)
    have hk := vparse_k bs
    clear he1 hb1 hb2 hc
    generalize hP : vparse 0 0 bs = P at *
    have HP := Lib.hid hP
    clear hP
    go_wp2_with fail
    refine hc2.out.mono ?_
    rintro e w3 ⟨rfl, hb3⟩
    have he3 := he2.stays hb3
    have hm3 := hm2.stays hb3
    have hbe3 := hbe2.trans (hb3.mono hbe2.size)
    have hc3 := vParseR_any _ bs w3 (hr.stays hbe3) (by omega)
    rw [HP.out] at hc3
    have HC := Lib.hid hc3
    clear hc2 hc3 he2 hm2 hbe2 hb3
    go_wp2_with fail
    refine HC.out.mono ?_
    rintro e w4 ⟨rfl, rfl⟩
    have e1 := bne_self_int (P.1 : Int)
    have e2 := bne_self_int (P.2.1 : Int)
    have e3 := bne_self_int (P.2.2 : Int)
    have hn := Lib.hid (num_any ea P.2.2 hk w3 he3)
    clear HC
    go_wp2_with fail
    refine hn.out.mono ?_
    rintro e w5 ⟨rfl, hb5⟩
    have he5 := he3.stays hb5
    have hm5 := hm3.stays hb5
    have hbe5 := hbe3.trans (hb5.mono hbe3.size)
    have hc5 := Lib.hid (vAll_any ea v2 bs w5 hm5.row (by omega) he5.e2 he5.e4)
    have hka := vall_k bs
    have hla := vallA_len bs.length [] bs
    have e4 := bne_self_int ((vall bs).2 : Int)
    clear hn he3 hm3 hbe3 hb5
    go_wp2_with fail
    refine hc5.out.mono ?_
    rintro e w6 ⟨v6, rfl, how6, hb6⟩
    have he6 := he5.stays hb6
    have hm6 := hm5.stays hb6
    have hbe6 := hbe5.trans (hb6.mono hbe5.size)
    have hc6 := Lib.hid (vAllR_any _ bs w6 (hr.stays hbe6) (by omega))
    clear hc5 he5 hm5 hbe5 hb6
    go_wp2_with fail
    refine hc6.out.mono ?_
    rintro e w7 ⟨v7, rfl, how7, hb7⟩
    have he7 := he6.stays hb7
    have hm7 := hm6.stays hb7
    have hbe7 := hbe6.trans (hb7.mono hbe6.size)
    have hr7 := (OwnL.row how6).stays hb7
    have hs := sameN_any v6 v7 _ _ w7 hr7 (OwnL.row how7) (by unfold vall; simp at hla; omega) (by unfold vall; simp at hla; omega)
    rw [decide_eq_true (rfl : (vall bs).1 = (vall bs).1)] at hs
    have HS := Lib.hid hs
    clear hc6 hs he6 hm6 hbe6 hb7 hr7 how6 how7 hla
    go_wp2_with fail
    refine HS.out.mono ?_
    rintro e w8 ⟨rfl, hb8⟩
    have he8 := he7.stays hb8
    have hm8 := hm7.stays hb8
    have hbe8 := hbe7.trans (hb8.mono hbe7.size)
    have hn8 := Lib.hid (num_any ea (vall bs).2 hka w8 he8)
    clear HS he7 hm7 hbe7 hb8
    go_wp2_with fail
    refine hn8.out.mono ?_
    rintro e w9 ⟨rfl, hb9⟩
    have hm9 := hm8.stays hb9
    have hbe9 := hbe8.trans (hb9.mono hbe8.size)
    have hk9 := Lib.hid (kept_any _ v2 _ bs w9 hm9 (hr.stays hbe9) (by omega))
    clear hn8 he8 hm8 hbe8 hb9
    go_wp2_with fail
    refine hk9.out.mono ?_
    rintro e w10 ⟨rfl, rfl⟩
    go_wp2_with fail
    go_ret
    exact ⟨rfl, hbe9⟩
end Go.Proofs.YtepogpihmpdeaaaDoor
