/- The walk of VarintPuts: every number's varint, parsed as it was, whatever stands ahead and behind. -/
import Derived.Test.YtepogpihmpdeaaaDoorVmath
import Derived.Test.YtepogpihmpdeaaaDoorVputR
import Derived.Test.YtepogpihmpdeaaaDoorAlive02
import Derived.Test.YtepogpihmpdeaaaDoorBytes
import Derived.Test.YtepogpihmpdeaaaDoorStr
namespace Go.Proofs.YtepogpihmpdeaaaDoor
open Go Go.RowKit
set_option maxRecDepth 100000 in
theorem walkVarintPuts (w : World) (n0 : Int) (hn0 : 0 ≤ n0 ∧ n0 ≤ 18446744073709551615) (v1 : Value) (xs : List UInt8) (hr1 : RowB w v1 xs) (v2 : Value) (bs : List UInt8) (hr2 : RowB w v2 bs) (ea : Nat → Addr) (he2 : ErrAt w 1 (ea 2)) (he4 : ErrAt w 0 (ea 4)) :
    Calls Tryd.prog 4 #[.int .u64 n0, v1, v2] w fun e w' => e = .returned (.bool true) ∧ Below w.heap.size w w' := by
  obtain ⟨hn1, hn2⟩ := hn0
  obtain ⟨n, rfl⟩ := Int.eq_ofNat_of_zero_le hn1
  obtain ⟨a1, c1, rfl, _, _⟩ := hr1.gen.shape
  obtain ⟨a2, c2, rfl, _, _⟩ := hr2.gen.shape
  have hnb : Hid (n < 18446744073709551616) := by show n < _; omega
  go_enter Tryd.func4, Tryd.ntmps4
  go_wp2_with fail
  refine (alive02 ea w he2 he4).mono ?_
  rintro e w1 ⟨rfl, hb1⟩
  by_cases hl1 : 200 < xs.length
  · clear hr1 hr2 he2 he4
    have d1 : decide (200 < (xs.length : Int)) = true := by simp; omega
    go_wp2_with fail
    all_goals go_ret
    all_goals exact ⟨rfl, hb1⟩
  · have d1 : decide (200 < (xs.length : Int)) = false := by simp; omega
    by_cases hl2 : 200 < bs.length
    · clear hr1 hr2 he2 he4
      have d2 : decide (200 < (bs.length : Int)) = true := by simp; omega
      go_wp2_with fail
      all_goals go_ret
      all_goals exact ⟨rfl, hb1⟩
    · have d2 : decide (200 < (bs.length : Int)) = false := by simp; omega
      have hc := Lib.hid (bytes_any _ xs w1 (hr1.stays hb1) (by omega))
      go_wp2_with fail
      refine hc.out.mono ?_
      rintro e w2 ⟨v3, rfl, hm2, hb2⟩
      have hbe2 := hb1.trans (hb2.mono hb1.size)
      have hc2 := Lib.hid (vPut_any v3 xs n w2 hnb.out (by omega) hm2.row)
      clear hc hb1 hb2
      go_wp2_with fail
      refine hc2.out.mono ?_
      rintro e w3 ⟨v4, rfl, how3, hb3⟩
      have hm3 := hm2.stays hb3
      have hbe3 := hbe2.trans (hb3.mono hbe2.size)
      have hc3 := Lib.hid (vPutR_all n w3 hnb.out)
      clear hc2 hm2 hbe2
      go_wp2_with fail
      refine hc3.out.mono ?_
      rintro e w4 ⟨v5, rfl, how4, hb4⟩
      have hm4 := hm3.stays hb4
      have hbe4 := hbe3.trans (hb4.mono hbe3.size)
      have how34 := how3.stays hb4
      have s1 := convert_str how34.row
      have s2 := convert_str (hr1.stays hbe4)
      have s3 := convert_str how4.row
      have sa := str_add xs (vput n) (by have := vput_len10 n hnb.out; omega) w4
      have se := strB_eq (xs ++ vput n) (xs ++ vput n)
      rw [decide_eq_true rfl] at se
      clear hc3 hb4 hm3 hbe3
      obtain ⟨a5, c5, hv5, _, _⟩ := how4.row.gen.shape
      subst hv5
      have hl10 := vput_len10 n hnb.out
      have hc5 := fun w => vSize_any n w hnb.out
      have HC5 := Lib.hid hc5
      have hvp := Lib.hid (vparse_put n hnb.out bs)
      clear hc5 hnb
      generalize vput n = p at *
      go_wp2_with fail
      refine (HC5.out w4).mono ?_
      rintro e w5 ⟨rfl, rfl⟩
      have e5 : ((p.length : Int) != (p.length : Int)) = false := by simp
      have hk5 := Lib.hid (kept_any _ v3 _ xs w4 hm4 (hr1.stays hbe4) (by omega))
      clear HC5 hm4 s1 s2 s3 sa se
      go_wp2_with fail
      refine hk5.out.mono ?_
      rintro e w6 ⟨rfl, rfl⟩
      clear hk5
      have how5 := how34.row.gen
      go_wp2_with (refine wpList_sliceFrom (o := ⟨some 56, _, _, _, _, _⟩) how5 xs.length (by simp) Tryd.underlying27 infoB rfl _ _ rfl (by rfl) _ _ (by rfl) rfl ?_)
      intro v6 hr6'
      have hr6 : RowB w4 v6 p := hr6'
      clear hr6' how5 how34 how4
      have hown : OwnB w4.heap.size (w4.alloc (.cells #[] 5)) (.slice (some ⟨w4.heap.size, 0, none⟩) 0 0) [] := OwnB.made w4
      have hba : Below w4.heap.size w4 (w4.alloc (.cells #[] 5)) := (Below.refl _ _).alloc (Nat.le_refl _) _
      go_wp2_with (refine wpList_appendB (o := ⟨some 57, _, _, _, _, _⟩) hown (hr6.alloc _) (by first | omega | (simp; omega)) (by simp) rfl _ _ rfl (by rfl) (by rfl) ?_)
      intro v7 w7 how7 hg7 _ _
      have hb7 := hown.below hba hg7 (by simp)
      clear hown hba hg7
      go_wp2_with (refine wpList_appendB (o := ⟨some 59, _, _, _, _, _⟩) how7 (hr2.stays (hbe4.trans (hb7.mono hbe4.size))) (by first | omega | (simp; omega)) hb7.size rfl _ _ rfl (by rfl) (by rfl) ?_)
      intro v8 w8 how8 hg8 _ _
      have hb8 := how7.below hb7 hg8 hb7.size
      have hbe8 := hbe4.trans (hb8.mono hbe4.size)
      have hp8 := vParse_any ea v8 _ w8 how8.row (by first | omega | (simp; omega)) (he2.below hbe8 he2.lt) (he4.below hbe8 he4.lt)
      rw [hvp.out] at hp8
      have HP8 := Lib.hid hp8
      clear hp8 hvp how7 hb7 hg8 how8
      go_wp2_with fail
      refine HP8.out.mono ?_
      rintro e w9 ⟨rfl, hb9⟩
      rw [EV_zero]
      have hbe9 := hbe8.trans (hb9.mono hbe8.size)
      clear HP8
      go_wp2_with fail
      go_ret
      exact ⟨rfl, hbe9⟩
end Go.Proofs.YtepogpihmpdeaaaDoor
