/- The walk of TagParses: the tag with which all bytes begin. -/
import Derived.Test.YtepogpihmpdeaaaDoorTagWord
import Derived.Test.YtepogpihmpdeaaaDoorErrs
import Derived.Test.YtepogpihmpdeaaaDoorBytes
namespace Go.Proofs.YtepogpihmpdeaaaDoor
open Go Go.RowKit
theorem beq_self_int (n : Int) : (n == n) = true := by simp
theorem tparse_k (bs : List UInt8) : (tparse bs).2.2.2 ≤ 19 := by
  unfold tparse
  have hk : (vparse 0 0 bs).2.2 ≤ 19 := by
    rcases vref_size bs with h | h | h
    · omega
    · rw [h]; decide
    · rw [h]; decide
  simp only
  split
  · exact hk
  · split
    · decide
    · split
      · exact tcheck_le _ _
      · exact Nat.zero_le _
set_option maxHeartbeats 1000000 in
set_option maxRecDepth 100000 in
theorem walkTagParses (w : World) (v : Value) (bs : List UInt8) (hr : RowB w v bs) (ea : Nat → Addr) (he : ErrsAll ea w) :
    Calls Tryd.prog 8 #[v] w fun e w' => e = .returned (.bool true) ∧ Below w.heap.size w w' := by
  obtain ⟨a, c, rfl, _, _⟩ := hr.gen.shape
  go_enter Tryd.func8, Tryd.ntmps8
  go_wp2_with fail
  refine (alive03 ea w he.e5 he.e6 he.e12).mono ?_
  rintro e w1 ⟨rfl, hb1⟩
  by_cases hl : 300 < bs.length
  · clear hr he
    go_wp2_with fail
    go_ret
    exact ⟨rfl, hb1⟩
  · have he1 := he.stays hb1
    have hc := Lib.hid (fun w' (h : RowB w' (.slice a bs.length c) bs) => bytes_any _ bs w' h (by omega))
    clear he
    go_wp2_with fail
    refine (hc.out _ (hr.stays hb1)).mono ?_
    rintro e w2 ⟨v2, rfl, hm2, hb2⟩
    have he2 := he1.stays hb2
    have hbe2 := hb1.trans (hb2.mono hb1.size)
    have hp := Lib.hid (tParse_any ea v2 bs _ hm2.row (by omega) he2.e2 he2.e4 he2.e5 he2.e6 he2.e12)
    clear hc he1 hb1 hb2
    go_wp2_with fail
    refine hp.out.mono ?_
    rintro e w4 ⟨rfl, hb4⟩
    have he4 := he2.stays hb4
    have hm4 := hm2.stays hb4
    have hbe4 := hbe2.trans (hb4.mono hbe2.size)
    have HK := Lib.hid (tparse_k bs)
    clear hp he2 hm2 hbe2 hb4
    have hR := Lib.hid (fun w' (h : RowB w' (.slice a bs.length c) bs) => tParseR_any _ bs w' h (by omega))
    generalize tparse bs = T at *
    obtain ⟨tn, tk, ts, tq⟩ := T
    obtain ⟨hb5, hct5⟩ := tag_block2 w4 (.int .i64 tn) (.int .i64 tk)
    have he5 := he4.stays hb5
    have hm5 := hm4.stays hb5
    have hbe5 := hbe4.trans (hb5.mono hbe4.size)
    have b1 := beq_self_int tn
    have b2 := beq_self_int tk
    have b3 := beq_self_int (ts : Int)
    have b4 := beq_self_int (tq : Int)
    go_wp2_with fail
    refine (hR.out _ (hr.stays hbe5)).mono ?_
    rintro e w5 ⟨rfl, rfl⟩
    have c0 := hct5.cell 0 (v := .int .i64 tn) rfl
    have c1 := hct5.cell 1 (v := .int .i64 tk) rfl
    have hN := Lib.hid (num_any ea tq HK.out _ he5)
    clear hR he4 hm4 hbe4 hb5
    go_wp2_with fail
    refine hN.out.mono ?_
    rintro e w6 ⟨rfl, hb6⟩
    have hm6 := hm5.stays hb6
    have hbe6 := hbe5.trans (hb6.mono hbe5.size)
    have hk6 := Lib.hid (kept_any _ v2 _ bs w6 hm6 (hr.stays hbe6) (by omega))
    clear hN c0 c1
    go_wp2_with fail
    refine hk6.out.mono ?_
    rintro e w7 ⟨rfl, rfl⟩
    go_wp2_with fail
    go_ret
    exact ⟨rfl, hbe6⟩
end Go.Proofs.YtepogpihmpdeaaaDoor
