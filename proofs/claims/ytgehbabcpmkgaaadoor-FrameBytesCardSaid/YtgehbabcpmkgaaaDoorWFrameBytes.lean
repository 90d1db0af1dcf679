/- The walk of FrameBytes: every frame's bytes, and how many sectors it needs. -/
import Derived.Test.YtgehbabcpmkgaaaDoorAlive32
import Derived.Test.YtgehbabcpmkgaaaDoorBytes
namespace Go.Proofs.YtgehbabcpmkgaaaDoor
open Go Go.RowKit
set_option linter.unusedVariables false
set_option maxRecDepth 100000 in
set_option maxHeartbeats 1000000 in
theorem walkFrameBytes (w : World) (gen0 : Int) (hgen : 0 ≤ gen0 ∧ gen0 ≤ 4294967295) (v : Value) (bs : List UInt8) (hr : RowB w v bs) (n : Int) (hn : -9223372036854775808 ≤ n ∧ n ≤ 9223372036854775807) (ea : Nat → Addr) (he : ErrsAll ea w) :
    Calls Tryd.prog 3 #[.int .u32 gen0, v, .int .i64 n] w fun e w' => e = .returned (.bool true) ∧ Below w.heap.size w w' := by
  obtain ⟨gen, rfl⟩ := Int.eq_ofNat_of_zero_le hgen.1
  have hg : gen < 4294967296 := by omega
  have hgi := hgen.2
  obtain ⟨hn1, hn2⟩ := hn
  obtain ⟨a, c, rfl, -, -⟩ := hr.gen.shape
  have HA := Lib.hid (alive32 ea w he.e3)
  have HE : Hid (∀ w', Below w.heap.size w w' → ErrsAll ea w') := fun w' hb => he.stays hb
  have HROW : Hid (∀ w', Below w.heap.size w w' → RowB w' (.slice a bs.length c) bs) := fun w' hb => hr.stays hb
  have HG := Lib.hid hg
  clear he hr hg hgen
  go_enter Tryd.func3, Tryd.ntmps3
  go_wp2_with fail
  refine HA.out.mono ?_
  rintro e w1 ⟨rfl, hb1⟩
  clear HA
  by_cases hl : 9000 < bs.length
  · go_wp2_with fail
    go_ret
    exact ⟨rfl, hb1⟩
  · have HB := Lib.hid (bytes_any _ bs w1 (HROW.out _ hb1) (by omega))
    go_wp2_with fail
    refine HB.out.mono ?_
    rintro e w2 ⟨v7, rfl, hm2, hb2⟩
    have hbe2 := hb1.trans (hb2.mono hb1.size)
    have HF := Lib.hid (frameBytes_any ea gen v7 bs w2 hm2.row HG.out (by omega) (HE.out _ hbe2).e3)
    clear HB hb1 hb2
    go_wp2_with fail
    refine HF.out.mono ?_
    rintro e w3 ⟨v8, rfl, ho3, hb3⟩
    have hm3 := hm2.stays hb3
    have hbe3 := hbe2.trans (hb3.mono hbe2.size)
    have s3 := convert_str (HROW.out _ hbe3)
    have HR := Lib.hid (rframeBytes_any gen bs w3 HG.out (by omega))
    clear HF hm2 hb3 hbe2
    go_wp2_with fail
    refine HR.out.mono ?_
    rintro e w4 ⟨rfl, hb4⟩
    have hm4 := hm3.stays hb4
    have ho4 := ho3.stays hb4
    have hbe4 := hbe3.trans (hb4.mono hbe3.size)
    have hk := frameK_le bs
    obtain ⟨K, hK⟩ : ∃ K, K = frameK bs := ⟨_, rfl⟩
    obtain ⟨X, hX⟩ : ∃ X, X = frameV gen bs := ⟨_, rfl⟩
    rw [← hK] at hk ⊢
    rw [← hX] at ho4 ⊢
    have HN := Lib.hid (num_any ea K hk w4 (HE.out _ hbe4))
    have bk : ((K : Int) == K) = true := by simp
    clear HR hm3 ho3 hb4 hbe3 s3 hK hX hk
    go_wp2_with fail
    refine HN.out.mono ?_
    rintro e w5 ⟨rfl, hb5⟩
    have hm5 := hm4.stays hb5
    have s5 := convert_str (ho4.stays hb5).row
    have hbe5 := hbe4.trans (hb5.mono hbe4.size)
    have sx : ((strB X).toList == (strB X).toList) = true := by simp
    have HS1 := Lib.hid (sectors_any n w5 hn1 hn2)
    have HS2 := Lib.hid (rsectors_any n w5 hn1 hn2)
    have HKp := Lib.hid (kept_any _ v7 _ bs w5 hm5 (HROW.out _ hbe5) (by omega))
    have bs' : ((sectorsV n : Int) == sectorsV n) = true := by simp
    clear HN hm4 ho4 hb5 hbe4 hm5
    go_wp2_with fail
    refine HS1.out.mono ?_
    rintro e w6 ⟨rfl, rfl⟩
    clear HS1
    go_wp2_with fail
    refine HS2.out.mono ?_
    rintro e w6 ⟨rfl, rfl⟩
    clear HS2
    go_wp2_with fail
    refine HKp.out.mono ?_
    rintro e w6 ⟨rfl, rfl⟩
    go_wp2_with fail
    go_ret
    exact ⟨rfl, hbe5⟩
end Go.Proofs.YtgehbabcpmkgaaaDoor
