/- The walk of VarintZigs: every number zigzagged, and back. -/
import Derived.Test.YtepogpihmpdeaaaDoorAlive02
namespace Go.Proofs.YtepogpihmpdeaaaDoor
open Go Go.RowKit
theorem walkVarintZigs (n : Int) (hn : -9223372036854775808 ≤ n ∧ n ≤ 9223372036854775807) (m : Int) (hm : 0 ≤ m ∧ m ≤ 18446744073709551615) (w : World) (ea : Nat → Addr) (he2 : ErrAt w 1 (ea 2)) (he4 : ErrAt w 0 (ea 4)) :
    Calls Tryd.prog 3 #[.int .i64 n, .int .u64 m] w fun e w' => e = .returned (.bool true) ∧ Below w.heap.size w w' := by
  obtain ⟨hn1, hn2⟩ := hn
  obtain ⟨hm1, hm2⟩ := hm
  have hb1 := zig_bd n hn1 hn2
  have hb2 := zag_bd m hm1 hm2
  have hz1 := Lib.hid (zag_zig n)
  have hz2 := Lib.hid (zig_zag m hm1)
  go_enter Tryd.func3, Tryd.ntmps3
  go_wp2_with fail
  refine (alive02 ea w he2 he4).mono ?_
  rintro e w1 ⟨rfl, hb⟩
  clear he2 he4
  go_wp2_with fail
  refine (zag_any m w1 hm1 hm2).mono ?_
  rintro e w2 ⟨rfl, rfl⟩
  go_wp2_with fail
  refine (zagR_any m w1 hm1 hm2).mono ?_
  rintro e w2 ⟨rfl, rfl⟩
  go_wp2_with fail
  refine (zig_any n w1 hn1 hn2).mono ?_
  rintro e w2 ⟨rfl, rfl⟩
  go_wp2_with fail
  refine (zagR_any (zig n) w1 hb1.1 hb1.2).mono ?_
  rintro e w2 ⟨rfl, rfl⟩
  rw [hz1.out]
  go_wp2_with fail
  refine (zig_any n w1 hn1 hn2).mono ?_
  rintro e w2 ⟨rfl, rfl⟩
  go_wp2_with fail
  refine (zag_any (zig n) w1 hb1.1 hb1.2).mono ?_
  rintro e w2 ⟨rfl, rfl⟩
  rw [hz1.out]
  go_wp2_with fail
  refine (zag_any m w1 hm1 hm2).mono ?_
  rintro e w2 ⟨rfl, rfl⟩
  go_wp2_with fail
  refine (zig_any (zag m) w1 hb2.1 hb2.2).mono ?_
  rintro e w2 ⟨rfl, rfl⟩
  rw [hz2.out]
  go_wp2_with fail
  go_ret
  exact ⟨rfl, hb⟩
end Go.Proofs.YtepogpihmpdeaaaDoor
