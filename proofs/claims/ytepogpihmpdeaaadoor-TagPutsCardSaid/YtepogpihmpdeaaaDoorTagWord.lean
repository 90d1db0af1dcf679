/- The words of the wire kinds, and layer 3's example: alive() is true. -/
import Derived.Test.YtepogpihmpdeaaaDoorTagPut
import Derived.Test.YtepogpihmpdeaaaDoorStr
namespace Go.Proofs.YtepogpihmpdeaaaDoor
open Go Go.RowKit
/-- a wire kind's word -/
def tword (k : Int) : ByteArray := if k = 0 then strB [118, 97, 114, 105, 110, 116] else if k = 1 then strB [102, 105, 120, 101, 100, 54, 52] else if k = 2 then strB [98, 121, 116, 101, 115] else if k = 5 then strB [102, 105, 120, 101, 100, 51, 50] else strB []
theorem tWord_any (k : Int) (w : World) (hk1 : -9223372036854775808 ≤ k) (hk2 : k ≤ 9223372036854775807) :
    Calls Tryd.prog 21 #[.int .i64 k] w fun e w' => e = .returned (.string (tword k)) ∧ w = w' := by
  by_cases ho : k = 0 ∨ k = 1 ∨ k = 2 ∨ k = 5
  · rcases ho with rfl | rfl | rfl | rfl
    all_goals
      go_enter Tryd.func21, Tryd.ntmps21
      go_wp2
      go_ret
      exact ⟨rfl, rfl⟩
  · have HT : Hid (tword k = strB []) := by
      show _ = _
      unfold tword; rw [if_neg (by omega), if_neg (by omega), if_neg (by omega), if_neg (by omega)]
    have b0 : (k == 0) = false := by simp; omega
    have b1 : (k == 1) = false := by simp; omega
    have b2 : (k == 2) = false := by simp; omega
    have b5 : (k == 5) = false := by simp; omega
    clear ho
    go_enter Tryd.func21, Tryd.ntmps21
    go_wp2
    go_ret
    exact ⟨by rw [HT.out]; rfl, rfl⟩
theorem alive03 (ea : Nat → Addr) (w : World) (he5 : ErrAt w 2 (ea 5)) (he6 : ErrAt w 3 (ea 6)) (he12 : ErrAt w 4 (ea 12)) :
    Calls Tryd.prog 20 #[] w fun e w' => e = .returned (.bool true) ∧ Below w.heap.size w w' := by
  have hp := tPut_any ea 1 2 w (by decide) (by decide) (by decide) (by decide) he5 he6 he12
  rw [show tcheck 1 2 = 0 from by decide, show tput 1 2 = [b8 10] from by unfold tput; rw [if_pos (by decide), show tcode 1 2 = 10 from by decide, vput_lo (by decide)]] at hp
  have HP := Lib.hid hp
  have HW := Lib.hid (fun w => tWord_any 5 w (by decide) (by decide))
  clear hp he5 he6 he12
  go_enter Tryd.func20, Tryd.ntmps20
  go_wp2_with fail
  refine HP.out.mono ?_
  rintro e w1 ⟨v1, rfl, how1, hb1⟩
  rw [EV_zero]
  rcases how1.row.open with ⟨h, _⟩ | ⟨b, o, c, rfl, _, _, _, hc⟩
  · cases h
  · have hc0 : w1.cell? ⟨b, o, none⟩ = some (.int .u8 10) := by simpa [BV_b8] using hc 0 (b8 10) rfl
    clear hc how1 HP
    go_wp2_with fail
    refine (HW.out w1).mono ?_
    rintro e w2 ⟨rfl, rfl⟩
    rw [show tword 5 = ⟨#[102, 105, 120, 101, 100, 51, 50]⟩ from rfl]
    go_wp2_with fail
    go_ret
    exact ⟨rfl, hb1⟩
end Go.Proofs.YtepogpihmpdeaaaDoor
