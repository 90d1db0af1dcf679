/- A tag's bytes (tag.Put, tag.Size, the reference's Put and Parse), the words of the wire kinds, and layer 3's example. -/
import Derived.Test.YtgehbabcpmkgaaaDoorTagParse
namespace Go.Proofs.YtgehbabcpmkgaaaDoor
open Go Go.RowKit
set_option linter.unusedVariables false
theorem tag_block2 (w : World) (x y : Value) : Below w.heap.size w (w.alloc (.cells #[x, y] 66)) ∧ CellsAt (w.alloc (.cells #[x, y] 66)) w.heap.size 66 #[x, y] :=
  ⟨(Below.refl _ _).alloc (Nat.le_refl _) _, CellsAt.new w _ _⟩
section
variable (ea : Nat → Addr) (n k : Int) (w : World) (hn1 : -9223372036854775808 ≤ n) (hn2 : n ≤ 9223372036854775807) (hk1 : -9223372036854775808 ≤ k) (hk2 : k ≤ 9223372036854775807)
    (he5 : ErrAt w 10 (ea 5)) (he6 : ErrAt w 11 (ea 6)) (he12 : ErrAt w 1 (ea 12))
include hn1 hn2 hk1 hk2 he5 he6 he12
/-- which bytes tag.Put gives -/
def tput (n k : Int) : List UInt8 := if tcheck n k = 0 then vput (tcode n k) else []
theorem tPut_any : Calls Tryd.prog 103 #[.agg #[.int .i64 n, .int .i64 k]] w fun e w' => ∃ v', e = .returned (.tuple #[v', EV ea (tcheck n k)]) ∧ OwnB w.heap.size w' v' (tput n k) ∧ Below w.heap.size w w' := by
  obtain ⟨hb0, hct0⟩ := tag_block2 w (.int .i64 n) (.int .i64 k)
  have HC := Lib.hid (tCheck_any ea n k _ hn1 hn2 hk1 hk2 (he5.stays hb0) (he6.stays hb0) (he12.stays hb0))
  have c0 := hct0.cell 0 (v := .int .i64 n) rfl
  have c1 := hct0.cell 1 (v := .int .i64 k) rfl
  clear he5 he6 he12
  go_enter Tryd.func103, Tryd.ntmps103
  go_wp2_with fail
  refine HC.out.mono ?_
  rintro e w1 ⟨rfl, hb1⟩
  have hct1 := hct0.stays hb1
  have hbe1 := hb0.trans (hb1.mono hb0.size)
  have d0 := hct1.cell 0 (v := .int .i64 n) rfl
  have d1 := hct1.cell 1 (v := .int .i64 k) rfl
  have hsz := hct1.lt
  clear c0 c1 HC hct0 hb0 hct1 hb1
  by_cases hk : tcheck n k = 0
  · obtain ⟨h1, h2, h3⟩ := tcheck_zero hk
    have hcd := fun w => tCode_any n k w h1 h2 (by omega) (by omega)
    have HD := Lib.hid hcd
    have hlt := Lib.hid (tcode_lt (n := n) (k := k) h2 (by omega))
    have HT : Hid (tput n k = vput (tcode n k)) := if_pos hk
    have HK := Lib.hid hk
    clear hcd h3 hk
    rw [HK.out, EV_zero]
    go_wp2_with fail
    refine (HD.out w1).mono ?_
    rintro e w2 ⟨rfl, hb2⟩
    have hbe2 := hbe1.trans (hb2.mono hbe1.size)
    have HP := Lib.hid (vPut_any (.slice none 0 0) [] (tcode n k) w2 hlt.out (by simp) (RowB.nil w2))
    clear HD hb2 hbe1 d0 d1
    go_wp2_with fail
    refine HP.out.mono ?_
    rintro e w3 ⟨v3, rfl, how3, hb3⟩
    have hbe3 := hbe2.trans (hb3.mono hbe2.size)
    go_wp2_with fail
    go_ret2
    exact ⟨v3, ret2 rfl (by rw [HK.out]; rfl), by rw [HT.out]; exact how3.mono hbe2.size, hbe3⟩
  · have HT : Hid (tput n k = []) := if_neg hk
    have HE := Lib.hid (EV_pos ea hk)
    rw [HE.out]
    clear hk
    go_wp2_with fail
    go_ret2
    exact ⟨.slice none 0 0, ret2 rfl HE.out.symm, by rw [HT.out]; exact OwnB.nil _ _, hbe1⟩
end
theorem tPutR_any (n k : Int) (w : World) (h1 : 1 ≤ n) (h2 : n ≤ 536870911) (h3 : 0 ≤ k) (h4 : k ≤ 7) :
    Calls Tryd.prog 106 #[.int .i64 n, .int .i64 k] w fun e w' => ∃ v', e = .returned v' ∧ OwnB w.heap.size w' v' (vput (tcode n k)) ∧ Below w.heap.size w w' := by
  have hc : n * 8 + k = ((tcode n k : Nat) : Int) := by unfold tcode; omega
  have HC := Lib.hid hc
  have HP := Lib.hid (vPutR_all (tcode n k) w (tcode_lt h2 h4))
  clear hc
  go_enter Tryd.func106, Tryd.ntmps106
  go_wp2_with fail
  rw [HC.out]
  refine HP.out.mono ?_
  rintro e w1 ⟨v1, rfl, how1, hb1⟩
  go_wp2_with fail
  go_ret
  exact ⟨v1, rfl, how1, hb1⟩
/-- the reference's Parse -/
theorem tParseR_any (v : Value) (bs : List UInt8) (w : World) (hr : RowB w v bs) (hlen : bs.length ≤ 1000000) :
    Calls Tryd.prog 92 #[v] w fun e w' => e = .returned (.tuple #[.int .i64 (tparse bs).1, .int .i64 (tparse bs).2.1, .int .i64 (tparse bs).2.2.1, .int .i64 (tparse bs).2.2.2]) ∧ w = w' := by
  have hp := vParseR_any v bs w hr hlen
  rcases vparse_cases bs with ⟨n, s, hv, hs1, hs2, hn⟩ | ⟨k, hk, _, hv⟩
  · rw [hv] at hp
    have HP := Lib.hid hp
    have hni : (n : Int) ≤ 18446744073709551615 := by omega
    by_cases hbig : 4294967295 < n
    · have HR := Lib.hid (tparse_big hv hbig)
      have d1 : decide (4294967296 ≤ (n : Int)) = true := by simp; omega
      clear hp hv hn
      go_enter Tryd.func92, Tryd.ntmps92
      go_wp2_with fail
      refine HP.out.mono ?_
      rintro e w1 ⟨rfl, rfl⟩
      clear HP
      go_wp2_with fail
      go_returns
      exact ⟨by rw [HR.out]; rfl, rfl⟩
    · by_cases h8 : n < 8
      · have HR := Lib.hid (tparse_not hv (by omega) (tcheck_num (k := (n : Int) % 8) (n := (n : Int) / 8) (by omega)) (by decide))
        have d1 : decide (4294967296 ≤ (n : Int)) = false := by simp; omega
        have d2 : decide ((n : Int) < 8) = true := by simp; omega
        clear hp hv hn
        go_enter Tryd.func92, Tryd.ntmps92
        go_wp2_with fail
        refine HP.out.mono ?_
        rintro e w1 ⟨rfl, rfl⟩
        clear HP
        go_wp2_with fail
        go_returns
        exact ⟨by rw [HR.out]; rfl, rfl⟩
      · have d1 : decide (4294967296 ≤ (n : Int)) = false := by simp; omega
        have d2 : decide ((n : Int) < 8) = false := by simp; omega
        have HC := Lib.hid (tCheckR_any ((n : Int) / 8) ((n : Int) % 8) w (by omega) (by omega) (by omega) (by omega))
        by_cases hk : tcheck ((n : Int) / 8) ((n : Int) % 8) = 0
        · have HR := Lib.hid (tparse_ok hv (by omega) hk)
          have HK := Lib.hid hk
          clear hp hv hn hk
          go_enter Tryd.func92, Tryd.ntmps92
          go_wp2_with fail
          refine HP.out.mono ?_
          rintro e w1 ⟨rfl, rfl⟩
          clear HP
          go_wp2_with fail
          refine HC.out.mono ?_
          rintro e w1 ⟨rfl, rfl⟩
          rw [HK.out]
          clear HC
          go_wp2_with fail
          go_returns
          exact ⟨by rw [HR.out]; rfl, rfl⟩
        · have HR := Lib.hid (tparse_not hv (by omega) rfl hk)
          generalize tcheck ((n : Int) / 8) ((n : Int) % 8) = q at *
          have hqb : ((q : Int) != 0) = true := by simp; omega
          clear hp hv hn hk
          go_enter Tryd.func92, Tryd.ntmps92
          go_wp2_with fail
          refine HP.out.mono ?_
          rintro e w1 ⟨rfl, rfl⟩
          clear HP
          go_wp2_with fail
          refine HC.out.mono ?_
          rintro e w1 ⟨rfl, rfl⟩
          clear HC
          go_wp2_with fail
          go_returns
          exact ⟨by rw [HR.out]; rfl, rfl⟩
  · have HR := Lib.hid (tparse_bad hv hk)
    rw [hv] at hp
    have HP := Lib.hid hp
    have hkb : ((k : Int) != 0) = true := by simp; omega
    clear hp hv hk
    go_enter Tryd.func92, Tryd.ntmps92
    go_wp2_with fail
    refine HP.out.mono ?_
    rintro e w1 ⟨rfl, rfl⟩
    clear HP
    go_wp2_with fail
    go_returns
    exact ⟨by rw [HR.out]; rfl, rfl⟩
end Go.Proofs.YtgehbabcpmkgaaaDoor
