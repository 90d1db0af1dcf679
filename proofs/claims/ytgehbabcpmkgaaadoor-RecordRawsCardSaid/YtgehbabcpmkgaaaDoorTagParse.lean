/- The tag with which bytes begin: tag.Parse, and the reference's Parse. All bytes. -/
import Derived.Test.YtgehbabcpmkgaaaDoorTag
import Derived.Test.YtgehbabcpmkgaaaDoorVparseR
import Derived.Test.YtgehbabcpmkgaaaDoorVall
import Derived.BigQuiet
import Derived.Deep.QuietTactic
namespace Go.Proofs.YtgehbabcpmkgaaaDoor
open Go Go.RowKit
set_option linter.unusedVariables false
/-- number, kind, how many bytes, the error's number -/
def tparse (bs : List UInt8) : Int × Int × Nat × Nat :=
  let r := vparse 0 0 bs
  if r.2.2 ≠ 0 then (0, 0, 0, r.2.2) else if 4294967295 < r.1 then (0, 0, 0, 5) else
  if tcheck ((r.1 : Int) / 8) ((r.1 : Int) % 8) ≠ 0 then (0, 0, 0, tcheck ((r.1 : Int) / 8) ((r.1 : Int) % 8)) else (((r.1 : Int) / 8), ((r.1 : Int) % 8), r.2.1, 0)
theorem tparse_bad {bs : List UInt8} {k : Nat} (h : vparse 0 0 bs = (0, 0, k)) (hk : k ≠ 0) : tparse bs = (0, 0, 0, k) := by
  unfold tparse; rw [h]; exact if_pos hk
theorem tparse_big {bs : List UInt8} {n s : Nat} (h : vparse 0 0 bs = (n, s, 0)) (hn : 4294967295 < n) : tparse bs = (0, 0, 0, 5) := by
  unfold tparse; rw [h]; simp only [ne_eq, not_true, if_false]; rw [if_pos hn]
theorem tparse_not {bs : List UInt8} {n s k : Nat} (h : vparse 0 0 bs = (n, s, 0)) (hn : n ≤ 4294967295) (hk : tcheck ((n : Int) / 8) ((n : Int) % 8) = k) (h0 : k ≠ 0) : tparse bs = (0, 0, 0, k) := by
  unfold tparse; rw [h]; simp only [ne_eq, not_true, if_false]; rw [if_neg (by omega), hk, if_pos h0]
theorem tparse_ok {bs : List UInt8} {n s : Nat} (h : vparse 0 0 bs = (n, s, 0)) (hn : n ≤ 4294967295) (hk : tcheck ((n : Int) / 8) ((n : Int) % 8) = 0) : tparse bs = (((n : Int) / 8), ((n : Int) % 8), s, 0) := by
  unfold tparse; rw [h]; simp only [ne_eq, not_true, if_false]; rw [if_neg (by omega), hk]; simp
/-- how bytes' number turns out -/
theorem vparse_cases (bs : List UInt8) : (∃ n s, vparse 0 0 bs = (n, s, 0) ∧ 1 ≤ s ∧ s ≤ bs.length ∧ n < 18446744073709551616) ∨ ∃ k, k ≠ 0 ∧ k ≤ 19 ∧ vparse 0 0 bs = (0, 0, k) := by
  rcases vref_size bs with ⟨h, h1, h2, h3⟩ | h | h
  · exact .inl ⟨_, _, Prod.ext rfl (Prod.ext rfl h), h1, h2, h3⟩
  · exact .inr ⟨2, by decide, by decide, h⟩
  · exact .inr ⟨4, by decide, by decide, h⟩
theorem and7 (n : Nat) (h : n < 18446744073709551616) : bits .and .u64 (n : Int) 7 = ((n : Int) % 8) := by
  rw [u64_and _ _ (by omega) (by omega) (by omega) (by omega), Int.toNat_natCast, show (7 : Int).toNat = 7 from rfl, nat_mask3]; omega
/-- the struct's block behind a call -/
theorem tag_block {w w1 : World} {x y : Value} (hb1 : Below (w.alloc (.cells #[x, y] 66)).heap.size (w.alloc (.cells #[x, y] 66)) w1) :
    CellsAt w1 w.heap.size 66 #[x, y] ∧ Below w.heap.size w w1 ∧ w.heap.size < w1.heap.size :=
  ⟨(CellsAt.new w _ _).stays hb1, ((Below.refl _ _).alloc (Nat.le_refl _) _).trans (hb1.mono (by simp)), ((CellsAt.new w _ _).stays hb1).lt⟩
section
variable (ea : Nat → Addr) (v : Value) (bs : List UInt8) (w : World)
theorem tParse_bad (k : Nat) (hk : k ≠ 0) (hv : vparse 0 0 bs = (0, 0, k)) (hr : RowB w v bs) (hlen : bs.length ≤ 1000000) (he2 : ErrAt w 3 (ea 2)) (he4 : ErrAt w 9 (ea 4)) :
    Calls Tryd.prog 89 #[v] w fun e w' => e = .returned (.tuple #[.agg #[.int .i64 0, .int .i64 0], .int .i64 0, EV ea k]) ∧ Below w.heap.size w w' := by
  have hb0 : Below w.heap.size w (w.alloc (.cells #[.int .i64 0, .int .i64 0] 66)) := (Below.refl _ _).alloc (Nat.le_refl _) _
  have hp := vParse_any ea v bs _ (hr.stays hb0) hlen (he2.stays hb0) (he4.stays hb0)
  rw [hv] at hp
  have HP := Lib.hid hp
  clear hp hv he2 he4 hb0
  go_enter Tryd.func89, Tryd.ntmps89
  go_wp2_with fail
  refine HP.out.mono ?_
  rintro e w1 ⟨rfl, hb1⟩
  rw [EV_pos ea hk]
  obtain ⟨hct, hbe, hsz⟩ := tag_block hb1
  have c0 := hct.cell 0 (v := .int .i64 0) rfl
  have c1 := hct.cell 1 (v := .int .i64 0) rfl
  have f0 := hct.free 0
  have f1 := hct.free 1
  clear hct HP hb1
  go_wp2_with fail
  exact bodyPost_ret (v := .tuple #[.agg #[.int .i64 0, .int .i64 0], .int .i64 0, .iface 248 (.pointer (some (ea k)))]) (by simp [results, Tryd.results89, go_sem, c0, c1]) rfl ⟨by rw [EV_pos ea hk], (hbe.setCell (Nat.le_refl _) _).setCell (Nat.le_refl _) _⟩
variable (n s : Nat) (hv : vparse 0 0 bs = (n, s, 0)) (hr : RowB w v bs) (hlen : bs.length ≤ 1000000) (he2 : ErrAt w 3 (ea 2)) (he4 : ErrAt w 9 (ea 4)) (hn : n < 18446744073709551616)
include hv hr hlen he2 he4 hn
theorem tParse_big (hbig : 4294967295 < n) (he5 : ErrAt w 10 (ea 5)) :
    Calls Tryd.prog 89 #[v] w fun e w' => e = .returned (.tuple #[.agg #[.int .i64 0, .int .i64 0], .int .i64 0, EV ea 5]) ∧ Below w.heap.size w w' := by
  have hb0 : Below w.heap.size w (w.alloc (.cells #[.int .i64 0, .int .i64 0] 66)) := (Below.refl _ _).alloc (Nat.le_refl _) _
  have hp := vParse_any ea v bs _ (hr.stays hb0) hlen (he2.stays hb0) (he4.stays hb0)
  rw [hv, EV_zero] at hp
  have HP := Lib.hid hp
  have hni : (n : Int) ≤ 18446744073709551615 := by omega
  have hlt := he5.lt
  have hne : (w.heap.size == 10) = false := by simp; omega
  clear hp hn hv he2 he4 hb0
  go_enter Tryd.func89, Tryd.ntmps89
  go_wp2_with fail
  refine HP.out.mono ?_
  rintro e w1 ⟨rfl, hb1⟩
  obtain ⟨hct, hbe, hsz⟩ := tag_block hb1
  have c0 := hct.cell 0 (v := .int .i64 0) rfl
  have c1 := hct.cell 1 (v := .int .i64 0) rfl
  have f0 := hct.free 0
  have f1 := hct.free 1
  have e5 : ErrAt w1 10 (ea 5) := he5.stays hbe
  unfold ErrAt at e5
  clear hct HP hb1 he5
  go_wp2_with fail
  go_region
  all_goals go_wp2_with fail
  all_goals exact bodyPost_ret (v := .tuple #[.agg #[.int .i64 0, .int .i64 0], .int .i64 0, .iface 248 (.pointer (some (ea 5)))]) (by simp [results, Tryd.results89, go_sem, c0, c1]) rfl ⟨rfl, ((hbe.setCell (Nat.le_refl _) _).setCell (Nat.le_refl _) _).drew⟩
set_option maxHeartbeats 1000000 in
theorem tParse_small (hsmall : n ≤ 4294967295) (he5 : ErrAt w 10 (ea 5)) (he6 : ErrAt w 11 (ea 6)) (he12 : ErrAt w 1 (ea 12)) (k : Nat) (hk : tcheck ((n : Int) / 8) ((n : Int) % 8) = k) :
    Calls Tryd.prog 89 #[v] w fun e w' => e = .returned (if k = 0 then .tuple #[.agg #[.int .i64 ((n : Int) / 8), .int .i64 ((n : Int) % 8)], .int .i64 s, .nilIface] else .tuple #[.agg #[.int .i64 0, .int .i64 0], .int .i64 0, EV ea k]) ∧ Below w.heap.size w w' := by
  have hb0 : Below w.heap.size w (w.alloc (.cells #[.int .i64 0, .int .i64 0] 66)) := (Below.refl _ _).alloc (Nat.le_refl _) _
  have hp := vParse_any ea v bs _ (hr.stays hb0) hlen (he2.stays hb0) (he4.stays hb0)
  rw [hv, EV_zero] at hp
  have HP := Lib.hid hp
  have h7 := and7 n hn
  have hni : (n : Int) ≤ 18446744073709551615 := by omega
  clear hp hn hv he2 he4 hb0
  go_enter Tryd.func89, Tryd.ntmps89
  go_wp2_with fail
  refine HP.out.mono ?_
  rintro e w1 ⟨rfl, hb1⟩
  obtain ⟨hct, hbe, hsz⟩ := tag_block hb1
  have c0 := hct.cell 0 (v := .int .i64 0) rfl
  have c1 := hct.cell 1 (v := .int .i64 0) rfl
  have f0 := hct.free 0
  have f1 := hct.free 1
  have hbe3 := Lib.hid ((hbe.setCell (p := ⟨w.heap.size, 0, none⟩) (Nat.le_refl _) (.int .i64 ((n : Int) / 8))).setCell (p := ⟨w.heap.size, 1, none⟩) (Nat.le_refl _) (.int .i64 ((n : Int) % 8)))
  have hct3 := Lib.hid ((hct.set 0 (.int .i64 ((n : Int) / 8))).set 1 (.int .i64 ((n : Int) % 8)))
  have hcc := tCheck_any ea ((n : Int) / 8) ((n : Int) % 8) _ (by omega) (by omega) (by omega) (by omega) (he5.stays hbe3.out) (he6.stays hbe3.out) (he12.stays hbe3.out)
  rw [hk] at hcc
  have HC := Lib.hid hcc
  clear HP hb1 hcc hct he5 he6 he12 hk
  go_wp2_with fail
  refine HC.out.mono ?_
  rintro e w2 ⟨rfl, hb2⟩
  have hct2 := hct3.out.stays hb2
  have hbe2 := hbe3.out.trans (hb2.mono hbe3.out.size)
  have hsz2 := hct2.lt
  have d0 := hct2.cell 0 (v := .int .i64 ((n : Int) / 8)) rfl
  have d1 := hct2.cell 1 (v := .int .i64 ((n : Int) % 8)) rfl
  have g0 := hct2.free 0
  have g1 := hct2.free 1
  clear HC hct2 hbe3 hct3 hb2 hbe c0 c1 f0 f1 hsz h7
  by_cases hk0 : k = 0
  · subst hk0
    rw [EV_zero]
    go_wp2_with fail
    exact bodyPost_ret (v := .tuple #[.agg #[.int .i64 ((n : Int) / 8), .int .i64 ((n : Int) % 8)], .int .i64 s, .nilIface]) (by simp [results, Tryd.results89, go_sem, d0, d1]) rfl ⟨rfl, (hbe2.setCell (Nat.le_refl _) _).setCell (Nat.le_refl _) _⟩
  · rw [EV_pos ea hk0]
    go_wp2_with fail
    exact bodyPost_ret (v := .tuple #[.agg #[.int .i64 0, .int .i64 0], .int .i64 0, .iface 248 (.pointer (some (ea k)))]) (by simp [results, Tryd.results89, go_sem, d0, d1]) rfl ⟨by rw [EV_pos ea hk0], (hbe2.setCell (Nat.le_refl _) _).setCell (Nat.le_refl _) _⟩
end
theorem tParse_any (ea : Nat → Addr) (v : Value) (bs : List UInt8) (w : World) (hr : RowB w v bs) (hlen : bs.length ≤ 1000000)
    (he2 : ErrAt w 3 (ea 2)) (he4 : ErrAt w 9 (ea 4)) (he5 : ErrAt w 10 (ea 5)) (he6 : ErrAt w 11 (ea 6)) (he12 : ErrAt w 1 (ea 12)) :
    Calls Tryd.prog 89 #[v] w fun e w' => e = .returned (.tuple #[.agg #[.int .i64 (tparse bs).1, .int .i64 (tparse bs).2.1], .int .i64 (tparse bs).2.2.1, EV ea (tparse bs).2.2.2]) ∧ Below w.heap.size w w' := by
  rcases vparse_cases bs with ⟨n, s, hv, hs1, hs2, hn⟩ | ⟨k, hk, _, hv⟩
  · by_cases hbig : 4294967295 < n
    · rw [tparse_big hv hbig]
      exact tParse_big ea v bs w n s hv hr hlen he2 he4 hn hbig he5
    · have h := tParse_small ea v bs w n s hv hr hlen he2 he4 hn (by omega) he5 he6 he12 _ rfl
      by_cases hk : tcheck ((n : Int) / 8) ((n : Int) % 8) = 0
      · rw [if_pos hk] at h
        rw [tparse_ok hv (by omega) hk]; exact h
      · rw [if_neg hk] at h
        rw [tparse_not hv (by omega) rfl hk]; exact h
  · rw [tparse_bad hv hk]
    exact tParse_bad ea v bs w k hk hv hr hlen he2 he4
end Go.Proofs.YtgehbabcpmkgaaaDoor
