/- The walk of TagPuts: which tags there are, and their bytes; these are parsed as they were. -/
import Derived.Test.YtepogpihmpdeaaaDoorWTagParses
import Derived.Deep.RegionHeld
namespace Go.Proofs.YtepogpihmpdeaaaDoor
open Go Go.RowKit
theorem tparse_put {n k : Int} (h : tcheck n k = 0) : tparse (vput (tcode n k)) = (n, k, (vput (tcode n k)).length, 0) := by
  obtain ⟨h1, h2, h3⟩ := tcheck_zero h
  have hlt := tcode_lt (n := n) (k := k) h2 (by omega)
  have hv := vparse_put (tcode n k) hlt []
  rw [List.append_nil] at hv
  have e1 : ((tcode n k : Nat) : Int) / 8 = n := by unfold tcode; omega
  have e2 : ((tcode n k : Nat) : Int) % 8 = k := by unfold tcode; omega
  rw [tparse_ok hv (by unfold tcode; omega) (by rw [e1, e2]; exact h), e1, e2]
set_option maxHeartbeats 2000000 in
set_option maxRecDepth 100000 in
theorem walkTagPuts (w : World) (n : Int) (hn : -9223372036854775808 ≤ n ∧ n ≤ 9223372036854775807) (k : Int) (hk : -9223372036854775808 ≤ k ∧ k ≤ 9223372036854775807) (ea : Nat → Addr) (he : ErrsAll ea w) :
    Calls Tryd.prog 9 #[.int .i64 n, .int .i64 k] w fun e w' => e = .returned (.bool true) ∧ Below w.heap.size w w' := by
  obtain ⟨hn1, hn2⟩ := hn
  obtain ⟨hk1, hk2⟩ := hk
  go_enter Tryd.func9, Tryd.ntmps9
  go_wp2_with fail
  refine (alive03 ea w he.e5 he.e6 he.e12).mono ?_
  rintro e w1 ⟨rfl, hb1⟩
  have he1 := he.stays hb1
  obtain ⟨hb2, hct2⟩ := tag_block2 w1 (.int .i64 n) (.int .i64 k)
  have he2 := he1.stays hb2
  have hbe2 := hb1.trans (hb2.mono hb1.size)
  have hR := Lib.hid (fun w' => tCheckR_any n k w' hn1 hn2 hk1 hk2)
  have hq := tcheck_le n k
  have hP := Lib.hid (fun (w' : World) (h : ErrsAll ea w') => tPut_any ea n k w' hn1 hn2 hk1 hk2 h.e5 h.e6 h.e12)
  have hC := Lib.hid (fun (w' : World) (h : ErrsAll ea w') => tCheck_any ea n k w' hn1 hn2 hk1 hk2 h.e5 h.e6 h.e12)
  have hS := Lib.hid (fun (w' : World) (h : ErrsAll ea w') => tSize_any ea n k w' hn1 hn2 hk1 hk2 h.e5 h.e6 h.e12)
  have hT : Hid (if tcheck n k = 0 then tput n k = vput (tcode n k) ∧ tparse (tput n k) = (n, k, (tput n k).length, 0) ∧ 1 ≤ n ∧ n ≤ 536870911 ∧ 0 ≤ k ∧ k ≤ 7 ∧ (tput n k).length ≤ 10 else tput n k = []) := by
    show if tcheck n k = 0 then _ else _
    split
    · rename_i h
      obtain ⟨h1, h2, h3⟩ := tcheck_zero h
      have e : tput n k = vput (tcode n k) := if_pos h
      rw [e]
      exact ⟨rfl, tparse_put h, h1, h2, by omega, by omega, vput_len10 _ (tcode_lt h2 (by omega))⟩
    · rename_i h; exact if_neg h
  generalize tcheck n k = q at *
  generalize tput n k = p at *
  clear he he1 hb1
  go_wp2_with fail
  refine (hR.out _).mono ?_
  rintro e w3 ⟨rfl, rfl⟩
  have c0 := hct2.cell 0 (v := .int .i64 n) rfl
  have c1 := hct2.cell 1 (v := .int .i64 k) rfl
  clear hR
  go_wp2_with fail
  refine (hP.out _ he2).mono ?_
  rintro e w3 ⟨v3, rfl, how3, hb3⟩
  have he3 := he2.stays hb3
  have hct3 := hct2.stays hb3
  have hbe3 := hbe2.trans (hb3.mono hbe2.size)
  have hb23 := hb2.trans (hb3.mono hb2.size)
  have hN := Lib.hid (fun (w' : World) (h : ErrsAll ea w') => num_any ea q hq w' h)
  have bq : ((q : Int) != (q : Int)) = false := by simp
  clear hP c0 c1 he2 hct2 hbe2 hb3
  go_wp2_with fail
  refine (hN.out _ he3).mono ?_
  rintro e w4 ⟨rfl, hb4⟩
  have he4 := he3.stays hb4
  have hct4 := hct3.stays hb4
  have hbe4 := hbe3.trans (hb4.mono hbe3.size)
  have how4 := how3.stays hb4
  have c0 := hct4.cell 0 (v := .int .i64 n) rfl
  have c1 := hct4.cell 1 (v := .int .i64 k) rfl
  have hsz4 := hct4.lt
  clear he3 hct3 hbe3 hb4 how3 hb23
  go_wp2_with fail
  refine (hC.out _ he4).mono ?_
  rintro e w5 ⟨rfl, hb5⟩
  have he5 := he4.stays hb5
  have hct5 := hct4.stays hb5
  have hbe5 := hbe4.trans (hb5.mono hbe4.size)
  have how5 := how4.stays hb5
  clear he4 hct4 hbe4 hb5 how4 c0 c1 hsz4 hC
  go_wp2_with fail
  refine (hN.out _ he5).mono ?_
  rintro e w6 ⟨rfl, hb6⟩
  have he6 := he5.stays hb6
  have hct6 := hct5.stays hb6
  have hbe6 := hbe5.trans (hb6.mono hbe5.size)
  have how6 := how5.stays hb6
  have c0 := hct6.cell 0 (v := .int .i64 n) rfl
  have c1 := hct6.cell 1 (v := .int .i64 k) rfl
  have hsz6 := hct6.lt
  clear he5 hct5 hbe5 hb6 how5 hN
  obtain ⟨ap, cp, rfl, _, _⟩ := how6.row.gen.shape
  have bp : ((p.length : Int) != (p.length : Int)) = false := by simp
  go_wp2_with fail
  refine (hS.out _ he6).mono ?_
  rintro e w7 ⟨rfl, hb7⟩
  have he7 := he6.stays hb7
  have hct7 := hct6.stays hb7
  have hbe7 := hbe6.trans (hb7.mono hbe6.size)
  have how7 := how6.stays hb7
  clear he6 hct6 hbe6 hb7 how6 hS c0 c1 hsz6
  by_cases hq0 : q = 0
  · have hT' := hT.out
    rw [if_pos hq0] at hT'
    obtain ⟨hp1, hp2, h1, h2, h3, h4, h10⟩ := hT'
    have hq0' := Lib.hid hq0
    have bq0 : ((q : Int) != 0) = false := by simp; omega
    have hPp := tParse_any ea _ p w7 how7.row (by omega) he7.e2 he7.e4 he7.e5 he7.e6 he7.e12
    rw [hp2, EV_zero] at hPp
    have HP := Lib.hid hPp
    have Hp1 := Lib.hid hp1
    clear hp2 hPp hq0 hT hp1
    go_wp2_with fail
    refine HP.out.mono ?_
    rintro e w8 ⟨rfl, hb8⟩
    have hct8 := hct7.stays hb8
    have hbe8 := hbe7.trans (hb8.mono hbe7.size)
    have how8 := how7.stays hb8
    obtain ⟨hb9, hct9⟩ := tag_block2 w8 (.int .i64 n) (.int .i64 k)
    have hctA := hct8.stays hb9
    have hbe9 := hbe8.trans (hb9.mono hbe8.size)
    have how9 := how8.stays hb9
    clear HP he7 hct7 hbe7 hb8 how7 hct8 hbe8 how8
    go_wp2_with fail
    obtain ⟨W9, hW9⟩ : ∃ W, W = w8.alloc (.cells #[.int .i64 n, .int .i64 k] 54) := ⟨_, rfl⟩
    rw [← hW9] at hctA hct9 hbe9 how9 ⊢
    have hsz9 : w8.heap.size < W9.heap.size := hct9.lt
    clear hW9 hb9
    have hK : ∀ w', Below W9.heap.size W9 w' → Below W9.heap.size W9 w' ∧ w'.cell? ⟨w1.heap.size, 0, none⟩ = some (.int .i64 n) ∧ w'.cell? ⟨w1.heap.size, 1, none⟩ = some (.int .i64 k) ∧
        w'.cell? ⟨w8.heap.size, 0, none⟩ = some (.int .i64 n) ∧ w'.cell? ⟨w8.heap.size, 1, none⟩ = some (.int .i64 k) ∧ (convert 27 9 (.slice ap p.length cp)).run Tryd.prog w' = .ok (.string (strB p)) w' := fun w' hb =>
      ⟨hb, (hctA.stays hb).cell 0 rfl, (hctA.stays hb).cell 1 rfl, (hct9.stays hb).cell 0 rfl, (hct9.stays hb).cell 1 rfl, convert_str (how9.stays hb).row⟩
    have HK := Lib.hid hK
    have hbd : Below W9.heap.size W9 W9.drew := (Below.refl _ _).drew
    have se := strB_eq p p
    rw [decide_eq_true rfl] at se
    clear hK how9 hctA hct9
    go_region_held (fun w' => Below W9.heap.size W9 w' ∧ w'.cell? ⟨w1.heap.size, 0, none⟩ = some (.int .i64 n) ∧ w'.cell? ⟨w1.heap.size, 1, none⟩ = some (.int .i64 k) ∧
        w'.cell? ⟨w8.heap.size, 0, none⟩ = some (.int .i64 n) ∧ w'.cell? ⟨w8.heap.size, 1, none⟩ = some (.int .i64 k) ∧ (convert 27 9 (.slice ap p.length cp)).run Tryd.prog w' = .ok (.string (strB p)) w')
      (exact HK.out _ (by assumption))
      ((go_at_call 34; refine (tPutR_any n k _ h1 h2 h3 h4).mono ?_; rintro e wA ⟨vA, rfl, howA, hbA⟩; rw [← Hp1.out] at howA; have sC := convert_str howA.row; have hbB := Below.trans (B := W9.heap.size) (a := W9) (by assumption) (hbA.mono (Below.size (by assumption)))))
    all_goals clear HK hbA
    all_goals go_wp2_with fail
    all_goals go_ret
    all_goals exact ⟨rfl, hbe9.trans (hbB.mono hbe9.size)⟩
  · have hT' := hT.out
    rw [if_neg hq0] at hT'
    subst hT'
    have bq0 : ((q : Int) != 0) = true := by simp; omega
    clear hq0 hT
    go_wp2_with fail
    go_ret
    exact ⟨rfl, hbe7⟩
end Go.Proofs.YtepogpihmpdeaaaDoor
