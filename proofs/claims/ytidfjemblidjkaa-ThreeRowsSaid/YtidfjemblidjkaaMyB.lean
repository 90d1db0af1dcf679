/- The walks of myers.behind's methods. -/
import Derived.Test.YtidfjemblidjkaaMyR
namespace Go.Proofs.Ytidfjemblidjkaa
open Go Go.RowKit
set_option linter.unusedVariables false
/-- a behind in block g: its two rows -/
structure Bh (w : World) (g : Nat) (va vb : Value) (a b : List Int) : Prop where
  c0 : w.cell? ⟨g, 0, none⟩ = some va
  c1 : w.cell? ⟨g, 1, none⟩ = some vb
  ra : RowZ w va a
  rb : RowZ w vb b
theorem Bh.below {w w' : World} {g : Nat} {va vb : Value} {a b : List Int} (h : Bh w g va vb a b) (hb : Below w.heap.size w w') : Bh w' g va vb a b :=
  ⟨cell_below hb h.c0, cell_below hb h.c1, h.ra.stays hb, h.rb.stays hb⟩
/-- the rows by edits: the first n of them are reckoned -/
def RowsTo (w : World) (g gr m cap n : Nat) (a b : List Int) : Prop :=
  w.cell? ⟨g, 2, none⟩ = some (.slice (some ⟨gr, 0, none⟩) m cap) ∧ ∀ e, e < n → e < m ∧ ∃ ge, w.cell? ⟨gr, e, none⟩ = some (.slice (some ⟨ge, 0, none⟩) (2 * e + 1) (2 * e + 1)) ∧ ∀ i, i ≤ 2 * e → w.cell? ⟨ge, i, none⟩ = some (.int .i64 (lst a b e (dEnd a b + i - e)))
theorem RowsTo.below {w w' : World} {g gr m cap n : Nat} {a b : List Int} (h : RowsTo w g gr m cap n a b) (hb : Below w.heap.size w w') : RowsTo w' g gr m cap n a b :=
  ⟨cell_below hb h.1, fun e he => by
    obtain ⟨h1, ge, h2, h3⟩ := h.2 e he
    exact ⟨h1, ge, cell_below hb h2, fun i hi => cell_below hb (h3 i hi)⟩⟩
theorem lst_out {a b : List Int} {e : Nat} {d : Int} (h : d < dEnd a b - e ∨ dEnd a b + e < d) : lst a b e d = unr := by
  cases e with
  | zero => unfold lst; rw [if_neg (by omega)]
  | succ e => unfold lst; rw [if_neg (by push_cast at h; omega)]
def firZ (a b : List Int) (d : Int) : Int := if d = dEnd a b then slideZ a b a.length d else unr
theorem dEnd_le (a b : List Int) : -(b.length : Int) ≤ dEnd a b ∧ dEnd a b ≤ a.length := by unfold dEnd; omega
section
variable (g : Nat) (va vb : Value) (a b : List Int) (w : World) (hB : Bh w g va vb a b) (hla : a.length ≤ 400) (hlb : b.length ≤ 400)
include hB hla hlb
set_option maxRecDepth 100000 in
set_option maxHeartbeats 1000000 in
theorem end_any : Calls Try.prog 54 #[.pointer (some ⟨g, 0, none⟩)] w fun e w' => e = .returned (.int .i64 (dEnd a b)) ∧ Below w.heap.size w w' := by
  have HD : Hid ((a.length : Int) - b.length = dEnd a b) := rfl
  obtain ⟨c0, c1, ra, rb⟩ := hB
  obtain ⟨aa, ca, rfl, -, -⟩ := ra.gen.shape
  obtain ⟨ab, cb, rfl, -, -⟩ := rb.gen.shape
  clear ra rb
  go_enter Try.func54, Try.ntmps54
  go_wp2_with fail
  go_region
  all_goals go_wp2_with fail
  all_goals go_ret
  all_goals exact ⟨ret1 (by rw [← HD.out]; rfl), (Below.refl _ _).drew⟩
omit hB hla hlb in
theorem shift_any (e : Nat) : Calls Try.prog 55 #[.pointer (some ⟨g, 0, none⟩), .int .i64 e] w fun x w' => x = .returned (.int .i64 e) ∧ w = w' := by
  go_enter Try.func55, Try.ntmps55
  go_wp2_with fail
  go_ret
  exact ⟨rfl, rfl⟩
set_option maxRecDepth 100000 in
set_option maxHeartbeats 2000000 in
theorem slide_any (x y : Nat) (d : Int) (hx : x ≤ a.length) (hy : y ≤ b.length) (hd : (x : Int) - d = y) : Calls Try.prog 57 #[.pointer (some ⟨g, 0, none⟩), .int .i64 x, .int .i64 d] w fun e w' => e = .returned (.int .i64 (slideN a b x y)) ∧ Below w.heap.size w w' := by
  have hd1 : -400 ≤ d := by omega
  have hd2 : d ≤ 400 := by omega
  have HD := Lib.hid hd
  have HB := Lib.hid hB
  obtain ⟨c0, c1, ra, rb⟩ := hB
  obtain ⟨aa, ca, rfl, -, hia⟩ := ra.gen.shape
  obtain ⟨ab, cb, rfl, -, hib⟩ := rb.gen.shape
  have HIA := Lib.hid hia
  have HIB := Lib.hid hib
  have HC0 := Lib.hid c0
  have HC1 := Lib.hid c1
  clear ra rb hia hib hd c0 c1
  go_enter Try.func57, Try.ntmps57
  go_wp2_with fail
  go_loopw [1] (fun v wr => ∃ x' y' : Nat, v = .int .i64 x' ∧ x' ≤ a.length ∧ y' ≤ b.length ∧ Hid ((x' : Int) - d = y') ∧ Hid (slideN a b x' y' = slideN a b x y) ∧ Below w.heap.size w wr) (fun v _ => (intOf v).toNat)
  case atStart => exact ⟨x, y, rfl, hx, hy, HD.out, rfl, Below.refl _ _⟩
  case round =>
    obtain ⟨x', y', rfl, hx', hy', HD', HS, hbe⟩ := hrel
    by_cases h1 : x' = 0
    · subst h1
      have hv : slideN a b 0 y' = 0 := by simp [slideN]
      have HS2 := Lib.hid (hv.symm.trans HS.out)
      clear hv HS
      have e1 : decide (((0 : Nat) : Int) > 0) = false := rfl
      go_wp2_with fail
      go_region
      all_goals go_wp2_with fail
      all_goals go_ret
      all_goals exact ⟨ret1 (by rw [← HS2.out]; rfl), hbe.drew⟩
    · have e1 : decide ((x' : Int) > 0) = true := by simp; omega
      have f1 : 0 < x' := by omega
      have f1' : decide (0 < x') = true := by simp; omega
      by_cases h2 : y' = 0
      · subst h2
        obtain ⟨p, rfl⟩ : ∃ p, x' = p + 1 := ⟨x' - 1, by omega⟩
        have hv : slideN a b (p + 1) 0 = p + 1 := by simp [slideN]
        have HS2 := Lib.hid (hv.symm.trans HS.out)
        have e2 : decide (((p + 1 : Nat) : Int) - d > 0) = false := by have := HD'.out; rw [this]; rfl
        have e2' : decide (d < ((p + 1 : Nat) : Int)) = false := by have := HD'.out; simp only [decide_eq_false_iff_not]; omega
        clear hv HS h1
        obtain ⟨X, hX⟩ : ∃ X, X = p + 1 := ⟨_, rfl⟩
        rw [← hX] at e1 e2 e2' f1 f1' hx' ⊢
        have HX := Lib.hid hX
        clear hX
        go_wp2_with fail
        go_region
        all_goals go_wp2_with fail
        all_goals go_ret
        all_goals exact ⟨ret1 (by rw [← HS2.out, ← HX.out]; rfl), hbe.drew⟩
      · have e2 : decide ((x' : Int) - d > 0) = true := by have := HD'.out; rw [this]; simp; omega
        have e2' : decide (d < (x' : Int)) = true := by have := HD'.out; simp only [decide_eq_true_eq]; omega
        obtain ⟨p, hp⟩ : ∃ p, x' = p + 1 := ⟨x' - 1, by omega⟩
        obtain ⟨q, hq⟩ : ∃ q, y' = q + 1 := ⟨y' - 1, by omega⟩
        have hpa : p < a.length := by omega
        have hqb : q < b.length := by omega
        have q1 : (x' : Int) - 1 = (p : Int) := by omega
        have q2 : (p : Int) - d = (q : Int) := by have := HD'.out; omega
        have HP := Lib.hid hp
        have HQ := Lib.hid hq
        obtain ⟨gb, ob, rfl, hcb⟩ := HIB.out q _ (List.getElem?_eq_getElem hqb)
        obtain ⟨ga, oa, rfl, hca⟩ := HIA.out p _ (List.getElem?_eq_getElem hpa)
        have d3 : wr.cell? ⟨ga, oa + p, none⟩ = some (.int .i64 a[p]) := cell_below hbe hca
        have d4 : wr.cell? ⟨gb, ob + q, none⟩ = some (.int .i64 b[q]) := cell_below hbe hcb
        have d5 := cell_below hbe HC0.out
        have d6 := cell_below hbe HC1.out
        clear hp hq hca hcb h1 h2
        by_cases h3 : a[p] = b[q]
        · have e3 : (a[p] == b[q]) = true := by simp [h3]
          have HV : Hid (slideN a b x' y' = slideN a b p q) := by show _ = _; rw [HP.out, HQ.out, slideN, if_pos (by rw [List.getElem?_eq_getElem hpa, List.getElem?_eq_getElem hqb, h3])]
          clear h3
          go_wp2_with fail
          go_region
          all_goals go_wp2_with fail
          all_goals go_roundw
          case rel => exact ⟨p, q, rfl, by omega, by omega, by have := HD'.out; have := HP.out; have := HQ.out; show _ = _; omega, by show _ = _; rw [← HS.out, HV.out], hbe.drew⟩
          case measure => simp only [intOf]; omega
        · have e3 : (a[p] == b[q]) = false := by simp [h3]
          have HV : Hid (slideN a b x' y' = x') := by show _ = _; rw [HP.out, HQ.out, slideN, if_neg (by rw [List.getElem?_eq_getElem hpa, List.getElem?_eq_getElem hqb]; simpa using h3)]
          clear h3
          go_wp2_with fail
          go_region
          all_goals go_wp2_with fail
          all_goals go_ret
          all_goals exact ⟨ret1 (by rw [← HS.out, HV.out]; rfl), hbe.drew⟩
theorem first_any (d : Int) (hd1 : -1000 ≤ d) (hd2 : d ≤ 1000) : Calls Try.prog 56 #[.pointer (some ⟨g, 0, none⟩), .int .i64 d] w fun e w' => e = .returned (.int .i64 (firZ a b d)) ∧ Below w.heap.size w w' := by
  have HE := Lib.hid (end_any g va vb a b w hB hla hlb)
  have hde := dEnd_le a b
  by_cases h : d = dEnd a b
  · have HS := fun w' hbe => slide_any g va vb a b w' (hB.below hbe) hla hlb a.length b.length d (Nat.le_refl _) (Nat.le_refl _) (by rw [h]; unfold dEnd; omega)
    have HS' := Lib.hid HS
    have HV : Hid (slideN a b a.length b.length = firZ a b d) := by
      show _ = _
      unfold firZ; rw [if_pos h]; unfold slideZ; rw [Int.toNat_natCast, show ((a.length : Int) - d).toNat = b.length from by rw [h]; unfold dEnd; omega]
    have e1 : (d != dEnd a b) = false := by simp [h]
    have c0 := hB.c0
    have hbb := fun w' (hbe : Below w.heap.size w w') => (hB.below hbe).c0
    have HC := Lib.hid hbb
    obtain ⟨aa, ca, rfl, -, -⟩ := hB.ra.gen.shape
    clear hB h HS c0 hbb
    go_enter Try.func56, Try.ntmps56
    go_wp2_with fail
    refine HE.out.mono ?_
    rintro e w1 ⟨rfl, hb1⟩
    have c0 := HC.out _ hb1
    go_wp2_with fail
    refine (HS'.out _ hb1).mono ?_
    rintro e w2 ⟨rfl, hb2⟩
    go_wp2_with fail
    go_ret
    exact ⟨ret1 (by rw [← HV.out]; rfl), hb1.trans (hb2.mono hb1.size)⟩
  · have HV : Hid (unr = firZ a b d) := by show _ = _; unfold firZ; rw [if_neg h]
    have e1 : (d != dEnd a b) = true := by simp [h]
    clear hB h
    go_enter Try.func56, Try.ntmps56
    go_wp2_with fail
    refine HE.out.mono ?_
    rintro e w1 ⟨rfl, hb1⟩
    go_wp2_with fail
    go_ret
    exact ⟨ret1 (by rw [← HV.out]; rfl), hb1⟩
theorem least_any (gr m cap n e : Nat) (hR : RowsTo w g gr m cap n a b) (he : e < n) (he2 : e ≤ 1000) (hm : m ≤ 1000) (d : Int) (hd1 : -1000 ≤ d) (hd2 : d ≤ 1000) : Calls Try.prog 52 #[.pointer (some ⟨g, 0, none⟩), .int .i64 e, .int .i64 d] w fun x w' => x = .returned (.int .i64 (lst a b e d)) ∧ Below w.heap.size w w' := by
  have HE := Lib.hid (end_any g va vb a b w hB hla hlb)
  have hde := dEnd_le a b
  have HR : Hid (∀ w', Below w.heap.size w w' → RowsTo w' g gr m cap n a b) := fun w' hbe => hR.below hbe
  clear hB hR
  go_enter Try.func52, Try.ntmps52
  go_wp2_with fail
  refine HE.out.mono ?_
  rintro x w1 ⟨rfl, hb1⟩
  have hr := HR.out _ hb1
  obtain ⟨r0, r1⟩ := hr
  obtain ⟨hem, ge, r2, r3⟩ := r1 e he
  have HR3 := Lib.hid r3
  clear r1 r3
  obtain ⟨D, hD⟩ : ∃ D, D = dEnd a b := ⟨_, rfl⟩
  have HD := Lib.hid hD
  rw [← hD] at hde ⊢
  clear hD
  obtain ⟨i, hi⟩ : ∃ i, i = d - D + e := ⟨_, rfl⟩
  have hi1 : d - D + e ≤ 3000 := by omega
  have hi2 : -3000 ≤ d - D + e := by omega
  have HS := shift_any g
  by_cases h1 : i < 0
  · have e1 : decide (d - D + e < 0) = true := by rw [← hi]; simpa using h1
    have HV : Hid (lst a b e d = unr) := lst_out (.inl (by rw [← HD.out]; omega))
    clear hi h1
    go_wp2_with fail
    refine (HS _ _).mono ?_
    rintro x w2 ⟨rfl, rfl⟩
    go_wp2_with fail
    go_ret
    exact ⟨ret1 (by rw [HV.out]; rfl), hb1⟩
  · obtain ⟨j, rfl⟩ := Int.eq_ofNat_of_zero_le (by omega : 0 ≤ i)
    have e1 : decide (d - D + e < 0) = false := by rw [← hi]; simp
    have q1 : d - D + e = (j : Int) := by rw [← hi]
    have hj : (j : Int) ≤ 3000 := by omega
    have q1' := Lib.hid q1
    clear hi h1
    by_cases h2 : j ≤ 2 * e
    · have r4 := HR3.out j h2
      have e2 : decide ((j : Int) ≥ 2 * e + 1) = false := by simp; omega
      have HV : Hid (lst a b e (dEnd a b + j - e) = lst a b e d) := by show _ = _; rw [← HD.out]; congr 1; first | done | omega
      go_wp2_with fail
      refine (HS _ _).mono ?_
      rintro x w2 ⟨rfl, rfl⟩
      go_wp2_with fail
      go_ret
      exact ⟨ret1 (by rw [← HV.out]; rfl), hb1⟩
    · have e2 : decide ((j : Int) ≥ 2 * e + 1) = true := by simp; omega
      have HV : Hid (lst a b e d = unr) := lst_out (.inr (by rw [← HD.out]; omega))
      go_wp2_with fail
      refine (HS _ _).mono ?_
      rintro x w2 ⟨rfl, rfl⟩
      go_wp2_with fail
      go_ret
      exact ⟨ret1 (by rw [HV.out]; rfl), hb1⟩
theorem step_zero (d : Int) (hd1 : -1000 ≤ d) (hd2 : d ≤ 1000) : Calls Try.prog 53 #[.pointer (some ⟨g, 0, none⟩), .int .i64 0, .int .i64 d] w fun x w' => x = .returned (.int .i64 (stepO a b d)) ∧ Below w.heap.size w w' := by
  have HF := Lib.hid (first_any g va vb a b w hB hla hlb d hd1 hd2)
  obtain ⟨c0, c1, ra, rb⟩ := hB
  obtain ⟨aa, ca, rfl, -, -⟩ := ra.gen.shape
  obtain ⟨ab, cb, rfl, -, -⟩ := rb.gen.shape
  clear ra rb
  by_cases h : d < -(b.length : Int) ∨ (a.length : Int) < d
  · have HV : Hid (stepO a b d = unr) := if_pos h
    by_cases h1 : d < -(b.length : Int)
    · have e1 : decide (d < -(b.length : Int)) = true := by simpa using h1
      clear h h1
      go_enter Try.func53, Try.ntmps53
      go_wp2_with fail
      go_ret
      exact ⟨ret1 (by rw [HV.out]; rfl), Below.refl _ _⟩
    · have e1 : decide (d < -(b.length : Int)) = false := by simpa using h1
      have e2 : decide (d > (a.length : Int)) = true := by simp; omega
      clear h h1
      go_enter Try.func53, Try.ntmps53
      go_wp2_with fail
      go_ret
      exact ⟨ret1 (by rw [HV.out]; rfl), Below.refl _ _⟩
  · have HV : Hid (stepO a b d = firZ a b d) := if_neg h
    have e1 : decide (d < -(b.length : Int)) = false := by simp; omega
    have e2 : decide (d > (a.length : Int)) = false := by simp; omega
    clear h
    go_enter Try.func53, Try.ntmps53
    go_wp2_with fail
    refine HF.out.mono ?_
    rintro x w1 ⟨rfl, hb1⟩
    go_wp2_with fail
    go_ret
    exact ⟨ret1 (by rw [HV.out]; rfl), hb1⟩
omit hB in
theorem lst_bd (e : Nat) (d : Int) : 0 ≤ lst a b e d ∧ (lst a b e d = unr ∨ lst a b e d ≤ 400) ∧ lst a b e d ≤ 1073741824 := by
  have := (reach_all (a := a) (b := b) (by omega) (by omega) e).1 d
  have := unr_def
  omega
theorem step_succ (gr m cap n e : Nat) (hR : RowsTo w g gr m cap n a b) (he : e < n) (he2 : e ≤ 999) (hm : m ≤ 1000) (d : Int) (hd1 : -900 ≤ d) (hd2 : d ≤ 900) : Calls Try.prog 53 #[.pointer (some ⟨g, 0, none⟩), .int .i64 ((e : Int) + 1), .int .i64 d] w fun x w' => x = .returned (.int .i64 (stepE a b (e + 1) (lst a b e) d)) ∧ Below w.heap.size w w' := by
  have HS : Hid (stepE a b (e + 1) (lst a b e) d = stepZ a b d (lst a b e d) (lst a b e (d + 1)) (lst a b e (d - 1))) := rfl
  have HL := fun w' (hbe : Below w.heap.size w w') d h1 h2 => least_any g va vb a b w' (hB.below hbe) hla hlb gr m cap n e (hR.below hbe) he (by omega) hm d h1 h2
  have HL' := Lib.hid HL
  have HP : Hid (-(b.length : Int) ≤ d → d ≤ a.length → _ ∨ _) := Lib.hid (reach_pick (a := a) (b := b) (by omega) (by omega) (reach_all (by omega) (by omega) e) d)
  have bd0 := lst_bd a b hla hlb e d
  have bd1 := lst_bd a b hla hlb e (d + 1)
  have bd2 := lst_bd a b hla hlb e (d - 1)
  have hSl := fun w' (hbe : Below w.heap.size w w') x y h1 h2 h3 => slide_any g va vb a b w' (hB.below hbe) hla hlb x y d h1 h2 h3
  have HSl := Lib.hid hSl
  obtain ⟨C, hC⟩ : ∃ C, C = lst a b e d := ⟨_, rfl⟩
  obtain ⟨C1, hC1⟩ : ∃ C, C = lst a b e (d + 1) := ⟨_, rfl⟩
  obtain ⟨C2, hC2⟩ : ∃ C, C = lst a b e (d - 1) := ⟨_, rfl⟩
  rw [← hC, ← hC1, ← hC2] at HP HS
  rw [← hC] at bd0
  rw [← hC1] at bd1
  rw [← hC2] at bd2
  have HC := Lib.hid hC
  have HC1 := Lib.hid hC1
  have HC2 := Lib.hid hC2
  obtain ⟨c0, c1, ra, rb⟩ := hB
  obtain ⟨aa, ca, rfl, -, -⟩ := ra.gen.shape
  obtain ⟨ab, cb, rfl, -, -⟩ := rb.gen.shape
  clear ra rb HL hSl hC hC1 hC2 hR
  by_cases h : d < -(b.length : Int) ∨ (a.length : Int) < d
  · have HV : Hid (stepZ a b d C C1 C2 = unr) := if_pos h
    by_cases h1 : d < -(b.length : Int)
    · have e1 : decide (d < -(b.length : Int)) = true := by simpa using h1
      clear h h1
      go_enter Try.func53, Try.ntmps53
      go_wp2_with fail
      go_ret
      exact ⟨ret1 (by rw [HS.out, HV.out]; rfl), Below.refl _ _⟩
    · have e1 : decide (d < -(b.length : Int)) = false := by simpa using h1
      have e2 : decide (d > (a.length : Int)) = true := by simp; omega
      clear h h1
      go_enter Try.func53, Try.ntmps53
      go_wp2_with fail
      go_ret
      exact ⟨ret1 (by rw [HS.out, HV.out]; rfl), Below.refl _ _⟩
  · have e1 : decide (d < -(b.length : Int)) = false := by simp; omega
    have e2 : decide (d > (a.length : Int)) = false := by simp; omega
    have e0 : ((e : Int) + 1 == 0) = false := by simp; omega
    have HV : Hid (stepZ a b d C C1 C2 = if pick3 C C1 C2 (max d 0) = unr then unr else slideZ a b (pick3 C C1 C2 (max d 0)) d) := if_neg h
    have hd3 : -(b.length : Int) ≤ d := by omega
    have hd4 : d ≤ a.length := by omega
    have HP2 := Lib.hid (HP.out hd3 hd4)
    have HBD := Lib.hid (And.intro bd0 (And.intro bd1 bd2))
    have k0 := bd0.1
    have k0' := bd0.2.2
    have k1 := bd1.1
    have k1' := bd1.2.2
    have k2 := bd2.1
    have k2' := bd2.2.2
    obtain ⟨L, hL⟩ : ∃ L, L = max d 0 := ⟨_, rfl⟩
    have hL1 : 0 ≤ L := by omega
    have hL2 : L ≤ 900 := by omega
    have hL3 : d ≤ L := by omega
    have hL4 : d < 0 → L = 0 := by omega
    have hL5 : 0 ≤ d → L = d := by omega
    have HL45 := Lib.hid (And.intro hL4 hL5)
    rw [← hL] at HP2 HV
    obtain ⟨X1, hX1⟩ : ∃ X1, X1 = min C (from1 C1 L) := ⟨_, rfl⟩
    have hu := unr_def
    have hf1 : 0 ≤ from1 C1 L ∧ from1 C1 L ≤ 1073741824 := by unfold from1; split <;> omega
    have hf2 : 0 ≤ from2 C2 L ∧ from2 C2 L ≤ 1073741824 := by unfold from2; split <;> omega
    obtain ⟨X2, hX2⟩ : ∃ X2 : Nat, (X2 : Int) = min X1 (from2 C2 L) := ⟨(min X1 (from2 C2 L)).toNat, by omega⟩
    have hp : pick3 C C1 C2 L = (X2 : Int) := by rw [hX2, hX1]; rfl
    rw [hp] at HP2 HV
    have hX1a : 0 ≤ X1 := by omega
    have hX1b : X1 ≤ 1073741824 := by omega
    have hX2b : (X2 : Int) ≤ 1073741824 := by omega
    have HX1 := Lib.hid hX1
    have HX2 := Lib.hid hX2
    clear h HP bd0 bd1 bd2 hL hL4 hL5 hX1 hX2 hp hu hf1 hf2
    go_enter Try.func53, Try.ntmps53
    go_upto_region 5 with fail
    go_cut [7] from 33 to 34 (fun v wx => v = .int .i64 L ∧ w = wx)
    case first =>
      by_cases h : d < 0
      · have hl := HL45.out.1 h
        subst hl
        go_wp2_with fail
        go_meet
        case rel => exact ⟨rfl, rfl⟩
      · have hl := HL45.out.2 (by omega)
        subst hl
        go_wp2_with fail
        go_meet
        case rel => exact ⟨rfl, rfl⟩
    case rest =>
      obtain ⟨rfl, rfl⟩ := hcut
      go_wp2_with fail
      refine (HL'.out _ (Below.refl _ _) d (by omega) (by omega)).mono ?_
      rintro x w1 ⟨rfl, hb1⟩
      rw [← HC.out]
      go_wp2_with fail
      refine (HL'.out _ hb1 (d + 1) (by omega) (by omega)).mono ?_
      rintro x w2 ⟨rfl, hb2⟩
      have hb3 := hb1.trans (hb2.mono hb1.size)
      clear hb1 hb2
      rw [← HC1.out]
      go_upto_if 47 with fail
      go_cut [8] from 47 to 53 (fun v wx => v = .int .i64 X1 ∧ w2 = wx)
      case first =>
        by_cases h1 : C1 = unr
        · have e3 : (C1 != 1073741824) = false := by simpa [unr] using h1
          have HU := Lib.hid h1
          clear h1
          go_wp2_with fail
          go_meet
          case rel => exact ⟨vint (by have := HX1.out; unfold from1 at this; rw [if_pos HU.out] at this; have := unr_def; omega), rfl⟩
        · have e3 : (C1 != 1073741824) = true := by simpa [unr] using h1
          have HM : Hid (X1 = min C (max (C1 - 1) L)) := by have := HX1.out; unfold from1 at this; rw [if_neg h1] at this; exact this
          clear h1
          by_cases h2 : C1 - 1 < L
          · by_cases h3 : L < C
            · go_wp2_with fail
              go_meet
              case rel => exact ⟨vint (by have := HM.out; omega), rfl⟩
            · have h3' : C ≤ L := by omega
              go_wp2_with fail
              go_meet
              case rel => exact ⟨vint (by have := HM.out; omega), rfl⟩
          · have h2' : L ≤ C1 - 1 := by omega
            by_cases h3 : C1 - 1 < C
            · go_wp2_with fail
              go_meet
              case rel => exact ⟨vint (by have := HM.out; omega), rfl⟩
            · have h3' : C ≤ C1 - 1 := by omega
              go_wp2_with fail
              go_meet
              case rel => exact ⟨vint (by have := HM.out; omega), rfl⟩
      case rest =>
        obtain ⟨rfl, rfl⟩ := hcut
        go_wp2_with fail
        refine (HL'.out _ hb3 (d - 1) (by omega) (by omega)).mono ?_
        rintro x w3 ⟨rfl, hb4⟩
        have hb5 := hb3.trans (hb4.mono hb3.size)
        clear hb3 hb4
        rw [← HC2.out]
        go_upto_if 61 with fail
        go_cut [8] from 61 to 66 (fun v wx => v = .int .i64 (X2 : Int) ∧ w3 = wx)
        case first =>
          by_cases h1 : C2 = unr
          · have e3 : (C2 != 1073741824) = false := by simpa [unr] using h1
            have HU := Lib.hid h1
            clear h1
            go_wp2_with fail
            go_meet
            case rel => exact ⟨vint (by have := HX2.out; unfold from2 at this; rw [if_pos HU.out] at this; have := unr_def; omega), rfl⟩
          · have e3 : (C2 != 1073741824) = true := by simpa [unr] using h1
            have HM : Hid ((X2 : Int) = min X1 (max (C2) L)) := by have := HX2.out; unfold from2 at this; rw [if_neg h1] at this; exact this
            clear h1
            by_cases h2 : C2 < L
            · by_cases h3 : L < X1
              · go_wp2_with fail
                go_meet
                case rel => exact ⟨vint (by have := HM.out; omega), rfl⟩
              · have h3' : X1 ≤ L := by omega
                go_wp2_with fail
                go_meet
                case rel => exact ⟨vint (by have := HM.out; omega), rfl⟩
            · have h2' : L ≤ C2 := by omega
              by_cases h3 : C2 < X1
              · go_wp2_with fail
                go_meet
                case rel => exact ⟨vint (by have := HM.out; omega), rfl⟩
              · have h3' : X1 ≤ C2 := by omega
                go_wp2_with fail
                go_meet
                case rel => exact ⟨vint (by have := HM.out; omega), rfl⟩
        case rest =>
          obtain ⟨rfl, rfl⟩ := hcut
          by_cases h4 : (X2 : Int) = unr
          · have e4 : ((X2 : Int) == 1073741824) = true := by simpa [unr] using h4
            have e4' : (X2 == 1073741824) = true := by simp; have := unr_def; omega
            have HU := Lib.hid h4
            have HW : Hid (stepZ a b d C C1 C2 = unr) := HV.out.trans (if_pos h4)
            clear h4
            go_wp2_with fail
            go_ret
            exact ⟨ret1 (by rw [HS.out, HW.out, ← HU.out]; rfl), hb5⟩
          · have e4 : ((X2 : Int) == 1073741824) = false := by simpa [unr] using h4
            have e4' : (X2 == 1073741824) = false := by simp; have := unr_def; omega
            have HW : Hid (stepZ a b d C C1 C2 = slideZ a b X2 d) := HV.out.trans (if_neg h4)
            obtain ⟨t1, t2, t3, t4, t5⟩ := HP2.out.resolve_left h4
            obtain ⟨Y, hY⟩ := Int.eq_ofNat_of_zero_le (by omega : 0 ≤ (X2 : Int) - d)
            have hc := HSl.out _ hb5 X2 Y (by omega) (by omega) hY
            have HZ : Hid (((slideN a b X2 Y : Nat) : Int) = slideZ a b X2 d) := by show _ = _; unfold slideZ; rw [Int.toNat_natCast, hY]; rfl
            have HCC := Lib.hid hc
            clear h4 hY t1 t2 t3 t4 t5 hc
            go_wp2_with fail
            refine HCC.out.mono ?_
            rintro x w4 ⟨rfl, hb6⟩
            go_wp2_with fail
            go_ret
            exact ⟨ret1 (by rw [HS.out, HW.out, ← HZ.out]; rfl), hb5.trans (hb6.mono hb5.size)⟩
end
end Go.Proofs.Ytidfjemblidjkaa
