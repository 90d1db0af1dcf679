/- rec.number, Parse, over a right record's bytes. -/
import Derived.Test.YtgehbabcpmkgaaaDoorRecB
import Derived.Test.YtgehbabcpmkgaaaDoorVputR
import Derived.Test.YtgehbabcpmkgaaaDoorVparse
import Derived.Test.YtgehbabcpmkgaaaDoorVmath
import Derived.Test.YtgehbabcpmkgaaaDoorClone
import Derived.Deep.CutBlock
import Derived.Deep.DeepCutAuto
namespace Go.Proofs.YtgehbabcpmkgaaaDoor
open Go Go.RowKit
set_option linter.unusedVariables false
set_option maxRecDepth 100000 in
set_option maxHeartbeats 4000000 in
theorem recNumber_any (ea : Nat → Addr) (v : Value) (n : Nat) (rest : List UInt8) (w0 w : World) (hn : n ≤ 400) (hlen : rest.length ≤ 2000) (hr : ∀ W, Below w0.heap.size w0 W → RowB W v (vput n ++ rest)) (hw : Below w0.heap.size w0 w) (he2 : ErrAt w 3 (ea 2)) (he4 : ErrAt w 9 (ea 4)) :
    Calls Tryd.prog 82 #[v] w fun e w' => ∃ v', e = .returned (.tuple #[.int .i64 n, v', .nilIface]) ∧ (∀ W, Below w0.heap.size w0 W → RowB W v' rest) ∧ Below w.heap.size w w' := by
  have hl10 := vput_len10 n (by omega)
  have hp0 := vput_pos n
  have hll : (vput n ++ rest).length ≤ 1000000 := by rw [List.length_append]; omega
  have hp := vParse_any ea v _ w (hr w hw) hll he2 he4
  rw [vparse_put n (by omega) rest] at hp
  have HP : Hid (Calls Tryd.prog 119 #[v] w fun e w' => e = .returned (.tuple #[.int .u64 n, .int .i64 (vput n).length, .nilIface]) ∧ Below w.heap.size w w') := hp
  clear hp
  obtain ⟨a, c, rfl, -, -⟩ := RowL.shape (f := BV) (hr w hw)
  have hcap := RowL.cap (f := BV) (hr w hw)
  have HPT : Hid (∀ w', Below w0.heap.size w0 w' → RowB w' (.slice (if c = (vput n).length then a else a.map fun x => x.add (vput n).length) ((vput n).length + rest.length - (vput n).length) (c - (vput n).length)) rest) := fun w' h => by
    have h1 := RowL.part (f := BV) (l := (vput n).length) (h := (vput n ++ rest).length) (hr w' h) (by rw [List.length_append]; omega) (Nat.le_refl _)
    rw [List.take_length, List.drop_left, List.length_append] at h1
    exact h1
  have HSZ : Hid (∀ w, Calls Tryd.prog 120 #[.int .u64 n] w fun e w' => e = .returned (.int .i64 (vput n).length) ∧ w = w') := fun w => vSize_any n w (by omega)
  clear hr he2 he4 hll
  rw [List.length_append] at HP hcap ⊢
  obtain ⟨L, hL⟩ : ∃ L, L = (vput n).length := ⟨_, rfl⟩
  rw [← hL] at hl10 hp0 HP hcap HPT HSZ ⊢
  clear hL hw
  go_enter Tryd.func82, Tryd.ntmps82
  go_wp2_with fail
  refine HP.out.mono ?_
  rintro e w1 ⟨rfl, hb1⟩
  clear HP
  go_wp2_with fail
  refine (HSZ.out _).mono ?_
  rintro e w2 ⟨rfl, rfl⟩
  have hn4 : (n : Int) ≤ 400 := by omega
  have hmn : min (n : Int) 400 = (n : Int) := by omega
  have hw1 : IntKind.i64.wrap (n : Int) = (n : Int) := IntWalk.i64_in _ (by omega)
  by_cases hc : c = L
  · subst hc
    obtain rfl : rest = [] := List.length_eq_zero_iff.1 (by omega)
    have HNL : Hid (∀ (w : World) (a : Option Addr), RowB w (.slice a 0 0) []) := fun w a => .inl ⟨rfl, rfl, a, 0, rfl⟩
    clear HPT hcap
    go_wp2_with fail
    go_region
    all_goals go_wp2_with fail
    all_goals go_ret3
    all_goals exact ⟨_, rfl, fun W _ => HNL.out _ _, hb1.drew⟩
  · have HPD : Hid (∀ w', Below w0.heap.size w0 w' → RowB w' (.slice (a.map fun x => x.add L) rest.length (c - L)) rest) := fun W h => by
      have := HPT.out W h
      rwa [if_neg hc, Nat.add_sub_cancel_left] at this
    clear HPT
    go_wp2_with fail
    go_region
    all_goals go_wp2_with fail
    all_goals go_ret3
    all_goals exact ⟨_, rfl, HPD.out, hb1.drew⟩
theorem cell_keep {w w' : World} (h : Below w.heap.size w w') {p : Addr} {v : Value} (hc : w.cell? p = some v) : w'.cell? p = some v := (h.cell (p := p) (World.block_lt_of_cell? w p hc)).trans hc
theorem rowB_other {w : World} {v : Value} {bs : List UInt8} (h : RowB w v bs) (p : Addr) (x : Value) (hne : ∀ k, v.ownBlock = some k → k ≠ p.block) : RowB (w.setCell p x) v bs :=
  Row.grown h (grownBy_setCell (grownBy_refl _ (some p.block)) p (.inl rfl) x) (fun k hk e => hne k hk (by cases e; rfl))
set_option maxRecDepth 100000 in
set_option maxHeartbeats 8000000 in
theorem recParse_any (ea : Nat → Addr) (v : Value) (k f t : Int) (body : List UInt8) (w : World) (hR : recR k f t = true) (hlen : body.length ≤ 1000) (hr : RowB w v (recB k f t body)) (he2 : ErrAt w 3 (ea 2)) (he4 : ErrAt w 9 (ea 4)) :
    Calls Tryd.prog 30 #[v] w fun e w' => ∃ v', e = .returned (.tuple #[.agg #[.int .i64 k, .int .i64 f, .int .i64 t, v'], .nilIface]) ∧ RowB w' v' body ∧ Below w.heap.size w w' := by
  obtain ⟨h1, h2, h3⟩ := recR_true hR
  obtain ⟨T, rfl⟩ := Int.eq_ofNat_of_zero_le h1
  obtain ⟨K, rfl⟩ := Int.eq_ofNat_of_zero_le (by omega : 0 ≤ k)
  have hK1 : 1 ≤ K := by omega
  have hK3 : K ≤ 3 := by omega
  have hT : T ≤ 399 := by omega
  have hl10 := vput_len10 T (by omega)
  have hp0 := vput_pos T
  obtain ⟨R1, hR1⟩ : ∃ R1, R1 = (if (K : Int) = 3 then vput ((T : Int) - f).toNat else []) ++ body := ⟨_, rfl⟩
  have hB : recB K f T body = b8 K :: (vput T ++ R1) := by rw [hR1]; rfl
  have hR1l : R1.length ≤ 1010 := by
    have := vput_len10 ((T : Int) - f).toNat (by omega)
    rw [hR1, List.length_append]
    split <;> simp <;> omega
  rw [hB] at hr
  obtain ⟨a, c, rfl, -, hin⟩ := RowL.shape (f := BV) hr
  obtain ⟨gb, ob, ha, d0⟩ := hin 0 (b8 K) rfl
  rw [Nat.add_zero, BV_b8, show ((K % 256 : Nat) : Int) = (K : Int) from by omega] at d0
  have hcap := RowL.cap (f := BV) hr
  have hM : (b8 K :: (vput T ++ R1)).length = (vput T).length + R1.length + 1 := by rw [List.length_cons, List.length_append]
  have hc1 : ¬ c = 1 := by omega
  have HPT : Hid (∀ w', Below w.heap.size w w' → RowB w' (.slice (some ⟨gb, ob + 1, none⟩) ((vput T).length + R1.length) (c - 1)) (vput T ++ R1)) := fun w' h => by
    have h1 := RowL.part (f := BV) (l := 1) (h := (b8 K :: (vput T ++ R1)).length) (RowB.stays hr h) (by omega) (Nat.le_refl _)
    rw [List.take_length, if_neg hc1, hM, ha] at h1
    exact h1
  rw [hM] at hcap ⊢
  subst ha
  have HE2 : Hid (∀ w', Below w.heap.size w w' → ErrAt w' 3 (ea 2)) := fun w' h => he2.stays h
  have HE4 : Hid (∀ w', Below w.heap.size w w' → ErrAt w' 9 (ea 4)) := fun w' h => he4.stays h
  have HKN : Hid (∀ w, Calls Tryd.prog 80 #[.int .i64 K] w fun e w' => e = .returned (.bool true) ∧ w = w') := fun w => by
    have := recKnown_any K w
    rwa [show recK K = true from decide_eq_true (by omega)] at this
  have hn0 : (((vput T).length + R1.length + 1 : Nat) : Int) ≠ 0 := by omega
  have hL9 : (vput T).length ≤ 10 := hl10
  have HNF : Hid (∀ WA, Below w.heap.size w WA → Calls Tryd.prog 82 #[.slice (some ⟨gb, ob + 1, none⟩) ((vput T).length + R1.length) (c - 1)] WA fun e w' => ∃ v', e = .returned (.tuple #[.int .i64 T, v', .nilIface]) ∧ (∀ W, Below w.heap.size w W → RowB W v' R1) ∧ Below WA.heap.size WA w') := fun WA h => recNumber_any ea _ T R1 w WA (by omega) (by omega) HPT.out h (HE2.out _ h) (HE4.out _ h)
  obtain ⟨L, hL⟩ : ∃ L, L = (vput T).length + R1.length := ⟨_, rfl⟩
  rw [← hL] at hcap HPT hn0 HNF ⊢
  have hL2 : L ≤ 2000 := by omega
  have hL1 : 1 ≤ L := by omega
  have HR := Lib.hid hR
  have HR1 := Lib.hid hR1
  have e0 : ((L : Int) + 1 == 0) = false := by simp; omega
  have hb0 : Below w.heap.size w (w.alloc (.cells #[.int .i64 0, .int .i64 0, .int .i64 0, .slice none 0 0] 37)) := (Below.refl _ _).alloc (Nat.le_refl _) _
  have d0' := cell_keep hb0 d0
  clear hn0
  clear hr hin hM hB hL he2 he4 hR hR1 h1 h2
  go_enter Tryd.func30, Tryd.ntmps30
  go_wp2_with fail
  refine (HKN.out _).mono ?_
  rintro e w1 ⟨rfl, rfl⟩
  have hx0 := (CellsAt.new (w.alloc (.cells #[.int .i64 0, .int .i64 0, .int .i64 0, .slice none 0 0] 37)) #[.int .i64 K, .int .i64 0, .int .i64 0, .slice none 0 0] 37)
  have hr0 := (CellsAt.new w #[.int .i64 0, .int .i64 0, .int .i64 0, .slice none 0 0] 37).stays ((Below.refl _ _).alloc (Nat.le_refl _) (.cells #[.int .i64 K, .int .i64 0, .int .i64 0, .slice none 0 0] 37))
  have hbA : Below w.heap.size w ((w.alloc (.cells #[.int .i64 0, .int .i64 0, .int .i64 0, .slice none 0 0] 37)).alloc (.cells #[.int .i64 K, .int .i64 0, .int .i64 0, .slice none 0 0] 37)) := hb0.alloc (by simp) _
  rw [World.size_alloc] at hx0
  obtain ⟨WA, hWA⟩ : ∃ WA, WA = (w.alloc (.cells #[.int .i64 0, .int .i64 0, .int .i64 0, .slice none 0 0] 37)).alloc (.cells #[.int .i64 K, .int .i64 0, .int .i64 0, .slice none 0 0] 37) := ⟨_, rfl⟩
  obtain ⟨gR, hgR⟩ : ∃ gR, gR = w.heap.size := ⟨_, rfl⟩
  rw [← hWA] at hx0 hr0 hbA ⊢
  rw [← hgR] at hx0 hr0 ⊢
  have hgw : w.heap.size ≤ gR := by omega
  clear hWA hgR d0 d0' hb0
  have HNM := Lib.hid (HNF.out _ hbA)
  go_wp2_with fail
  refine HNM.out.mono ?_
  rintro e w2 ⟨v5, rfl, hv5, hb2⟩
  have HV5 := Lib.hid hv5
  have hbe2 := hbA.trans (hb2.mono hbA.size)
  have hx2 := hx0.stays hb2
  have hr2 := hr0.stays hb2
  clear hv5 HNM hb2 hx0 hr0
  obtain ⟨a5, c5, rfl, -, -⟩ := RowL.shape (f := BV) (HV5.out w2 hbe2)
  have b0 := hx2.cell 0 (v := .int .i64 K) rfl
  have b1 := hx2.cell 1 (v := .int .i64 0) rfl
  have b2 := hx2.cell 2 (v := .int .i64 0) rfl
  have y1 := hx2.free 1
  have y2 := hx2.free 2
  have hgx : w.heap.size ≤ gR + 1 := by omega
  rcases (by omega : K = 1 ∨ K = 2 ∨ K = 3) with rfl | rfl | rfl
  · obtain rfl : f = -1 := by omega
    obtain rfl : R1 = body := by rw [HR1.out, if_neg (by decide)]; rfl
    have b0' : w2.cell? ⟨gR + 1, 0, none⟩ = some (.int .i64 1) := b0
    go_upto_region 20 with fail
    obtain ⟨Wc, hWc⟩ : ∃ Wc, Wc = (w2.setCell ⟨gR + 1, 2, none⟩ (.int .i64 T)).setCell ⟨gR + 1, 1, none⟩ (.int .i64 (-1)) := ⟨_, rfl⟩

    have hcx : CellsAt Wc (gR + 1) 37 #[.int .i64 (1 : Nat), .int .i64 (-1), .int .i64 T, .slice none 0 0] := by rw [hWc]; exact by simpa using (hx2.set 2 (.int .i64 T)).set 1 (.int .i64 (-1))
    have hcr : CellsAt Wc gR 37 #[.int .i64 0, .int .i64 0, .int .i64 0, .slice none 0 0] := by rw [hWc]; exact (hr2.other _ (by show gR ≠ gR + 1; omega) _).other _ (by show gR ≠ gR + 1; omega) _
    have hbc : Below w.heap.size w Wc := by rw [hWc]; exact (hbe2.setCell hgx _).setCell hgx _
    rw [← hWc]
    clear hWc
    have c0 := hcx.cell 0 (v := .int .i64 (1 : Nat)) rfl
    have c1 := hcx.cell 1 (v := .int .i64 (-1)) rfl
    have c2 := hcx.cell 2 (v := .int .i64 T) rfl
    have c3 := hcx.cell 3 (v := .slice none 0 0) rfl
    have HRT := Lib.hid (recRight_any (1 : Nat) (-1) T none 0 0 Wc (by omega) (by omega) (by omega) (by omega) (by omega) (by omega))
    rw [HR.out] at HRT
    go_wp2_with fail
    refine HRT.out.mono ?_
    rintro e w5 ⟨rfl, hb5⟩
    have hx5 := hcx.stays hb5
    have hr5 := hcr.stays hb5
    have hbe5 := hbc.trans (hb5.mono hbc.size)
    have HCL := Lib.hid (clone_any _ R1 w5 (HV5.out w5 hbe5) (by omega))
    clear hcx hcr hbc hb5 c0 c1 c2 c3 HRT
    go_wp2_with fail
    refine HCL.out.mono ?_
    rintro e w6 ⟨v6, rfl, o6, hb6⟩
    obtain ⟨a6, c6, rfl, -, -⟩ := RowL.shape (f := BV) o6.row
    have hx6 := hx5.stays hb6
    have hr6 := hr5.stays hb6
    have hbe6 := hbe5.trans (hb6.mono hbe5.size)
    have d0 := hx6.cell 0 (v := .int .i64 (1 : Nat)) rfl
    have d1 := hx6.cell 1 (v := .int .i64 (-1)) rfl
    have d2 := hx6.cell 2 (v := .int .i64 T) rfl
    have d3 := hx6.cell 3 (v := .slice none 0 0) rfl
    have e0 := hr6.cell 0 (v := .int .i64 0) rfl
    have e1 := hr6.cell 1 (v := .int .i64 0) rfl
    have e2 := hr6.cell 2 (v := .int .i64 0) rfl
    have e3 := hr6.cell 3 (v := .slice none 0 0) rfl
    have f3 := hx6.free 3
    have g0 := hr6.free 0
    have g1 := hr6.free 1
    have g2 := hr6.free 2
    have g3 := hr6.free 3
    have hk6 : ∀ k, (Value.slice a6 R1.length c6).ownBlock = some k → k ≠ gR + 1 ∧ k ≠ gR := fun k hk => by have := (o6.lt k hk).1; have := hx5.lt; omega
    have HRW := Lib.hid (rowB_other (rowB_other (rowB_other (rowB_other (rowB_other o6.row ⟨gR + 1, 3, none⟩ (.slice a6 R1.length c6) (fun k hk => (hk6 k hk).1)) ⟨gR, 0, none⟩ (.int .i64 (1 : Nat)) (fun k hk => (hk6 k hk).2)) ⟨gR, 1, none⟩ (.int .i64 (-1)) (fun k hk => (hk6 k hk).2)) ⟨gR, 2, none⟩ (.int .i64 T) (fun k hk => (hk6 k hk).2)) ⟨gR, 3, none⟩ (.slice a6 R1.length c6) (fun k hk => (hk6 k hk).2))
    have HBF : Hid (Below w.heap.size w (((((w6.setCell ⟨gR + 1, 3, none⟩ (.slice a6 R1.length c6)).setCell ⟨gR, 0, none⟩ (.int .i64 (1 : Nat))).setCell ⟨gR, 1, none⟩ (.int .i64 (-1))).setCell ⟨gR, 2, none⟩ (.int .i64 T)).setCell ⟨gR, 3, none⟩ (.slice a6 R1.length c6))) := ((((hbe6.setCell hgx _).setCell hgw _).setCell hgw _).setCell hgw _).setCell hgw _
    clear o6 hx5 hr5 hb6 HCL hk6
    go_wp2_with fail
    exact bodyPost_ret (v := .tuple #[.agg #[.int .i64 (1 : Nat), .int .i64 (-1), .int .i64 T, .slice a6 R1.length c6], .nilIface]) (by simp [results, Tryd.results30, go_sem, e0, e1, e2, e3]) rfl ⟨_, rfl, HRW.out, HBF.out⟩
  · obtain rfl : f = (T : Int) - 1 := by omega
    have hT1 : 1 ≤ T := by omega
    have hwT : IntKind.i64.wrap ((T : Int) - 1) = (T : Int) - 1 := IntWalk.i64_in _ (by omega)
    obtain rfl : R1 = body := by rw [HR1.out, if_neg (by decide)]; rfl
    have b0' : w2.cell? ⟨gR + 1, 0, none⟩ = some (.int .i64 2) := b0
    go_upto_region 20 with fail
    obtain ⟨Wc, hWc⟩ : ∃ Wc, Wc = (w2.setCell ⟨gR + 1, 2, none⟩ (.int .i64 T)).setCell ⟨gR + 1, 1, none⟩ (.int .i64 ((T : Int) - 1)) := ⟨_, rfl⟩
    have hcx : CellsAt Wc (gR + 1) 37 #[.int .i64 (2 : Nat), .int .i64 ((T : Int) - 1), .int .i64 T, .slice none 0 0] := by rw [hWc]; exact by simpa using (hx2.set 2 (.int .i64 T)).set 1 (.int .i64 ((T : Int) - 1))
    have hcr : CellsAt Wc gR 37 #[.int .i64 0, .int .i64 0, .int .i64 0, .slice none 0 0] := by rw [hWc]; exact (hr2.other _ (by show gR ≠ gR + 1; omega) _).other _ (by show gR ≠ gR + 1; omega) _
    have hbc : Below w.heap.size w Wc := by rw [hWc]; exact (hbe2.setCell hgx _).setCell hgx _
    rw [← hWc]
    clear hWc
    have c0 := hcx.cell 0 (v := .int .i64 (2 : Nat)) rfl
    have c1 := hcx.cell 1 (v := .int .i64 ((T : Int) - 1)) rfl
    have c2 := hcx.cell 2 (v := .int .i64 T) rfl
    have c3 := hcx.cell 3 (v := .slice none 0 0) rfl
    have HRT := Lib.hid (recRight_any (2 : Nat) ((T : Int) - 1) T none 0 0 Wc (by omega) (by omega) (by omega) (by omega) (by omega) (by omega))
    rw [HR.out] at HRT
    go_wp2_with fail
    refine HRT.out.mono ?_
    rintro e w5 ⟨rfl, hb5⟩
    have hx5 := hcx.stays hb5
    have hr5 := hcr.stays hb5
    have hbe5 := hbc.trans (hb5.mono hbc.size)
    have HCL := Lib.hid (clone_any _ R1 w5 (HV5.out w5 hbe5) (by omega))
    clear hcx hcr hbc hb5 c0 c1 c2 c3 HRT
    go_wp2_with fail
    refine HCL.out.mono ?_
    rintro e w6 ⟨v6, rfl, o6, hb6⟩
    obtain ⟨a6, c6, rfl, -, -⟩ := RowL.shape (f := BV) o6.row
    have hx6 := hx5.stays hb6
    have hr6 := hr5.stays hb6
    have hbe6 := hbe5.trans (hb6.mono hbe5.size)
    have d0 := hx6.cell 0 (v := .int .i64 (2 : Nat)) rfl
    have d1 := hx6.cell 1 (v := .int .i64 ((T : Int) - 1)) rfl
    have d2 := hx6.cell 2 (v := .int .i64 T) rfl
    have d3 := hx6.cell 3 (v := .slice none 0 0) rfl
    have e0 := hr6.cell 0 (v := .int .i64 0) rfl
    have e1 := hr6.cell 1 (v := .int .i64 0) rfl
    have e2 := hr6.cell 2 (v := .int .i64 0) rfl
    have e3 := hr6.cell 3 (v := .slice none 0 0) rfl
    have f3 := hx6.free 3
    have g0 := hr6.free 0
    have g1 := hr6.free 1
    have g2 := hr6.free 2
    have g3 := hr6.free 3
    have hk6 : ∀ k, (Value.slice a6 R1.length c6).ownBlock = some k → k ≠ gR + 1 ∧ k ≠ gR := fun k hk => by have := (o6.lt k hk).1; have := hx5.lt; omega
    have HRW := Lib.hid (rowB_other (rowB_other (rowB_other (rowB_other (rowB_other o6.row ⟨gR + 1, 3, none⟩ (.slice a6 R1.length c6) (fun k hk => (hk6 k hk).1)) ⟨gR, 0, none⟩ (.int .i64 (2 : Nat)) (fun k hk => (hk6 k hk).2)) ⟨gR, 1, none⟩ (.int .i64 ((T : Int) - 1)) (fun k hk => (hk6 k hk).2)) ⟨gR, 2, none⟩ (.int .i64 T) (fun k hk => (hk6 k hk).2)) ⟨gR, 3, none⟩ (.slice a6 R1.length c6) (fun k hk => (hk6 k hk).2))
    have HBF : Hid (Below w.heap.size w (((((w6.setCell ⟨gR + 1, 3, none⟩ (.slice a6 R1.length c6)).setCell ⟨gR, 0, none⟩ (.int .i64 (2 : Nat))).setCell ⟨gR, 1, none⟩ (.int .i64 ((T : Int) - 1))).setCell ⟨gR, 2, none⟩ (.int .i64 T)).setCell ⟨gR, 3, none⟩ (.slice a6 R1.length c6))) := ((((hbe6.setCell hgx _).setCell hgw _).setCell hgw _).setCell hgw _).setCell hgw _
    clear o6 hx5 hr5 hb6 HCL hk6
    go_wp2_with fail
    exact bodyPost_ret (v := .tuple #[.agg #[.int .i64 (2 : Nat), .int .i64 ((T : Int) - 1), .int .i64 T, .slice a6 R1.length c6], .nilIface]) (by simp [results, Tryd.results30, go_sem, e0, e1, e2, e3]) rfl ⟨_, rfl, HRW.out, HBF.out⟩
  · obtain ⟨D, hD⟩ := Int.eq_ofNat_of_zero_le (by omega : 0 ≤ (T : Int) - f)
    obtain rfl : f = (T : Int) - D := by omega
    have hD2 : 2 ≤ D := by omega
    have hDT : D ≤ T := by omega
    have hwT : IntKind.i64.wrap ((T : Int) - D) = (T : Int) - D := IntWalk.i64_in _ (by omega)
    have hR3 : R1 = vput D ++ body := by rw [HR1.out, if_pos (show ((3 : Nat) : Int) = 3 from rfl), hD]; rfl
    have HNF2 : Hid (∀ WA, Below w.heap.size w WA → Calls Tryd.prog 82 #[.slice a5 R1.length c5] WA fun e w' => ∃ v', e = .returned (.tuple #[.int .i64 D, v', .nilIface]) ∧ (∀ W, Below w.heap.size w W → RowB W v' body) ∧ Below WA.heap.size WA w') := fun WA h => recNumber_any ea _ D body w WA (by omega) (by omega) (by rw [← hR3]; exact HV5.out) h (HE2.out _ h) (HE4.out _ h)
    have b0' : w2.cell? ⟨gR + 1, 0, none⟩ = some (.int .i64 3) := b0
    have hxN : CellsAt (w2.setCell ⟨gR + 1, 2, none⟩ (.int .i64 T)) (gR + 1) 37 #[.int .i64 (3 : Nat), .int .i64 0, .int .i64 T, .slice none 0 0] := by simpa using hx2.set 2 (.int .i64 T)
    have hrN := hr2.other ⟨gR + 1, 2, none⟩ (by show gR ≠ gR + 1; omega) (.int .i64 T)
    have hbN : Below w.heap.size w (w2.setCell ⟨gR + 1, 2, none⟩ (.int .i64 T)) := hbe2.setCell hgx _
    have HNN := Lib.hid (HNF2.out _ hbN)
    clear hD hR3 HNF2 h3
    go_wp2_with fail
    refine HNN.out.mono ?_
    rintro e w7 ⟨v7, rfl, hv7, hb7⟩
    have HV7 := Lib.hid hv7
    have hbe7 := hbN.trans (hb7.mono hbN.size)
    have hx7 := hxN.stays hb7
    have hr7 := hrN.stays hb7
    obtain ⟨a7, c7, rfl, -, -⟩ := RowL.shape (f := BV) (HV7.out w7 hbe7)
    have y1 := hx7.free 1
    have z1 := hx7.cell 1 (v := .int .i64 0) rfl
    clear hv7 HNN hb7 hxN hrN hbN hx2 hr2 b0 b0' b1 b2 y2
    go_upto_region 20 with fail
    obtain ⟨Wc, hWc⟩ : ∃ Wc, Wc = w7.setCell ⟨gR + 1, 1, none⟩ (.int .i64 ((T : Int) - D)) := ⟨_, rfl⟩
    have hcx : CellsAt Wc (gR + 1) 37 #[.int .i64 (3 : Nat), .int .i64 ((T : Int) - D), .int .i64 T, .slice none 0 0] := by rw [hWc]; exact by simpa using hx7.set 1 (.int .i64 ((T : Int) - D))
    have hcr : CellsAt Wc gR 37 #[.int .i64 0, .int .i64 0, .int .i64 0, .slice none 0 0] := by rw [hWc]; exact hr7.other _ (by show gR ≠ gR + 1; omega) _
    have hbc : Below w.heap.size w Wc := by rw [hWc]; exact hbe7.setCell hgx _
    rw [← hWc]
    clear hWc
    have c0 := hcx.cell 0 (v := .int .i64 (3 : Nat)) rfl
    have c1 := hcx.cell 1 (v := .int .i64 ((T : Int) - D)) rfl
    have c2 := hcx.cell 2 (v := .int .i64 T) rfl
    have c3 := hcx.cell 3 (v := .slice none 0 0) rfl
    have HRT := Lib.hid (recRight_any (3 : Nat) ((T : Int) - D) T none 0 0 Wc (by omega) (by omega) (by omega) (by omega) (by omega) (by omega))
    rw [HR.out] at HRT
    go_wp2_with fail
    refine HRT.out.mono ?_
    rintro e w5 ⟨rfl, hb5⟩
    have hx5 := hcx.stays hb5
    have hr5 := hcr.stays hb5
    have hbe5 := hbc.trans (hb5.mono hbc.size)
    have HCL := Lib.hid (clone_any _ body w5 (HV7.out w5 hbe5) (by omega))
    clear hcx hcr hbc hb5 c0 c1 c2 c3 HRT
    go_wp2_with fail
    refine HCL.out.mono ?_
    rintro e w6 ⟨v6, rfl, o6, hb6⟩
    obtain ⟨a6, c6, rfl, -, -⟩ := RowL.shape (f := BV) o6.row
    have hx6 := hx5.stays hb6
    have hr6 := hr5.stays hb6
    have hbe6 := hbe5.trans (hb6.mono hbe5.size)
    have d0 := hx6.cell 0 (v := .int .i64 (3 : Nat)) rfl
    have d1 := hx6.cell 1 (v := .int .i64 ((T : Int) - D)) rfl
    have d2 := hx6.cell 2 (v := .int .i64 T) rfl
    have d3 := hx6.cell 3 (v := .slice none 0 0) rfl
    have e0 := hr6.cell 0 (v := .int .i64 0) rfl
    have e1 := hr6.cell 1 (v := .int .i64 0) rfl
    have e2 := hr6.cell 2 (v := .int .i64 0) rfl
    have e3 := hr6.cell 3 (v := .slice none 0 0) rfl
    have f3 := hx6.free 3
    have g0 := hr6.free 0
    have g1 := hr6.free 1
    have g2 := hr6.free 2
    have g3 := hr6.free 3
    have hk6 : ∀ k, (Value.slice a6 body.length c6).ownBlock = some k → k ≠ gR + 1 ∧ k ≠ gR := fun k hk => by have := (o6.lt k hk).1; have := hx5.lt; omega
    have HRW := Lib.hid (rowB_other (rowB_other (rowB_other (rowB_other (rowB_other o6.row ⟨gR + 1, 3, none⟩ (.slice a6 body.length c6) (fun k hk => (hk6 k hk).1)) ⟨gR, 0, none⟩ (.int .i64 (3 : Nat)) (fun k hk => (hk6 k hk).2)) ⟨gR, 1, none⟩ (.int .i64 ((T : Int) - D)) (fun k hk => (hk6 k hk).2)) ⟨gR, 2, none⟩ (.int .i64 T) (fun k hk => (hk6 k hk).2)) ⟨gR, 3, none⟩ (.slice a6 body.length c6) (fun k hk => (hk6 k hk).2))
    have HBF : Hid (Below w.heap.size w (((((w6.setCell ⟨gR + 1, 3, none⟩ (.slice a6 body.length c6)).setCell ⟨gR, 0, none⟩ (.int .i64 (3 : Nat))).setCell ⟨gR, 1, none⟩ (.int .i64 ((T : Int) - D))).setCell ⟨gR, 2, none⟩ (.int .i64 T)).setCell ⟨gR, 3, none⟩ (.slice a6 body.length c6))) := ((((hbe6.setCell hgx _).setCell hgw _).setCell hgw _).setCell hgw _).setCell hgw _
    clear o6 hx5 hr5 hb6 HCL hk6
    go_wp2_with fail
    exact bodyPost_ret (v := .tuple #[.agg #[.int .i64 (3 : Nat), .int .i64 ((T : Int) - D), .int .i64 T, .slice a6 body.length c6], .nilIface]) (by simp [results, Tryd.results30, go_sem, e0, e1, e2, e3]) rfl ⟨_, rfl, HRW.out, HBF.out⟩
end Go.Proofs.YtgehbabcpmkgaaaDoor
