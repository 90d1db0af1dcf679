/- The walk of RecBytes: which records are right, their bytes, and that they are parsed from these as they were. -/
import Derived.Test.YtgehbabcpmkgaaaDoorAlive34
import Derived.Test.YtgehbabcpmkgaaaDoorErrs
import Derived.Test.YtgehbabcpmkgaaaDoorOpenS
namespace Go.Proofs.YtgehbabcpmkgaaaDoor
open Go Go.RowKit
set_option linter.unusedVariables false
set_option maxRecDepth 100000 in
set_option maxHeartbeats 16000000 in
theorem walkRecBytes (w : World) (k : Int) (hk : -9223372036854775808 ≤ k ∧ k ≤ 9223372036854775807) (f : Int) (hf : -9223372036854775808 ≤ f ∧ f ≤ 9223372036854775807) (t : Int) (ht : -9223372036854775808 ≤ t ∧ t ≤ 9223372036854775807) (vb : Value) (body : List UInt8) (hr : RowB w vb body) (ea : Nat → Addr) (hea : ErrsAll ea w) :
    Calls Tryd.prog 4 #[.agg #[.int .i64 k, .int .i64 f, .int .i64 t, vb]] w fun e' w' => e' = .returned (.bool true) ∧ Below w.heap.size w w' := by
  have hk1 : -9223372036854775808 ≤ k := hk.1
  have hk2 : k ≤ 9223372036854775807 := hk.2
  obtain ⟨a, c, rfl, hml, -⟩ := RowL.shape (f := BV) hr
  unfold maxLen at hml
  have HE : Hid (∀ w', Below w.heap.size w w' → ErrsAll ea w') := fun w' h => hea.stays h
  have HRB : Hid (∀ w', Below w.heap.size w w' → RowB w' _ body) := fun w' h => hr.stays h
  obtain ⟨W, hW⟩ : ∃ W, W = w.alloc (.cells #[.int .i64 k, .int .i64 f, .int .i64 t, .slice a body.length c] 37) := ⟨_, rfl⟩
  have hc0 := CellsAt.new w #[.int .i64 k, .int .i64 f, .int .i64 t, .slice a body.length c] 37
  have hb0 : Below w.heap.size w W := by rw [hW]; exact (Below.refl _ _).alloc (Nat.le_refl _) _
  rw [← hW] at hc0
  have HA := Lib.hid (alive34 W)
  clear hr hea
  go_enter Tryd.func4, Tryd.ntmps4
  go_upto_region 1 with fail
  rw [← hW]
  obtain ⟨g, hg⟩ : ∃ g, g = w.heap.size := ⟨_, rfl⟩
  rw [← hg] at hc0 ⊢
  clear hW hg
  go_wp2_with fail
  refine HA.out.mono ?_
  rintro e w1 ⟨rfl, hb1⟩
  have hc1 := hc0.stays hb1
  have hbe1 := hb0.trans (hb1.mono hb0.size)
  have d0 := hc1.cell 0 (v := .int .i64 k) rfl
  have d1 := hc1.cell 1 (v := .int .i64 f) rfl
  have d2 := hc1.cell 2 (v := .int .i64 t) rfl
  have d3 := hc1.cell 3 (v := .slice a body.length c) rfl
  have HC1 := Lib.hid hc1
  clear hc0 hc1 hb0 hb1 HA
  by_cases hl : 300 < body.length
  · have e1 : decide ((body.length : Int) > 300) = true := by simp; omega
    go_wp2_with fail
    go_ret
    exact ⟨rfl, hbe1⟩
  · have e1 : decide ((body.length : Int) > 300) = false := by simp; omega
    have hl3 : body.length ≤ 300 := by omega
    have HOF := Lib.hid (recOf_any k f t _ body w1 (HRB.out _ hbe1))
    clear hl
    go_wp2_with fail
    refine HOF.out.mono ?_
    rintro e w2 ⟨rfl, hb2⟩
    have hbe2 := hbe1.trans (hb2.mono hbe1.size)
    have hc2 := HC1.out.stays hb2
    obtain ⟨W2, hW2⟩ : ∃ W, W = w2.alloc (.cells #[.int .i64 k, .int .i64 f, .int .i64 t, .string (strB body)] 39) := ⟨_, rfl⟩
    have hx2 := CellsAt.new w2 #[.int .i64 k, .int .i64 f, .int .i64 t, .string (strB body)] 39
    have hb2' : Below w2.heap.size w2 W2 := by rw [hW2]; exact (Below.refl _ _).alloc (Nat.le_refl _) _
    rw [← hW2] at hx2
    have hc3 := hc2.stays hb2'
    have hbe3 := hbe2.trans (hb2'.mono hbe2.size)
    have HRI := Lib.hid (rrecRight_any k f t (strB body) W2 hk.1 hk.2 hf.1 hf.2 ht.1 ht.2)
    clear HOF hb2 hb2' hc2 d0 d1 d2 d3
    go_upto_region 6 with fail
    rw [← hW2]
    obtain ⟨gx, hgx⟩ : ∃ gx, gx = w2.heap.size := ⟨_, rfl⟩
    rw [← hgx] at hx2 ⊢
    have x0 := hx2.cell 0 (v := .int .i64 k) rfl
    have x1 := hx2.cell 1 (v := .int .i64 f) rfl
    have x2 := hx2.cell 2 (v := .int .i64 t) rfl
    have x3 := hx2.cell 3 (v := .string (strB body)) rfl
    have HC3 := Lib.hid hc3
    have HX2 := Lib.hid hx2
    clear hW2 hgx hc3 hx2
    go_wp2_with fail
    refine HRI.out.mono ?_
    rintro e w4 ⟨rfl, hb4⟩
    have hbe4 := hbe3.trans (hb4.mono hbe3.size)
    have hc4 := HC3.out.stays hb4
    have hx4 := HX2.out.stays hb4
    have d0 := hc4.cell 0 (v := .int .i64 k) rfl
    have d1 := hc4.cell 1 (v := .int .i64 f) rfl
    have d2 := hc4.cell 2 (v := .int .i64 t) rfl
    have d3 := hc4.cell 3 (v := .slice a body.length c) rfl
    have HBY := Lib.hid (recBytes_any ea k f t _ body w4 hk.1 hk.2 hf.1 hf.2 ht.1 ht.2 (HRB.out _ hbe4) (by omega) (HE.out _ hbe4).e1 (HE.out _ hbe4).e12)
    have HC4 := Lib.hid hc4
    have HX4 := Lib.hid hx4
    clear HRI hb4 hc4 hx4 x0 x1 x2 x3
    go_wp2_with fail
    refine HBY.out.mono ?_
    rintro e w5 ⟨v5, rfl, o5, hb5⟩
    have hbe5 := hbe4.trans (hb5.mono hbe4.size)
    have hc5 := HC4.out.stays hb5
    have hx5 := HX4.out.stays hb5
    obtain ⟨a5, c5, rfl, -, -⟩ := RowL.shape (f := BV) o5.row
    have d0 := hc5.cell 0 (v := .int .i64 k) rfl
    have HO5 := Lib.hid o5.row
    have HC5 := Lib.hid hc5
    have HX5 := Lib.hid hx5
    obtain ⟨B, hB⟩ : ∃ B, B = recBs k f t body := ⟨_, rfl⟩
    obtain ⟨E, hE⟩ : ∃ E, E = recE k f t := ⟨_, rfl⟩
    rw [← hB] at HO5 ⊢
    rw [← hE]
    have HB := Lib.hid hB
    have HEE := Lib.hid hE
    obtain ⟨err, herr⟩ : ∃ err, err = EV ea E := ⟨_, rfl⟩
    rw [← herr]
    have HERR := Lib.hid herr
    clear HBY hb5 hc5 hx5 o5 hB hE herr
    go_upto_region 9 with fail
    go_cut [33] from 26 to 33 (fun v wx => v = .bool (recK k) ∧ w5 = wx)
    case first =>
      by_cases h1 : 1 ≤ k
      · have n1 : decide (k ≥ 1) = true := decide_eq_true h1
        by_cases h3 : k ≤ 3
        · have n3 : decide (k ≤ 3) = true := decide_eq_true h3
          have HW : Hid (recK k = true) := decide_eq_true ⟨h1, h3⟩
          go_wp2_with fail
          go_meet
          case rel => exact ⟨by rw [HW.out], rfl⟩
        · have n3 : decide (k ≤ 3) = false := decide_eq_false h3
          have HW : Hid (recK k = false) := decide_eq_false (by omega)
          go_wp2_with fail
          go_meet
          case rel => exact ⟨by rw [HW.out], rfl⟩
      · have n1 : decide (k ≥ 1) = false := decide_eq_false h1
        have HW : Hid (recK k = false) := decide_eq_false (by omega)
        go_wp2_with fail
        go_meet
        case rel => exact ⟨by rw [HW.out], rfl⟩
    case rest =>
    obtain ⟨rfl, rfl⟩ := hcut
    clear d0
    have d0 := HC5.out.cell 0 (v := .int .i64 k) rfl
    go_upto_if 33 with fail
    go_cut [7] from 33 to 39 (fun v wx => v = .string (strB (recWord k)) ∧ Below w5.heap.size w5 wx)
    case first =>
      by_cases h1 : 1 ≤ k ∧ k ≤ 3
      · rw [show recK k = true from decide_eq_true h1]
        have d0' := fun o => cell_keep ((Below.refl _ w5).alloc (Nat.le_refl _) o) d0
        rcases (by omega : k = 1 ∨ k = 2 ∨ k = 3) with rfl | rfl | rfl
        · go_wp2_with fail
          go_meet
          case rel => exact ⟨rfl, (Below.refl _ _).alloc (Nat.le_refl _) _⟩
        · go_wp2_with fail
          go_meet
          case rel => exact ⟨rfl, (Below.refl _ _).alloc (Nat.le_refl _) _⟩
        · go_wp2_with fail
          go_meet
          case rel => exact ⟨rfl, (Below.refl _ _).alloc (Nat.le_refl _) _⟩
      · rw [show recK k = false from decide_eq_false h1]
        have HW : Hid (recWord k = []) := by show _ = _; unfold recWord; rw [if_neg (by omega), if_neg (by omega), if_neg (by omega)]
        go_wp2_with fail
        go_meet
        case rel => exact ⟨by rw [HW.out]; rfl, Below.refl _ _⟩
    case rest =>
      obtain ⟨rfl, hb6⟩ := hcut
      have hbe6 := hbe5.trans (hb6.mono hbe5.size)
      have hc6 := HC5.out.stays hb6
      have d0 := hc6.cell 0 (v := .int .i64 k) rfl
      have d1 := hc6.cell 1 (v := .int .i64 f) rfl
      have d2 := hc6.cell 2 (v := .int .i64 t) rfl
      have d3 := hc6.cell 3 (v := .slice a body.length c) rfl
      have HRT := Lib.hid (recRight_any k f t a body.length c wc hk.1 hk.2 hf.1 hf.2 ht.1 ht.2)
      have HX6 := Lib.hid (HX5.out.stays hb6)
      have HO6 := Lib.hid (HO5.out.stays hb6)
      have HC6 := Lib.hid hc6
      clear hb6 hc6 HO5 HC5 HX5
      go_wp2_with fail
      refine HRT.out.mono ?_
      rintro e w7 ⟨rfl, hb7⟩
      have hbe7 := hbe6.trans (hb7.mono hbe6.size)
      have hc7 := HC6.out.stays hb7
      have d0 := hc7.cell 0 (v := .int .i64 k) rfl
      have d1 := hc7.cell 1 (v := .int .i64 f) rfl
      have d2 := hc7.cell 2 (v := .int .i64 t) rfl
      have d3 := hc7.cell 3 (v := .slice a body.length c) rfl
      have HCO := Lib.hid (recCost_any ea k f t _ body w7 hk.1 hk.2 hf.1 hf.2 ht.1 ht.2 (HRB.out _ hbe7) (by omega) (HE.out _ hbe7).e1 (HE.out _ hbe7).e12)
      rw [← HB.out] at HCO
      have HX7 := Lib.hid (HX6.out.stays hb7)
      have HO7 := Lib.hid (HO6.out.stays hb7)
      have HC7 := Lib.hid hc7
      clear hb7 hc7 HO6 HC6 HX6 HRT
      go_wp2_with fail
      refine HCO.out.mono ?_
      rintro e w8 ⟨rfl, hb8⟩
      have hbe8 := hbe7.trans (hb8.mono hbe7.size)
      have hc8 := HC7.out.stays hb8
      have d0 := hc8.cell 0 (v := .int .i64 k) rfl
      have HWD := Lib.hid (recWord_any k w8)
      have HX8 := Lib.hid (HX7.out.stays hb8)
      have HO8 := Lib.hid (HO7.out.stays hb8)
      have HC8 := Lib.hid hc8
      obtain ⟨S, hS⟩ : ∃ S, S = strB (recWord k) := ⟨_, rfl⟩
      rw [← hS] at HWD ⊢
      have HS := Lib.hid hS
      clear hb8 hc8 HO7 HC7 HX7 HCO hS
      go_wp2_with fail
      refine HWD.out.mono ?_
      rintro e w9 ⟨rfl, rfl⟩
      by_cases hR : recR k f t = true
      · obtain ⟨r1, r2, r3⟩ := recR_true hR
        have hK : recK k = true := decide_eq_true (by omega)
        have hE0 : E = 0 := by rw [HEE.out]; unfold recE; rw [if_pos hK, if_pos hR]
        have hB0 : B = recB k f t body := by rw [HB.out]; unfold recBs recE; rw [if_pos hK, if_pos hR, if_pos rfl]
        have HER : Hid (err = .nilIface) := by show _ = _; rw [HERR.out, hE0]; rfl
        rw [HER.out]
        have HR := Lib.hid hR
        have HB0 := Lib.hid hB0
        rw [hR]
        have hbl := recB_len k f t body hR
        rw [← hB0] at hbl
        have HPA := recParse_any ea (.slice a5 B.length c5) k f t body w8 hR (by omega) (by rw [← hB0]; exact HO8.out) (HE.out _ hbe8).e2 (HE.out _ hbe8).e4
        have HPA := Lib.hid HPA
        clear hK hE0 hB0 hR r1 r2 r3 HERR HEE HB
        go_wp2_with fail
        refine HPA.out.mono ?_
        rintro e w10 ⟨v10, rfl, hr10, hb10⟩
        obtain ⟨a10, c10, rfl, -, -⟩ := RowL.shape (f := BV) hr10
        have hbe10 := hbe8.trans (hb10.mono hbe8.size)
        obtain ⟨W3, hW3⟩ : ∃ W, W = w10.alloc (.cells #[.int .i64 k, .int .i64 f, .int .i64 t, .slice a10 body.length c10] 37) := ⟨_, rfl⟩
        have hy := CellsAt.new w10 #[.int .i64 k, .int .i64 f, .int .i64 t, .slice a10 body.length c10] 37
        have hbA : Below w10.heap.size w10 W3 := by rw [hW3]; exact (Below.refl _ _).alloc (Nat.le_refl _) _
        rw [← hW3] at hy
        have hr3 := hr10.stays hbA
        have hx3 := (HX8.out.stays hb10).stays hbA
        have ho3 := (HO8.out.stays hb10).stays hbA
        have hbe11 := hbe10.trans (hbA.mono hbe10.size)
        clear hr10 hb10 hbA HPA HX8 HO8 HC8 HWD
        go_upto_region 19 with fail
        rw [← hW3]
        obtain ⟨gy, hgy⟩ : ∃ gy, gy = w10.heap.size := ⟨_, rfl⟩
        rw [← hgy] at hy ⊢
        clear hW3 hgy
        have HK : Hid (∀ w', Below W3.heap.size W3 w' → Below W3.heap.size W3 w' ∧ w'.cell? ⟨gx, 0, none⟩ = some (.int .i64 k) ∧ w'.cell? ⟨gx, 1, none⟩ = some (.int .i64 f) ∧ w'.cell? ⟨gx, 2, none⟩ = some (.int .i64 t) ∧ w'.cell? ⟨gx, 3, none⟩ = some (.string (strB body)) ∧ w'.cell? ⟨gy, 0, none⟩ = some (.int .i64 k) ∧ w'.cell? ⟨gy, 1, none⟩ = some (.int .i64 f) ∧ w'.cell? ⟨gy, 2, none⟩ = some (.int .i64 t) ∧ w'.cell? ⟨gy, 3, none⟩ = some (.slice a10 body.length c10) ∧ (convert 23 9 (.slice a5 B.length c5)).run Tryd.prog w' = .ok (.string (strB B)) w') := fun w' hb =>
          ⟨hb, (hx3.stays hb).cell 0 rfl, (hx3.stays hb).cell 1 rfl, (hx3.stays hb).cell 2 rfl, (hx3.stays hb).cell 3 rfl, (hy.stays hb).cell 0 rfl, (hy.stays hb).cell 1 rfl, (hy.stays hb).cell 2 rfl, (hy.stays hb).cell 3 rfl, convert_str (ho3.stays hb)⟩
        have HQB : Hid (∀ w, Calls Tryd.prog 31 #[.agg #[.int .i64 k, .int .i64 f, .int .i64 t, .string (strB body)]] w fun e w' => e = .returned (.string (strB B)) ∧ Below w.heap.size w w') := fun w => by rw [HB0.out]; exact rrecBytes_any k f t body w HR.out (by omega)
        have HQO : Hid (∀ w', Below W3.heap.size W3 w' → Calls Tryd.prog 24 #[.agg #[.int .i64 k, .int .i64 f, .int .i64 t, .slice a10 body.length c10]] w' fun e w'' => e = .returned (.agg #[.int .i64 k, .int .i64 f, .int .i64 t, .string (strB body)]) ∧ Below w'.heap.size w' w'') := fun w' h => recOf_any k f t _ body w' (hr3.stays h)
        have hbd : Below W3.heap.size W3 W3.drew := (Below.refl _ _).drew
        have se := strB_eq B B
        rw [decide_eq_true rfl] at se
        clear hy hr3 hx3 ho3
        go_region_held (fun w' => Below W3.heap.size W3 w' ∧ w'.cell? ⟨gx, 0, none⟩ = some (.int .i64 k) ∧ w'.cell? ⟨gx, 1, none⟩ = some (.int .i64 f) ∧ w'.cell? ⟨gx, 2, none⟩ = some (.int .i64 t) ∧ w'.cell? ⟨gx, 3, none⟩ = some (.string (strB body)) ∧ w'.cell? ⟨gy, 0, none⟩ = some (.int .i64 k) ∧ w'.cell? ⟨gy, 1, none⟩ = some (.int .i64 f) ∧ w'.cell? ⟨gy, 2, none⟩ = some (.int .i64 t) ∧ w'.cell? ⟨gy, 3, none⟩ = some (.slice a10 body.length c10) ∧ (convert 23 9 (.slice a5 B.length c5)).run Tryd.prog w' = .ok (.string (strB B)) w')
          (exact HK.out _ (by assumption))
          ((first
            | (go_at_call 31; refine (HQB.out _).mono ?_; rintro e wA ⟨rfl, hbA⟩; have hbB : Below W3.heap.size W3 wA := Below.trans (by assumption) (hbA.mono (Below.size (by assumption))))
            | (go_at_call 24; refine (HQO.out _ (by assumption)).mono ?_; rintro e wC ⟨rfl, hbC⟩; have hbD : Below W3.heap.size W3 wC := Below.trans (by assumption) (hbC.mono (Below.size (by assumption))))))
        all_goals clear HK
        all_goals go_wp2_with fail
        all_goals go_ret
        all_goals exact ⟨rfl, hbe11.trans (hbD.mono hbe11.size)⟩
      · have hR' : recR k f t = false := by simpa using hR
        rw [hR']
        by_cases hK : recK k = true
        · have hE0 : E = 1 := by rw [HEE.out]; unfold recE; rw [if_pos hK, if_neg hR]
          have hB0 : B = [] := by rw [HB.out]; unfold recBs recE; rw [if_pos hK, if_neg hR, if_neg (by decide)]
          have HNM := num_any ea 1 (by decide) w8 (HE.out _ hbe8)
          rw [← hE0, ← HERR.out, hE0] at HNM
          have HNM := Lib.hid HNM
          have hk3 : k = 1 ∨ k = 2 ∨ k = 3 := by have := of_decide_eq_true hK; omega
          subst hB0
          clear hE0 hR hR' hK HERR HEE HB HO8 HWD
          rcases hk3 with rfl | rfl | rfl
          · obtain rfl : S = ⟨#[115, 110, 97, 112, 115, 104, 111, 116]⟩ := HS.out
            clear HS
            go_wp2_with fail
            refine HNM.out.mono ?_
            rintro e w10 ⟨rfl, hb10⟩
            go_wp2_with fail
            go_ret
            exact ⟨rfl, hbe8.trans (hb10.mono hbe8.size)⟩
          · obtain rfl : S = ⟨#[100, 101, 108, 116, 97]⟩ := HS.out
            clear HS
            go_wp2_with fail
            refine HNM.out.mono ?_
            rintro e w10 ⟨rfl, hb10⟩
            go_wp2_with fail
            go_ret
            exact ⟨rfl, hbe8.trans (hb10.mono hbe8.size)⟩
          · obtain rfl : S = ⟨#[115, 107, 105, 112]⟩ := HS.out
            clear HS
            go_wp2_with fail
            refine HNM.out.mono ?_
            rintro e w10 ⟨rfl, hb10⟩
            go_wp2_with fail
            go_ret
            exact ⟨rfl, hbe8.trans (hb10.mono hbe8.size)⟩
        · have hE0 : E = 12 := by rw [HEE.out]; unfold recE; rw [if_neg hK]
          have hB0 : B = [] := by rw [HB.out]; unfold recBs recE; rw [if_neg hK, if_neg (by decide)]
          have HNM := num_any ea 12 (by decide) w8 (HE.out _ hbe8)
          rw [← hE0, ← HERR.out, hE0] at HNM
          have HNM := Lib.hid HNM
          have hSe : S = ⟨#[]⟩ := by
            rw [HS.out]
            have hn : ¬ (1 ≤ k ∧ k ≤ 3) := fun h => hK (decide_eq_true h)
            unfold recWord
            rw [if_neg (by omega), if_neg (by omega), if_neg (by omega)]; rfl
          subst hB0
          clear hE0 hR hR' hK HERR HEE HB HO8 HS HWD
          subst hSe
          go_wp2_with fail
          refine HNM.out.mono ?_
          rintro e w10 ⟨rfl, hb10⟩
          go_wp2_with fail
          go_ret
          exact ⟨rfl, hbe8.trans (hb10.mono hbe8.size)⟩
end Go.Proofs.YtgehbabcpmkgaaaDoor
