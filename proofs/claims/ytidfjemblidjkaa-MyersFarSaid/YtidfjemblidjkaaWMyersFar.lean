/- The walk of MyersFar: the runs of rows that may be far apart. -/
import Derived.Test.YtidfjemblidjkaaAlive19
namespace Go.Proofs.Ytidfjemblidjkaa
open Go Go.RowKit
set_option linter.unusedVariables false
/-- two rows in blocks of their own -/
def Apart2 (v v' : Value) : Prop := ∀ k, v.ownBlock = some k → v'.ownBlock ≠ some k
theorem Apart2.step {w : World} {v v' v2 : Value} (h : Apart2 v v') (hn : NewOrSame w v v2) (hl : ∀ k, v'.ownBlock = some k → k < w.heap.size) : Apart2 v2 v' := fun k h1 h2 => by
  rcases hn k h1 with h3 | h3
  · exact h k h3 h2
  · have := hl k h2; omega
theorem Apart2.swap {v v' : Value} (h : Apart2 v v') : Apart2 v' v := fun k h1 h2 => h k h2 h1
theorem far_k (t : Int) : 0 ≤ wrap64 ((IntKind.u64.wrap t).tmod 300) ∧ wrap64 ((IntKind.u64.wrap t).tmod 300) ≤ 299 := by
  have h0 : 0 ≤ IntKind.u64.wrap t := by rw [IntKind.wrap_u64]; omega
  rw [Int.tmod_eq_emod_of_nonneg h0]
  unfold wrap64
  omega
/-- two rows of the call's own, as they grow -/
structure Two (w0 w : World) (x y : Value) (a b : List Int) : Prop where
  ox : OwnL 3 IV w0.heap.size w x a
  oy : OwnL 3 IV w0.heap.size w y b
  apart : Apart2 x y
  below : Below w0.heap.size w0 w
theorem Two.pushX {w0 w1 w2 : World} {x y x2 : Value} {a b : List Int} {p : Int} (h : Two w0 w1 x y a b) (ho : OwnL 3 IV w0.heap.size w2 x2 (a ++ [p])) (hg : w1.grownBy w2 x.ownBlock) (hn : NewOrSame w1 x x2) : Two w0 w2 x2 y (a ++ [p]) b :=
  ⟨ho, own_grown h.oy hg (fun k hk h2 => h.apart k h2 hk), h.apart.step hn (fun k hk => (h.oy.lt k hk).2), OwnL.below h.ox h.below hg h.below.size⟩
theorem Two.pushY {w0 w1 w2 : World} {x y y2 : Value} {a b : List Int} {p : Int} (h : Two w0 w1 x y a b) (ho : OwnL 3 IV w0.heap.size w2 y2 (b ++ [p])) (hg : w1.grownBy w2 y.ownBlock) (hn : NewOrSame w1 y y2) : Two w0 w2 x y2 a (b ++ [p]) :=
  ⟨own_grown h.ox hg (fun k hk h2 => h.apart k hk h2), ho, (h.apart.swap.step hn (fun k hk => (h.ox.lt k hk).2)).swap, OwnL.below h.oy h.below hg h.below.size⟩
theorem alignV_rw (a b : List Int) : runsV (stepsV a b) = alignV a b := rfl
set_option maxRecDepth 100000 in
set_option maxHeartbeats 8000000 in
theorem walkMyersFar (w : World) (vp : Value) (ps : List Int) (hrp : RowZ w vp ps) (hxp : ∀ n ∈ ps, -9223372036854775808 ≤ n ∧ n ≤ 9223372036854775807) (t : Int) (ht : -9223372036854775808 ≤ t ∧ t ≤ 9223372036854775807) :
    Calls Try.prog 3 #[vp, .int .i64 t] w fun e w' => e = .returned (.bool true) ∧ Below w.heap.size w w' := by
  have HA := Lib.hid (alive19 w)
  obtain ⟨ap, cp, rfl, hmp, hip⟩ := hrp.gen.shape
  unfold maxLen at hmp
  have HIP := Lib.hid hip
  have HXP := Lib.hid hxp
  have ht1 := ht.1
  have ht2 := ht.2
  clear hrp hip hxp ht
  go_enter Try.func3, Try.ntmps3
  go_wp2_with fail
  refine HA.out.mono ?_
  rintro e w1 ⟨rfl, hb1⟩
  by_cases hl : 40 < ps.length
  · go_wp2_with fail
    go_ret
    exact ⟨rfl, hb1⟩
  · go_upto_region 6 with fail
    have hK1 := (far_k t).1
    have hK2 := (far_k t).2
    generalize wrap64 ((IntKind.u64.wrap t).tmod 300) = K at hK1 hK2 ⊢
    have hT : Two w ((w1.alloc (.cells #[] 3)).alloc (.cells #[] 3)) (.slice (some ⟨w1.heap.size, 0, none⟩) 0 0) (.slice (some ⟨w1.heap.size + 1, 0, none⟩) 0 0) [] [] := by
      refine ⟨((OwnL.made w1).alloc _).mono hb1.size, ?_, fun k h1 h2 => by simp [Value.ownBlock] at h1 h2; omega, (hb1.alloc hb1.size _).alloc (by have := hb1.size; simp; omega) _⟩
      have := (OwnL.made (f := IV) (E := 3) (w1.alloc (.cells #[] 3))).mono (B' := w.heap.size) (by have := hb1.size; simp; omega)
      rwa [World.size_alloc] at this
    clear hb1
    go_wp2_with fail
    generalize (w1.alloc (.cells #[] 3)).alloc (.cells #[] 3) = wm at hT ⊢
    generalize Value.slice (some ⟨w1.heap.size, 0, none⟩) 0 0 = v6 at hT ⊢
    generalize Value.slice (some ⟨w1.heap.size + 1, 0, none⟩) 0 0 = v7 at hT ⊢
    go_loopw [6, 7, 25] (fun x y i wr => ∃ (m : Nat) (a b : List Int), m ≤ ps.length ∧ i = .int .i64 m ∧ a.length ≤ 300 * m ∧ b.length ≤ 300 * m ∧ Two w wr x y a b) (fun _ _ i _ => ps.length - (intOf i).toNat)
    case atStart => exact ⟨0, [], [], Nat.zero_le _, rfl, Nat.le_refl _, Nat.le_refl _, hT⟩
    case round =>
      clear hT
      obtain ⟨m, a, b, hm, rfl, hal, hbl, hT⟩ := hrel
      by_cases h1 : m < ps.length
      · obtain ⟨p, hp⟩ : ∃ p, ps[m]? = some p := ⟨_, List.getElem?_eq_getElem h1⟩
        obtain ⟨gp, op, rfl, hc⟩ := HIP.out m p hp
        have d0 : wr.cell? ⟨gp, op + m, none⟩ = some (.int .i64 p) := cell_below hT.below hc
        have hp1 := (HXP.out p (List.mem_of_getElem? hp)).1
        have hp2 := (HXP.out p (List.mem_of_getElem? hp)).2
        obtain ⟨Q, hQ⟩ : ∃ Q : Nat, (Q : Int) = K / (1 + m) := ⟨(K / (1 + m)).toNat, by have := Int.ediv_nonneg hK1 (show (0 : Int) ≤ 1 + m by omega); omega⟩
        have hQ2 : Q ≤ 299 := by have := Int.ediv_le_self (1 + (m : Int)) hK1; omega
        have hq1 : 0 ≤ K / (1 + (m : Int)) := by omega
        have hq2 : K / (1 + (m : Int)) ≤ 299 := by omega
        have HQ := Lib.hid hQ
        have hm40 : (m : Int) ≤ 40 := by omega
        clear hc hp hQ
        go_wp2_with fail
        obtain ⟨wo, hwo⟩ : ∃ wo : World, wo = wr := ⟨_, rfl⟩
        rw [← hwo] at hT ⊢
        clear d0 hwo
        go_loopw [6, 7, 10] (fun x y j wr => ∃ (n : Nat) (a b : List Int), n ≤ 1 + Q ∧ j = .int .i64 n ∧ a.length ≤ 300 * m + n ∧ b.length ≤ 300 * m + n ∧ Two w wr x y a b) (fun _ _ j _ => 1 + Q - (intOf j).toNat)
        case atStart => exact ⟨0, a, b, by omega, rfl, hal, hbl, hT⟩
        case round =>
          clear hT hal hbl a b
          obtain ⟨n, a, b, hn, rfl, hal, hbl, hT⟩ := hrel
          by_cases h2 : n < 1 + Q
          · have e1 : decide ((n : Int) < 1 + K / (1 + m)) = true := by rw [← HQ.out]; simp; omega
            by_cases h3 : p.tmod 3 = 0
            · have e3 : (p.tmod 3 != 0) = false := by simp [h3]
              have e4 : (p.tmod 3 != 1) = true := by simp [h3]
              have H3 := Lib.hid h3
              clear h3
              go_wp2_with (at_builtin; go_must (refine wpList_pushL IV_one Try.underlying22 infoZ rfl (by decide) hT.oy p (by omega) hT.below.size rfl _ _ rfl (by rfl) _ _ _ (by rfl) (by rfl) ?_))
              intro v2 w2 o2 g2 n2
              have hT2 := hT.pushY o2 g2 n2
              clear hT o2 g2 n2
              go_wp2_with fail
              go_roundw
              case rel => exact ⟨n + 1, _, _, by omega, by go_num, by omega, by simp; omega, hT2⟩
              case measure => simp only [intOf]; omega
            · have e3 : (p.tmod 3 != 0) = true := by simpa using h3
              by_cases h4 : p.tmod 3 = 1
              · have e4 : (p.tmod 3 != 1) = false := by simp [h4]
                have H3 := Lib.hid h3
                have H4 := Lib.hid h4
                clear h3 h4
                go_wp2_with (at_builtin; go_must (refine wpList_pushL IV_one Try.underlying22 infoZ rfl (by decide) hT.ox p (by omega) hT.below.size rfl _ _ rfl (by rfl) _ _ _ (by rfl) (by rfl) ?_))
                intro v2 w2 o2 g2 n2
                have hT2 := hT.pushX o2 g2 n2
                clear hT o2 g2 n2
                go_wp2_with fail
                go_roundw
                case rel => exact ⟨n + 1, _, _, by omega, by go_num, by simp; omega, by omega, hT2⟩
                case measure => simp only [intOf]; omega
              · have e4 : (p.tmod 3 != 1) = true := by simpa using h4
                have H3 := Lib.hid h3
                have H4 := Lib.hid h4
                clear h3 h4
                go_wp2_with (at_builtin; go_must (refine wpList_pushL IV_one Try.underlying22 infoZ rfl (by decide) hT.ox p (by omega) hT.below.size rfl _ _ rfl (by rfl) _ _ _ (by rfl) (by rfl) ?_))
                intro v2 w2 o2 g2 n2
                have hT2 := hT.pushX o2 g2 n2
                clear hT o2 g2 n2
                have hT := hT2
                clear hT2
                go_wp2_with (at_builtin; go_must (refine wpList_pushL IV_one Try.underlying22 infoZ rfl (by decide) hT.oy p (by omega) hT.below.size rfl _ _ rfl (by rfl) _ _ _ (by rfl) (by rfl) ?_))
                intro v3 w3 o2 g2 n2
                have hT2 := hT.pushY o2 g2 n2
                clear hT o2 g2 n2
                go_wp2_with fail
                go_roundw
                case rel => exact ⟨n + 1, _, _, by omega, by go_num, by simp; omega, by simp; omega, hT2⟩
                case measure => simp only [intOf]; omega
          · have e1 : decide ((n : Int) < 1 + K / (1 + m)) = false := by rw [← HQ.out]; simp; omega
            go_wp2_with fail
            go_roundw
            case rel => exact ⟨m + 1, a, b, by omega, by go_num, by omega, by omega, hT⟩
            case measure => simp only [intOf]; omega
      · obtain rfl : ps.length = m := by omega
        have HRA : Hid (∀ w', Below wr.heap.size wr w' → RowZ w' u6 a) := fun w' hb => hT.ox.row.stays hb
        have HRB : Hid (∀ w', Below wr.heap.size wr w' → RowZ w' u7 b) := fun w' hb => hT.oy.row.stays hb
        obtain ⟨a0, c0, hv0, -, -⟩ := hT.ox.row.shape
        obtain ⟨a1, c1, hv1, -, -⟩ := hT.oy.row.shape
        have hb2 := hT.below
        rw [hv0] at HRA ⊢
        rw [hv1] at HRB ⊢
        clear hT h1 hv0 hv1
        by_cases hla : 400 < a.length
        · go_wp2_with fail
          go_ret
          exact ⟨rfl, hb2⟩
        · by_cases hlb : 400 < b.length
          · go_wp2_with fail
            go_ret
            exact ⟨rfl, hb2⟩
          · have hla2 : a.length ≤ 400 := by omega
            have hlb2 : b.length ≤ 400 := by omega
            have hs2 := hb2.size
            have hsl := stepsV_len a b
            have hdl := dist_le _ a b (Nat.le_refl _)
            clear hla hlb
            go_upto_region 20 with fail
            go_cut [11] from 62 to 69 (fun v wx => v = .int .i64 (farV a b : Nat) ∧ Below wr.heap.size wr wx)
            case first =>
              have HT := Lib.hid (table_any _ _ a b wr (HRA.out _ (Below.refl _ _)) (HRB.out _ (Below.refl _ _)) (by omega) (by omega))
              go_wp2_with fail
              refine HT.out.mono ?_
              rintro e w3 ⟨rfl, ⟨lim, htab⟩, hb4⟩
              obtain ⟨g0, h01, h02, h03, h04⟩ := htab 0 (Nat.le_refl _) (Nat.zero_le _)
              have d1 := h04 0 (Nat.zero_le _)
              have ht0 : tab a b 0 0 = dist a b := by unfold tab; rfl
              rw [ht0] at d1
              clear htab h01 h02 h04 ht0
              have HF : Hid (farV a b = min (dist a b) 401) := rfl
              by_cases hd : dist a b < 401
              · have e1 : decide ((dist a b : Int) < 401) = true := by simp; omega
                have e2 : decide ((401 : Int) < dist a b) = false := by simp; omega
                go_wp2_with fail
                go_meet
                case rel => exact ⟨vint (by rw [HF.out]; omega), hb4⟩
              · have e1 : decide ((dist a b : Int) < 401) = false := by simp; omega
                go_wp2_with fail
                all_goals go_meet
                all_goals exact ⟨vint (by rw [HF.out]; omega), hb4⟩
            case rest =>
              obtain ⟨rfl, hb5⟩ := hcut
              have hs5 := hb5.size
              have hb0 := hb2.trans (hb5.mono hs2)
              have hfl : farV a b ≤ 401 := by unfold farV; omega
              have HAL := Lib.hid (align_any _ _ a b wc (HRA.out _ hb5) (HRB.out _ hb5) (by omega) (by omega))
              go_wp2_with fail
              refine HAL.out.mono ?_
              rintro e w4 ⟨v6, rfl, ho6, hb6⟩
              have hb7 := hb5.trans (hb6.mono hs5)
              have HST := Lib.hid (steps_any _ _ a b w4 (HRA.out _ hb7) (HRB.out _ hb7) (by omega) (by omega))
              clear hb6
              go_wp2_with fail
              refine HST.out.mono ?_
              rintro e w5 ⟨v7, rfl, ho7, hb8⟩
              have ho6' := OwnS.stays ho6 hb8
              have hb9 := hb7.trans (hb8.mono hb7.size)
              have HRU := Lib.hid (runs_any v7 (stepsV a b) w5 ho7.row (by omega))
              clear ho6 ho7 hb8 hb7
              go_wp2_with fail
              refine HRU.out.mono ?_
              rintro e w6 ⟨v8, rfl, ho8, hb10⟩
              have hb11 := hb9.trans (hb10.mono hb9.size)
              have HSA := Lib.hid (same_any v6 v8 (alignV a b) w6 ((OwnS.stays ho6' hb10).row) ho8.row (by have := (runsV_good (stepsV a b)).2; show (runsV (stepsV a b)).length ≤ _; omega))
              clear ho6' ho8 hb9 hb10
              go_wp2_with fail
              refine HSA.out.mono ?_
              rintro e w7 ⟨rfl, hb12⟩
              have hb13 := hb11.trans (hb12.mono hb11.size)
              have HDI := Lib.hid (distance_any _ _ a b w7 (by omega) (by omega) (HRA.out _ hb13) (HRB.out _ hb13))
              clear hb11 hb12
              go_wp2_with fail
              refine HDI.out.mono ?_
              rintro e w8 ⟨rfl, hb14⟩
              have hb15 := hb2.trans ((hb13.trans (hb14.mono hb13.size)).mono hs2)
              have e9 : ((farV a b : Int) == (farV a b : Int)) = true := by simp
              clear hb13 hb14
              go_wp2_with fail
              go_ret
              exact ⟨rfl, hb15⟩
end Go.Proofs.Ytidfjemblidjkaa
