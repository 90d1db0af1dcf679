/- The walk of ThreeCovers: chunks cover all three rows. -/
import Derived.Test.YtidfjemblidjkaaAlive27
namespace Go.Proofs.Ytidfjemblidjkaa
open Go Go.RowKit
set_option linter.unusedVariables false
theorem seg_len {l : List Int} {i j : Nat} (h : i ≤ j) (h2 : j ≤ l.length) : (seg l i j).length = j - i := by unfold seg; rw [List.length_drop, List.length_take]; omega
theorem cov_bd {o a b : List Int} {cs : List Ck} {x y z : Nat} {l : Int} (h : Cov o a b cs x y z l) : x ≤ o.length ∧ y ≤ a.length ∧ z ≤ b.length := by
  cases cs with
  | nil => obtain ⟨h1, h2, h3⟩ := h; omega
  | cons c cs => obtain ⟨⟨h1, h2, h3⟩, ⟨h4, h5, h6⟩, ⟨h7, h8, h9⟩, _⟩ := h; omega
theorem drop_get {α : Type} {l : List α} {i : Nat} {x : α} (h : l[i]? = some x) : l.drop i = x :: l.drop (i + 1) := by
  have h1 := (List.getElem?_eq_some_iff.1 h).1
  rw [List.drop_eq_getElem_cons h1, (List.getElem?_eq_some_iff.1 h).2]
set_option maxRecDepth 100000 in
set_option maxHeartbeats 16000000 in
theorem walkThreeCovers (w : World) (vo : Value) (o : List Int) (hro : RowZ w vo o) (hxo : ∀ n ∈ o, -9223372036854775808 ≤ n ∧ n ≤ 9223372036854775807) (va : Value) (a : List Int) (hra : RowZ w va a) (hxa : ∀ n ∈ a, -9223372036854775808 ≤ n ∧ n ≤ 9223372036854775807) (vb : Value) (b : List Int) (hrb : RowZ w vb b) (hxb : ∀ n ∈ b, -9223372036854775808 ≤ n ∧ n ≤ 9223372036854775807) :
    Calls Try.prog 7 #[vo, va, vb] w fun e w' => e = .returned (.bool true) ∧ Below w.heap.size w w' := by
  clear hxo hxa hxb
  have HA := Lib.hid (alive27 w)
  obtain ⟨ao, co, rfl, hmo, -⟩ := hro.gen.shape
  obtain ⟨aa, ca, rfl, hma, -⟩ := hra.gen.shape
  obtain ⟨ab, cb, rfl, hmb, -⟩ := hrb.gen.shape
  unfold maxLen at hmo hma hmb
  have HRO : Hid (∀ w', Below w.heap.size w w' → RowZ w' _ o) := fun w' h => hro.stays h
  have HRA : Hid (∀ w', Below w.heap.size w w' → RowZ w' _ a) := fun w' h => hra.stays h
  have HRB : Hid (∀ w', Below w.heap.size w w' → RowZ w' _ b) := fun w' h => hrb.stays h
  have hco := hro.gen.cap
  have hca := hra.gen.cap
  have hcb := hrb.gen.cap
  clear hro hra hrb
  go_enter Try.func7, Try.ntmps7
  go_wp2_with fail
  refine HA.out.mono ?_
  rintro e w1 ⟨rfl, hb1⟩
  clear HA
  by_cases l1 : 40 < o.length
  · go_wp2_with fail
    go_ret
    exact ⟨rfl, hb1⟩
  · by_cases l2 : 40 < a.length
    · go_wp2_with fail
      go_ret
      exact ⟨rfl, hb1⟩
    · by_cases l3 : 40 < b.length
      · go_wp2_with fail
        go_ret
        exact ⟨rfl, hb1⟩
      · have hlo : o.length ≤ 40 := by omega
        have hla : a.length ≤ 40 := by omega
        have hlb : b.length ≤ 40 := by omega
        have hcov : Cov o a b (rowsC o a b) 0 0 0 0 := cov_start (by have := dist_le _ o a (Nat.le_refl _); omega) (by have := dist_le _ o b (Nat.le_refl _); omega)
        have HRW := Lib.hid (rows_any _ _ _ o a b w1 (HRO.out _ hb1) (HRA.out _ hb1) (HRB.out _ hb1) hlo hla hlb)
        obtain ⟨cs, hcs⟩ : ∃ cs, cs = rowsC o a b := ⟨_, rfl⟩
        rw [← hcs] at hcov HRW
        have hcl := cov_len hcov
        have hcl120 : cs.length ≤ 120 := by omega
        clear hcl
        have HCOV := Lib.hid hcov
        clear hcs hcov
        go_wp2_with fail
        refine HRW.out.mono ?_
        rintro e w2 ⟨v31, rfl, o31, hb2⟩
        have hbe2 := hb1.trans (hb2.mono hb1.size)
        obtain ⟨a0, c0, hv, -, hin⟩ := o31.row.shape ckC_len
        subst hv
        have HIN := Lib.hid hin
        clear o31 hin HRW hb1 hb2
        go_wp2_with fail
        go_loopw [7, 8, 9, 10, 33] (fun vx vy vz vl i wr => ∃ (m x y z : Nat) (l : Int), m ≤ cs.length ∧ i = .int .i64 m ∧ vx = .int .i64 x ∧ vy = .int .i64 y ∧ vz = .int .i64 z ∧ vl = .int .i64 l ∧ Hid (Cov o a b (cs.drop m) x y z l) ∧ Below w2.heap.size w2 wr) (fun _ _ _ _ i _ => cs.length - (intOf i).toNat)
        case atStart => exact ⟨0, 0, 0, 0, 0, Nat.zero_le _, rfl, rfl, rfl, rfl, rfl, HCOV.out, Below.refl _ _⟩
        case round =>
          obtain ⟨m, x, y, z, l, hm, rfl, rfl, rfl, rfl, rfl, HC, hbe⟩ := hrel
          have hbd := cov_bd HC.out
          have hx40 : x ≤ o.length := hbd.1
          have hy40 : y ≤ a.length := hbd.2.1
          have hz40 : z ≤ b.length := hbd.2.2
          clear hbd
          by_cases h1 : m < cs.length
          · obtain ⟨⟨k, o0, o1, p0, p1, q0, q1⟩, hq⟩ : ∃ r, cs[m]? = some r := ⟨_, List.getElem?_eq_getElem h1⟩
            have hcv := HC.out
            rw [drop_get hq] at hcv
            obtain ⟨⟨g1, g2, g3⟩, ⟨g4, g5, g6⟩, ⟨g7, g8, g9⟩, g10, ⟨g11, g12⟩, g13, g14⟩ := hcv
            replace g1 : o0 = x := g1
            replace g2 : p0 = y := g2
            replace g3 : q0 = z := g3
            subst g1; subst g2; subst g3
            replace g4 : o0 ≤ o1 := g4
            replace g5 : p0 ≤ p1 := g5
            replace g6 : q0 ≤ q1 := g6
            replace g7 : o1 ≤ o.length := g7
            replace g8 : p1 ≤ a.length := g8
            replace g9 : q1 ≤ b.length := g9
            replace g10 : o0 + p0 + q0 < o1 + p1 + q1 := g10
            replace g11 : 1 ≤ k := g11
            replace g12 : k ≤ 5 := g12
            replace g13 : k = 1 → l ≠ 1 ∧ seg o o0 o1 = seg a p0 p1 ∧ seg o o0 o1 = seg b q0 q1 := g13
            have HG13 := Lib.hid g13
            have HNX : Hid (Cov o a b (cs.drop (m + 1)) o1 p1 q1 k) := g14
            obtain ⟨gb, ob, rfl, hc⟩ := HIN.out m _ hq
            have d0 := cell_below hbe (hc 0 (.int .i64 k) rfl)
            have d1 := cell_below hbe (hc 1 (.int .i64 o0) rfl)
            have d2 := cell_below hbe (hc 2 (.int .i64 o1) rfl)
            have d3 := cell_below hbe (hc 3 (.int .i64 p0) rfl)
            have d4 := cell_below hbe (hc 4 (.int .i64 p1) rfl)
            have d5 := cell_below hbe (hc 5 (.int .i64 q0) rfl)
            have d6 := cell_below hbe (hc 6 (.int .i64 q1) rfl)
            rw [Nat.add_zero] at d0
            rw [← Nat.add_assoc] at d1 d2 d3 d4 d5 d6
            have t1 : decide ((o1 : Int) < o0) = false := decide_eq_false (by omega)
            have t2 : decide ((p1 : Int) < p0) = false := decide_eq_false (by omega)
            have t3 : decide ((q1 : Int) < q0) = false := decide_eq_false (by omega)
            have t1' : decide (o1 < o0) = false := decide_eq_false (by omega)
            have t2' : decide (p1 < p0) = false := decide_eq_false (by omega)
            have t3' : decide (q1 < q0) = false := decide_eq_false (by omega)
            have t4 : decide ((o1 : Int) > o.length) = false := decide_eq_false (by omega)
            have t5 : decide ((p1 : Int) > a.length) = false := decide_eq_false (by omega)
            have t6 : decide ((q1 : Int) > b.length) = false := decide_eq_false (by omega)
            have t4' : decide (o.length < o1) = false := decide_eq_false (by omega)
            have t5' : decide (a.length < p1) = false := decide_eq_false (by omega)
            have t6' : decide (b.length < q1) = false := decide_eq_false (by omega)
            have s1 : IntKind.i64.wrap ((o1 : Int) + p1) = (o1 : Int) + p1 := IntWalk.i64_in _ (by omega)
            have s2 : IntKind.i64.wrap ((o1 : Int) + p1 + q1) = (o1 : Int) + p1 + q1 := IntWalk.i64_in _ (by omega)
            have s3 : IntKind.i64.wrap ((o0 : Int) + p0) = (o0 : Int) + p0 := IntWalk.i64_in _ (by omega)
            have s4 : IntKind.i64.wrap ((o0 : Int) + p0 + q0) = (o0 : Int) + p0 + q0 := IntWalk.i64_in _ (by omega)
            have t7 : ((o1 : Int) + p1 + q1 == (o0 : Int) + p0 + q0) = false := by simp; omega
            have hbA : Below wr.heap.size wr (wr.alloc (.cells #[.int .i64 k, .int .i64 o0, .int .i64 o1, .int .i64 p0, .int .i64 p1, .int .i64 q0, .int .i64 q1] 51)) := (Below.refl _ _).alloc (Nat.le_refl _) _
            have hbW := hbe.trans (hbA.mono hbe.size)
            have hcA := CellsAt.new wr #[.int .i64 k, .int .i64 o0, .int .i64 o1, .int .i64 p0, .int .i64 p1, .int .i64 q0, .int .i64 q1] 51
            have hW0 := hbe2.trans (hbW.mono hbe2.size)
            clear hc hq g13 g14 HC hbe hbA
            go_upto_region 11 with fail
            obtain ⟨W, hW⟩ : ∃ W, W = wr.alloc (.cells #[.int .i64 k, .int .i64 o0, .int .i64 o1, .int .i64 p0, .int .i64 p1, .int .i64 q0, .int .i64 q1] 51) := ⟨_, rfl⟩
            obtain ⟨gs, hgs⟩ : ∃ gs, gs = wr.heap.size := ⟨_, rfl⟩
            rw [← hW] at hbW hcA hW0 ⊢
            rw [← hgs] at hcA ⊢
            clear hW hgs t1 t2 t3 t4 t5 t6 t7 t1' t2' t3' t4' t5' t6' s1 s2 s3 s4 d0 d1 d2 d3 d4 d5 d6
            have f0 := hcA.cell 0 (v := .int .i64 k) rfl
            have f2 := hcA.cell 2 (v := .int .i64 o1) rfl
            have f4 := hcA.cell 4 (v := .int .i64 p1) rfl
            have f6 := hcA.cell 6 (v := .int .i64 q1) rfl
            clear hcA
            by_cases hk : k = 1
            · obtain ⟨r1, r2, r3⟩ := HG13.out hk
              subst hk
              have n1 : (l == 1) = false := by simpa using r1
              have u1 := congrArg List.length r2
              have u2 := congrArg List.length r3
              rw [seg_len g4 g7, seg_len g5 g8] at u1
              rw [seg_len g4 g7, seg_len g6 g9] at u2
              have v1 : ¬ co = o0 := by omega
              have v2 : ¬ ca = p0 := by omega
              have v3 : ¬ cb = q0 := by omega
              have pO := fun n => ((HRO.out (W.drewN n) (below_drewN' hW0)).gen.part (l := o0) (h := o1) g4 g7)
              have pA := fun n => ((HRA.out (W.drewN n) (below_drewN' hW0)).gen.part (l := p0) (h := p1) g5 g8)
              have pB := fun n => ((HRB.out (W.drewN n) (below_drewN' hW0)).gen.part (l := q0) (h := q1) g6 g9)
              simp only [if_neg v1] at pO
              simp only [if_neg v2] at pA
              simp only [if_neg v3] at pB
              have HEQ : Hid (∀ n v, (v = .slice (aa.map fun x => x.add p0) (p1 - p0) (ca - p0) ∨ v = .slice (ab.map fun x => x.add q0) (q1 - q0) (cb - q0)) → Calls Try.prog 26 #[.slice (ao.map fun x => x.add o0) (o1 - o0) (co - o0), v] (W.drewN n) fun e w' => e = .returned (.bool true) ∧ ∃ m, w' = (W.drewN n).drewN m) := by
                intro n v hv
                have hso : ((o.take o1).drop o0).length ≤ 100000000 := by rw [List.length_drop, List.length_take]; omega
                rcases hv with rfl | rfl
                · have := sameZ_quiet _ _ _ _ (W.drewN n) (pO n) (pA n) hso (by rw [List.length_drop, List.length_take]; omega)
                  rwa [show eqB ((o.take o1).drop o0) ((a.take p1).drop p0) = true from eqB_yes r2] at this
                · have := sameZ_quiet _ _ _ _ (W.drewN n) (pO n) (pB n) hso (by rw [List.length_drop, List.length_take]; omega)
                  rwa [show eqB ((o.take o1).drop o0) ((b.take q1).drop q0) = true from eqB_yes r3] at this
              clear pO pA pB u1 u2 r1 r2 r3 HG13
              go_wp2_with fail
              go_quiet ((go_at_call 26; exact Calls.quiet_of (HEQ.out _ _ (by first | exact .inl rfl | exact .inr rfl))))
              go_wp2_with fail
              go_quiet (fail)
              go_wp2_with fail
              go_roundw
              case rel => exact ⟨m + 1, o1, p1, q1, 1, by omega, by go_num, rfl, rfl, rfl, rfl, HNX.out, below_drewN' hbW⟩
              case measure => simp only [intOf]; omega
            · have n1 : (k == 1) = false := by simpa using hk
              clear HG13
              go_wp2_with fail
              go_quiet (fail)
              go_wp2_with fail
              go_roundw
              case rel => exact ⟨m + 1, o1, p1, q1, k, by omega, by go_num, rfl, rfl, rfl, rfl, HNX.out, below_drewN' hbW⟩
              case measure => simp only [intOf]; omega
          · obtain rfl : cs.length = m := by omega
            have hcv := HC.out
            rw [List.drop_length] at hcv
            obtain ⟨rfl, rfl, rfl⟩ := hcv
            go_wp2_with fail
            go_ret
            exact ⟨rfl, hbe2.trans (hbe.mono hbe2.size)⟩
end Go.Proofs.Ytidfjemblidjkaa
