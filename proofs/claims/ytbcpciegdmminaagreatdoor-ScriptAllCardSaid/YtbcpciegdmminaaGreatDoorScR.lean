/- Scripts: which acts are right. -/
import Derived.Test.YtbcpciegdmminaaGreatDoorScQ
namespace Go.Proofs.YtbcpciegdmminaaGreatDoor
open Go Go.RowKit
set_option linter.unusedVariables false
/-- what the rows of an act hold that came in -/
def ActI (w : World) (vb vk vt : Value) (bs : Bs) (keep : List Int) (torn : List (Int × Bs)) : Prop :=
  RowB w vb bs ∧ RowL IV w vk keep ∧ ∃ acc : List TQ, RowS tqC w vt acc ∧ (∀ y ∈ acc, RowB w (tqV y) y.1.2) ∧ acc.map Prod.fst = torn
theorem ActR.toI {B : Nat} {w : World} {vb vk vt : Value} {bs : Bs} {keep : List Int} {torn : List (Int × Bs)} (h : ActR B w vb vk vt bs keep torn) : ActI w vb vk vt bs keep torn := by
  obtain ⟨h1, h2, acc, h3, h4, h5⟩ := h
  exact ⟨h1.row, h2.row, acc, h3.row, fun y hy => (h4 y hy).1, h5⟩
theorem ActI.stays {w w' : World} {vb vk vt : Value} {bs : Bs} {keep : List Int} {torn : List (Int × Bs)} (h : ActI w vb vk vt bs keep torn) (hb : Below w.heap.size w w') : ActI w' vb vk vt bs keep torn := by
  obtain ⟨h1, h2, acc, h3, h4, h5⟩ := h
  exact ⟨Row.stays h1 hb, Row.stays h2 hb, acc, Row.stays h3 hb, fun y hy => Row.stays (h4 y hy) hb, h5⟩
theorem word_ne {k : Int} (h : 1 ≤ k ∧ k ≤ 11) : (strB (wordOf k)).toList.isEmpty = false := by
  rw [strB_tl]
  have h1 : ∀ w ∈ wordsL.tail, w.isEmpty = false := by decide
  unfold wordOf
  rw [if_pos h]
  have h2 : wordsL.getD k.toNat [] ∈ wordsL.tail := by
    obtain ⟨m, hm⟩ : ∃ m, k.toNat = m + 1 := ⟨k.toNat - 1, by omega⟩
    have hl : m < wordsL.tail.length := by show m < 11; omega
    rw [hm, List.getD_eq_getElem?_getD, ← List.getElem?_tail, List.getElem?_eq_getElem hl]
    exact List.getElem_mem hl
  exact h1 _ h2
theorem word_nil {k : Int} (h : ¬ (1 ≤ k ∧ k ≤ 11)) : (strB (wordOf k)).toList.isEmpty = true := by
  unfold wordOf
  rw [if_neg h, strB_tl]; rfl
theorem numb_eq (k a b c n : Int) (bs : Bs) (keep : List Int) (torn : List (Int × Bs)) : numbered ⟨k, a, b, c, n, bs, keep, torn⟩ = numb k a b c n := rfl
set_option maxRecDepth 100000 in
set_option maxHeartbeats 4000000 in
theorem right_any {w : World} {k a b c n : Int} {vb vk vt : Value} {bs : Bs} {keep : List Int} {torn : List (Int × Bs)} (hW : WordsAt w) (hkl : keep.length ≤ 2000000) (htl : torn.length ≤ 2000000) (hA : ActI w vb vk vt bs keep torn) :
    Calls Tryz.prog 12 #[.agg (acCells k a b c n vb vk vt)] w fun e w' => e = .returned (.bool (rightA ⟨k, a, b, c, n, bs, keep, torn⟩)) ∧ Below w.heap.size w w' := by
  obtain ⟨R, hR⟩ : ∃ R, R = rightA ⟨k, a, b, c, n, bs, keep, torn⟩ := ⟨_, rfl⟩
  rw [← hR]
  have hR2 : R = (decide (1 ≤ k ∧ k ≤ 11) && numb k a b c n && (k == 1 || bs.isEmpty) && (k == 9 || keep.isEmpty && torn.isEmpty) && decide (bs.length ≤ 4096 ∧ keep.length ≤ 200 ∧ torn.length ≤ 200) && keep.all inN && torn.all tornOk) := hR
  have HR := Lib.hid hR2
  obtain ⟨W0, hW0⟩ : ∃ W0, W0 = w.alloc (.cells (acCells k a b c n vb vk vt) 26) := ⟨_, rfl⟩
  obtain ⟨g, hg⟩ : ∃ g, g = w.heap.size := ⟨_, rfl⟩
  have hb : Below w.heap.size w W0 := by rw [hW0]; exact (Below.refl _ _).alloc (Nat.le_refl _) _
  have hc : CellsAt W0 g 26 (acCells k a b c n vb vk vt) := by rw [hW0, hg]; exact CellsAt.new w _ _
  obtain ⟨h1, h2, acc, h3, h4, h5⟩ := hA
  obtain ⟨ab, cb, rfl, hbl, -⟩ := h1.gen.shape
  obtain ⟨ak, ck, rfl, -, -⟩ := h2.shape
  obtain ⟨at', ct, rfl, -, -⟩ := h3.shape tqC_len
  have hbl0 := hbl
  have hbl : bs.length ≤ maxLen := hbl0
  have htn : torn.length = acc.length := by rw [← h5, List.length_map]
  have HBI : Hid (∀ W, Below w.heap.size w W → Calls Tryz.prog 27 #[.slice ak keep.length ck, .func (.func 28) #[] #[]] W fun e w' => e = .returned (.bool (!(keep.all inN))) ∧ w' = W) := fun W hb => containsI_any (Row.stays h2 hb) (by unfold maxLen; omega)
  have HBT : Hid (∀ W, Below w.heap.size w W → acc.length ≤ 200 → Calls Tryz.prog 29 #[.slice at' acc.length ct, .func (.func 25) #[] #[]] W fun e w' => e = .returned (.bool (!(torn.all tornOk))) ∧ Below W.heap.size W w') := fun W hb hl => by
    rw [← h5]
    exact containsT_any (h3.stays hb) (fun y hy => by
      obtain ⟨_, _, _, hq, _⟩ := (h4 y hy).gen.shape
      exact hq) (by omega)
  have HWD := Lib.hid (word_any (hW.stays hb) k)
  have c0 := hc.cell 0 (v := .int .i64 k) rfl
  have c1 := hc.cell 1 (v := .int .i64 a) rfl
  have c2 := hc.cell 2 (v := .int .i64 b) rfl
  have c3 := hc.cell 3 (v := .int .i64 c) rfl
  have c4 := hc.cell 4 (v := .int .i64 n) rfl
  have c5 := hc.cell 5 (v := .slice ab bs.length cb) rfl
  have c6 := hc.cell 6 (v := .slice ak keep.length ck) rfl
  have c7 := hc.cell 7 (v := .slice at' acc.length ct) rfl
  have hadd : IntKind.i64.wrap ((keep.length : Int) + (acc.length : Int)) = (keep.length : Int) + (acc.length : Int) := by
    rw [IntKind.wrap_i64]; omega
  have hbe : bs.isEmpty = decide (bs.length = 0) := by cases bs <;> rfl
  have hke : (keep.isEmpty && torn.isEmpty) = decide (keep.length + acc.length = 0) := by rw [← htn]; cases keep <;> cases torn <;> simp
  rw [hbe, hke, htn] at HR
  have HC := Lib.hid hc
  have HW := Lib.hid hW0
  have HG := Lib.hid hg
  have HB := Lib.hid hb
  have HADD := Lib.hid hadd
  obtain ⟨L, hL⟩ : ∃ L, L = bs.length := ⟨_, rfl⟩
  obtain ⟨K, hK⟩ : ∃ K, K = keep.length := ⟨_, rfl⟩
  obtain ⟨T, hT⟩ : ∃ T, T = acc.length := ⟨_, rfl⟩
  obtain ⟨x1, hx1⟩ : ∃ x, x = keep.all inN := ⟨_, rfl⟩
  obtain ⟨x2, hx2⟩ : ∃ x, x = torn.all tornOk := ⟨_, rfl⟩
  rw [← hx1, ← hx2] at HR
  rw [← hx1] at HBI
  rw [← hx2] at HBT
  rw [← hK, ← hT] at HR HADD
  rw [← hL] at HR c5
  rw [← hK] at HBI c6
  rw [← hT] at HBT c7
  rw [← hL, ← hK, ← hT] at HC HW
  rw [← hL, ← hK, ← hT]
  clear hR hR2 hW0 hg hb hc hW h1 h2 h3 h4 h5 hbl hkl htl hbl0 htn hadd hbe hke hL hK hT hx1 hx2
  go_enter Tryz.func12, Tryz.ntmps12
  go_upto_region 1 with fail
  rw [← HW.out, ← HG.out]
  clear HW HG
  by_cases hk : 1 ≤ k ∧ k ≤ 11
  · have wn : (strB (wordOf k)).toList.isEmpty = false := word_ne hk
    have hk0 : decide (1 ≤ k ∧ k ≤ 11) = true := decide_eq_true hk
    go_wp2_with fail
    refine HWD.out.mono ?_
    rintro e w1 ⟨rfl, rfl⟩
    clear HWD
    go_wp2_with fail
    refine (numbered_any k a b c n _ _ _).mono ?_
    rintro e w2 ⟨rfl, hb2⟩
    have HB2 := Lib.hid (HB.out.trans (hb2.mono HB.out.size))
    have hc2 := HC.out.stays hb2
    have d0 := hc2.cell 0 (v := .int .i64 k) rfl
    have d5 := hc2.cell 5 (v := .slice ab L cb) rfl
    have d6 := hc2.cell 6 (v := .slice ak K ck) rfl
    have d7 := hc2.cell 7 (v := .slice at' T ct) rfl
    clear hb2 hc2 c0 c1 c2 c3 c4 c5 c6 c7 HC
    cases hn : numb k a b c n with
    | false =>
      have HZ : Hid (R = false) := by show _ = _; rw [HR.out, hk0, hn]; rfl
      clear HR
      try clear z1 z2
      try clear s0
      go_wp2_with fail
      go_ret
      exact ⟨congrArg (fun z => Ending.returned (Value.bool z)) HZ.out.symm, HB2.out⟩
    | true =>
      by_cases k1 : k = 1
      · subst k1
        have p1 : ((1 : Int) == 1 || decide (L = 0)) = true := rfl
        by_cases s0 : K + T = 0
        · have p9 : ((1 : Int) == 9 || decide (K + T = 0)) = true := by rw [decide_eq_true s0]; rfl
          have p0 : decide ((0 : Int) < (K : Int) + (T : Int)) = false := decide_eq_false (by omega)
          have hadd := HADD.out
          by_cases l1 : L ≤ 4096
          · have q1 : decide ((4096 : Int) < (L : Int)) = false := decide_eq_false (by omega)
            have l2 : K ≤ 200 := by omega
            have q2 : decide ((200 : Int) < (K : Int)) = false := decide_eq_false (by omega)
            have l3 : T ≤ 200 := by omega
            have q3 : decide ((200 : Int) < (T : Int)) = false := decide_eq_false (by omega)
            have m1 : decide (L ≤ 4096 ∧ K ≤ 200 ∧ T ≤ 200) = true := decide_eq_true (by omega)
            have HZ : Hid (R = (x1 && x2)) := by show _ = _; rw [HR.out, hk0, hn, p1, p9, m1]; rfl
            have HL3 := Lib.hid l3
            clear HR l1 l2 l3
            try clear z1 z2
            try clear s0
            go_wp2_with fail
            refine (HBI.out _ HB2.out).mono ?_
            rintro e w3 ⟨rfl, rfl⟩
            clear HBI
            cases x1 with
            | false =>
              have HZ2 : Hid (R = false) := by show _ = _; rw [HZ.out]; rfl
              clear HZ
              go_wp2_with fail
              go_ret
              exact ⟨congrArg (fun z => Ending.returned (Value.bool z)) HZ2.out.symm, HB2.out⟩
            | true =>
              have HZ2 : Hid (R = x2) := by show _ = _; rw [HZ.out]; rfl
              clear HZ
              go_wp2_with fail
              refine (HBT.out _ HB2.out HL3.out).mono ?_
              rintro e w4 ⟨rfl, hb4⟩
              have HB4 := Lib.hid (HB2.out.trans (hb4.mono HB2.out.size))
              clear hb4 HBT
              cases x2
              all_goals
                go_wp2_with fail
                go_ret
                exact ⟨congrArg (fun z => Ending.returned (Value.bool z)) HZ2.out.symm, HB4.out⟩
          · have q1 : decide ((4096 : Int) < (L : Int)) = true := decide_eq_true (by omega)
            have m1 : decide (L ≤ 4096 ∧ K ≤ 200 ∧ T ≤ 200) = false := decide_eq_false (by omega)
            have HZ : Hid (R = false) := by show _ = _; rw [HR.out, hk0, hn, p1, p9, m1]; rfl
            clear HR
            try clear z1 z2
            try clear s0
            go_wp2_with fail
            go_ret
            exact ⟨congrArg (fun z => Ending.returned (Value.bool z)) HZ.out.symm, HB2.out⟩
        · have p9 : ((1 : Int) == 9 || decide (K + T = 0)) = false := by rw [decide_eq_false s0]; rfl
          have p0 : decide ((0 : Int) < (K : Int) + (T : Int)) = true := decide_eq_true (by omega)
          have hadd := HADD.out
          have HZ : Hid (R = false) := by show _ = _; rw [HR.out, hk0, hn, p1, p9]; rfl
          clear HR
          try clear z1 z2
          try clear s0
          go_wp2_with fail
          go_ret
          exact ⟨congrArg (fun z => Ending.returned (Value.bool z)) HZ.out.symm, HB2.out⟩
      · have e1 : (k == 1) = false := by simpa using k1
        by_cases l0 : L = 0
        · have q0 : decide ((0 : Int) < (L : Int)) = false := decide_eq_false (by omega)
          have p1 : (k == 1 || decide (L = 0)) = true := by rw [decide_eq_true l0, Bool.or_true]
          by_cases k9 : k = 9
          · subst k9
            have p9 : ((9 : Int) == 9 || decide (K + T = 0)) = true := rfl
            have l1 : L ≤ 4096 := by omega
            have q1 : decide ((4096 : Int) < (L : Int)) = false := decide_eq_false (by omega)
            by_cases l2 : K ≤ 200
            · have q2 : decide ((200 : Int) < (K : Int)) = false := decide_eq_false (by omega)
              by_cases l3 : T ≤ 200
              · have q3 : decide ((200 : Int) < (T : Int)) = false := decide_eq_false (by omega)
                have m1 : decide (L ≤ 4096 ∧ K ≤ 200 ∧ T ≤ 200) = true := decide_eq_true (by omega)
                have HZ : Hid (R = (x1 && x2)) := by show _ = _; rw [HR.out, hk0, hn, p1, p9, m1]; rfl
                have HL3 := Lib.hid l3
                clear HR l1 l2 l3
                try clear z1 z2
                try clear s0
                go_wp2_with fail
                refine (HBI.out _ HB2.out).mono ?_
                rintro e w3 ⟨rfl, rfl⟩
                clear HBI
                cases x1 with
                | false =>
                  have HZ2 : Hid (R = false) := by show _ = _; rw [HZ.out]; rfl
                  clear HZ
                  go_wp2_with fail
                  go_ret
                  exact ⟨congrArg (fun z => Ending.returned (Value.bool z)) HZ2.out.symm, HB2.out⟩
                | true =>
                  have HZ2 : Hid (R = x2) := by show _ = _; rw [HZ.out]; rfl
                  clear HZ
                  go_wp2_with fail
                  refine (HBT.out _ HB2.out HL3.out).mono ?_
                  rintro e w4 ⟨rfl, hb4⟩
                  have HB4 := Lib.hid (HB2.out.trans (hb4.mono HB2.out.size))
                  clear hb4 HBT
                  cases x2
                  all_goals
                    go_wp2_with fail
                    go_ret
                    exact ⟨congrArg (fun z => Ending.returned (Value.bool z)) HZ2.out.symm, HB4.out⟩
              · have q3 : decide ((200 : Int) < (T : Int)) = true := decide_eq_true (by omega)
                have m1 : decide (L ≤ 4096 ∧ K ≤ 200 ∧ T ≤ 200) = false := decide_eq_false (by omega)
                have HZ : Hid (R = false) := by show _ = _; rw [HR.out, hk0, hn, p1, p9, m1]; rfl
                clear HR
                try clear z1 z2
                try clear s0
                go_wp2_with fail
                go_ret
                exact ⟨congrArg (fun z => Ending.returned (Value.bool z)) HZ.out.symm, HB2.out⟩
            · have q2 : decide ((200 : Int) < (K : Int)) = true := decide_eq_true (by omega)
              have m1 : decide (L ≤ 4096 ∧ K ≤ 200 ∧ T ≤ 200) = false := decide_eq_false (by omega)
              have HZ : Hid (R = false) := by show _ = _; rw [HR.out, hk0, hn, p1, p9, m1]; rfl
              clear HR
              try clear z1 z2
              try clear s0
              go_wp2_with fail
              go_ret
              exact ⟨congrArg (fun z => Ending.returned (Value.bool z)) HZ.out.symm, HB2.out⟩
          · have e9 : (k == 9) = false := by simpa using k9
            by_cases s0 : K + T = 0
            · have p9 : (k == 9 || decide (K + T = 0)) = true := by rw [decide_eq_true s0, Bool.or_true]
              have p0 : decide ((0 : Int) < (K : Int) + (T : Int)) = false := decide_eq_false (by omega)
              have hadd := HADD.out
              have l1 : L ≤ 4096 := by omega
              have q1 : decide ((4096 : Int) < (L : Int)) = false := decide_eq_false (by omega)
              have l2 : K ≤ 200 := by omega
              have q2 : decide ((200 : Int) < (K : Int)) = false := decide_eq_false (by omega)
              have l3 : T ≤ 200 := by omega
              have q3 : decide ((200 : Int) < (T : Int)) = false := decide_eq_false (by omega)
              have m1 : decide (L ≤ 4096 ∧ K ≤ 200 ∧ T ≤ 200) = true := decide_eq_true (by omega)
              have HZ : Hid (R = (x1 && x2)) := by show _ = _; rw [HR.out, hk0, hn, p1, p9, m1]; rfl
              have HL3 := Lib.hid l3
              clear HR l1 l2 l3
              try clear z1 z2
              try clear s0
              go_wp2_with fail
              refine (HBI.out _ HB2.out).mono ?_
              rintro e w3 ⟨rfl, rfl⟩
              clear HBI
              cases x1 with
              | false =>
                have HZ2 : Hid (R = false) := by show _ = _; rw [HZ.out]; rfl
                clear HZ
                go_wp2_with fail
                go_ret
                exact ⟨congrArg (fun z => Ending.returned (Value.bool z)) HZ2.out.symm, HB2.out⟩
              | true =>
                have HZ2 : Hid (R = x2) := by show _ = _; rw [HZ.out]; rfl
                clear HZ
                go_wp2_with fail
                refine (HBT.out _ HB2.out HL3.out).mono ?_
                rintro e w4 ⟨rfl, hb4⟩
                have HB4 := Lib.hid (HB2.out.trans (hb4.mono HB2.out.size))
                clear hb4 HBT
                cases x2
                all_goals
                  go_wp2_with fail
                  go_ret
                  exact ⟨congrArg (fun z => Ending.returned (Value.bool z)) HZ2.out.symm, HB4.out⟩
            · have p9 : (k == 9 || decide (K + T = 0)) = false := by rw [decide_eq_false s0, e9]; rfl
              have p0 : decide ((0 : Int) < (K : Int) + (T : Int)) = true := decide_eq_true (by omega)
              have hadd := HADD.out
              have HZ : Hid (R = false) := by show _ = _; rw [HR.out, hk0, hn, p1, p9]; rfl
              clear HR
              try clear z1 z2
              try clear s0
              go_wp2_with fail
              go_ret
              exact ⟨congrArg (fun z => Ending.returned (Value.bool z)) HZ.out.symm, HB2.out⟩
        · have q0 : decide ((0 : Int) < (L : Int)) = true := decide_eq_true (by omega)
          have p1 : (k == 1 || decide (L = 0)) = false := by rw [decide_eq_false l0, e1]; rfl
          have HZ : Hid (R = false) := by show _ = _; rw [HR.out, hk0, hn, p1]; rfl
          clear HR
          try clear z1 z2
          try clear s0
          go_wp2_with fail
          go_ret
          exact ⟨congrArg (fun z => Ending.returned (Value.bool z)) HZ.out.symm, HB2.out⟩
  · have wn : (strB (wordOf k)).toList.isEmpty = true := word_nil hk
    have HZ : Hid (R = false) := by show _ = _; rw [HR.out, decide_eq_false hk]; rfl
    clear HR
    go_wp2_with fail
    refine HWD.out.mono ?_
    rintro e w1 ⟨rfl, rfl⟩
    clear HWD
    go_wp2_with fail
    go_ret
    exact ⟨congrArg (fun z => Ending.returned (Value.bool z)) HZ.out.symm, HB.out⟩
end Go.Proofs.YtbcpciegdmminaaGreatDoor
