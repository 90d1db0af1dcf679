/- Scripts: whether an act's numbers are as its kind has them. -/
import Derived.Test.YtbcpciegdmminaaGreatDoorScG
namespace Go.Proofs.YtbcpciegdmminaaGreatDoor
open Go Go.RowKit
set_option linter.unusedVariables false
def numb (k a b c n : Int) : Bool := numbered ⟨k, a, b, c, n, [], [], []⟩
set_option maxRecDepth 100000 in
set_option maxHeartbeats 4000000 in
theorem numbered_any {w : World} (k a b c n : Int) (vb vk vt : Value) :
    Calls Tryz.prog 24 #[.agg #[.int .i64 k, .int .i64 a, .int .i64 b, .int .i64 c, .int .i64 n, vb, vk, vt]] w fun e w' => e = .returned (.bool (numb k a b c n)) ∧ Below w.heap.size w w' := by
  obtain ⟨R, hR⟩ : ∃ R, R = numb k a b c n := ⟨_, rfl⟩
  rw [← hR]
  obtain ⟨W0, hW0⟩ : ∃ W0, W0 = w.alloc (.cells #[.int .i64 k, .int .i64 a, .int .i64 b, .int .i64 c, .int .i64 n, vb, vk, vt] 26) := ⟨_, rfl⟩
  obtain ⟨g, hg⟩ : ∃ g, g = w.heap.size := ⟨_, rfl⟩
  have HB : Hid (Below w.heap.size w W0) := by show Below _ _ _; rw [hW0]; exact (Below.refl _ _).alloc (Nat.le_refl _) _
  have hc : CellsAt W0 g 26 #[.int .i64 k, .int .i64 a, .int .i64 b, .int .i64 c, .int .i64 n, vb, vk, vt] := by rw [hW0, hg]; exact CellsAt.new w _ _
  have c0 := hc.cell 0 (v := .int .i64 k) rfl
  have c1 := hc.cell 1 (v := .int .i64 a) rfl
  have c2 := hc.cell 2 (v := .int .i64 b) rfl
  have c3 := hc.cell 3 (v := .int .i64 c) rfl
  have c4 := hc.cell 4 (v := .int .i64 n) rfl
  have HW := Lib.hid hW0
  have HG := Lib.hid hg
  have HR := Lib.hid hR
  clear hW0 hg hR hc
  go_enter Tryz.func24, Tryz.ntmps24
  go_upto_region 1 with fail
  rw [← HW.out, ← HG.out]
  clear HW HG
  by_cases k3 : k = 3
  · subst k3
    cases ia : inN a with
    | false =>
      have HZ : Hid (R = false) := by show _ = _; rw [HR.out]; simp [numb, numbered, ia]
      clear HR
      go_wp2_with fail
      refine (in_any a _).mono ?_
      rintro e w1 ⟨rfl, rfl⟩
      rw [ia]
      go_wp2_with fail
      go_ret
      exact ⟨congrArg (fun z => Ending.returned (Value.bool z)) HZ.out.symm, HB.out⟩
    | true =>
      by_cases zb : b = 0
      · have jb : (b == 0) = true := by simpa using zb
        by_cases zc : c = 0
        · have jc : (c == 0) = true := by simpa using zc
          by_cases zn : n = 0
          · have jn : (n == 0) = true := by simpa using zn
            have HZ : Hid (R = true) := by show _ = _; rw [HR.out]; simp [numb, numbered, zero, ia, zb, zc, zn]
            clear HR
            go_wp2_with fail
            refine (in_any a _).mono ?_
            rintro e w1 ⟨rfl, rfl⟩
            rw [ia]
            go_wp2_with fail
            go_ret
            exact ⟨congrArg (fun z => Ending.returned (Value.bool z)) HZ.out.symm, HB.out⟩
          · have jn : (n == 0) = false := by simpa using zn
            have HZ : Hid (R = false) := by show _ = _; rw [HR.out]; simp [numb, numbered, zero, ia, zb, zc, zn]
            clear HR
            go_wp2_with fail
            refine (in_any a _).mono ?_
            rintro e w1 ⟨rfl, rfl⟩
            rw [ia]
            go_wp2_with fail
            go_ret
            exact ⟨congrArg (fun z => Ending.returned (Value.bool z)) HZ.out.symm, HB.out⟩
        · have jc : (c == 0) = false := by simpa using zc
          have HZ : Hid (R = false) := by show _ = _; rw [HR.out]; simp [numb, numbered, zero, ia, zb, zc]
          clear HR
          go_wp2_with fail
          refine (in_any a _).mono ?_
          rintro e w1 ⟨rfl, rfl⟩
          rw [ia]
          go_wp2_with fail
          go_ret
          exact ⟨congrArg (fun z => Ending.returned (Value.bool z)) HZ.out.symm, HB.out⟩
      · have jb : (b == 0) = false := by simpa using zb
        have HZ : Hid (R = false) := by show _ = _; rw [HR.out]; simp [numb, numbered, zero, ia, zb]
        clear HR
        go_wp2_with fail
        refine (in_any a _).mono ?_
        rintro e w1 ⟨rfl, rfl⟩
        rw [ia]
        go_wp2_with fail
        go_ret
        exact ⟨congrArg (fun z => Ending.returned (Value.bool z)) HZ.out.symm, HB.out⟩
  · have e3 : (k == 3) = false := by simpa using k3
    by_cases k6 : k = 6
    · subst k6
      cases ia : inN a with
      | false =>
        have HZ : Hid (R = false) := by show _ = _; rw [HR.out]; simp [numb, numbered, ia]
        clear HR
        go_wp2_with fail
        refine (in_any a _).mono ?_
        rintro e w1 ⟨rfl, rfl⟩
        rw [ia]
        go_wp2_with fail
        go_ret
        exact ⟨congrArg (fun z => Ending.returned (Value.bool z)) HZ.out.symm, HB.out⟩
      | true =>
        by_cases zb : b = 0
        · have jb : (b == 0) = true := by simpa using zb
          by_cases zc : c = 0
          · have jc : (c == 0) = true := by simpa using zc
            by_cases zn : n = 0
            · have jn : (n == 0) = true := by simpa using zn
              have HZ : Hid (R = true) := by show _ = _; rw [HR.out]; simp [numb, numbered, zero, ia, zb, zc, zn]
              clear HR
              go_wp2_with fail
              refine (in_any a _).mono ?_
              rintro e w1 ⟨rfl, rfl⟩
              rw [ia]
              go_wp2_with fail
              go_ret
              exact ⟨congrArg (fun z => Ending.returned (Value.bool z)) HZ.out.symm, HB.out⟩
            · have jn : (n == 0) = false := by simpa using zn
              have HZ : Hid (R = false) := by show _ = _; rw [HR.out]; simp [numb, numbered, zero, ia, zb, zc, zn]
              clear HR
              go_wp2_with fail
              refine (in_any a _).mono ?_
              rintro e w1 ⟨rfl, rfl⟩
              rw [ia]
              go_wp2_with fail
              go_ret
              exact ⟨congrArg (fun z => Ending.returned (Value.bool z)) HZ.out.symm, HB.out⟩
          · have jc : (c == 0) = false := by simpa using zc
            have HZ : Hid (R = false) := by show _ = _; rw [HR.out]; simp [numb, numbered, zero, ia, zb, zc]
            clear HR
            go_wp2_with fail
            refine (in_any a _).mono ?_
            rintro e w1 ⟨rfl, rfl⟩
            rw [ia]
            go_wp2_with fail
            go_ret
            exact ⟨congrArg (fun z => Ending.returned (Value.bool z)) HZ.out.symm, HB.out⟩
        · have jb : (b == 0) = false := by simpa using zb
          have HZ : Hid (R = false) := by show _ = _; rw [HR.out]; simp [numb, numbered, zero, ia, zb]
          clear HR
          go_wp2_with fail
          refine (in_any a _).mono ?_
          rintro e w1 ⟨rfl, rfl⟩
          rw [ia]
          go_wp2_with fail
          go_ret
          exact ⟨congrArg (fun z => Ending.returned (Value.bool z)) HZ.out.symm, HB.out⟩
    · have e6 : (k == 6) = false := by simpa using k6
      by_cases k11 : k = 11
      · subst k11
        cases ia : inN a with
        | false =>
          have HZ : Hid (R = false) := by show _ = _; rw [HR.out]; simp [numb, numbered, ia]
          clear HR
          go_wp2_with fail
          refine (in_any a _).mono ?_
          rintro e w1 ⟨rfl, rfl⟩
          rw [ia]
          go_wp2_with fail
          go_ret
          exact ⟨congrArg (fun z => Ending.returned (Value.bool z)) HZ.out.symm, HB.out⟩
        | true =>
          by_cases zb : b = 0
          · have jb : (b == 0) = true := by simpa using zb
            by_cases zc : c = 0
            · have jc : (c == 0) = true := by simpa using zc
              by_cases zn : n = 0
              · have jn : (n == 0) = true := by simpa using zn
                have HZ : Hid (R = true) := by show _ = _; rw [HR.out]; simp [numb, numbered, zero, ia, zb, zc, zn]
                clear HR
                go_wp2_with fail
                refine (in_any a _).mono ?_
                rintro e w1 ⟨rfl, rfl⟩
                rw [ia]
                go_wp2_with fail
                go_ret
                exact ⟨congrArg (fun z => Ending.returned (Value.bool z)) HZ.out.symm, HB.out⟩
              · have jn : (n == 0) = false := by simpa using zn
                have HZ : Hid (R = false) := by show _ = _; rw [HR.out]; simp [numb, numbered, zero, ia, zb, zc, zn]
                clear HR
                go_wp2_with fail
                refine (in_any a _).mono ?_
                rintro e w1 ⟨rfl, rfl⟩
                rw [ia]
                go_wp2_with fail
                go_ret
                exact ⟨congrArg (fun z => Ending.returned (Value.bool z)) HZ.out.symm, HB.out⟩
            · have jc : (c == 0) = false := by simpa using zc
              have HZ : Hid (R = false) := by show _ = _; rw [HR.out]; simp [numb, numbered, zero, ia, zb, zc]
              clear HR
              go_wp2_with fail
              refine (in_any a _).mono ?_
              rintro e w1 ⟨rfl, rfl⟩
              rw [ia]
              go_wp2_with fail
              go_ret
              exact ⟨congrArg (fun z => Ending.returned (Value.bool z)) HZ.out.symm, HB.out⟩
          · have jb : (b == 0) = false := by simpa using zb
            have HZ : Hid (R = false) := by show _ = _; rw [HR.out]; simp [numb, numbered, zero, ia, zb]
            clear HR
            go_wp2_with fail
            refine (in_any a _).mono ?_
            rintro e w1 ⟨rfl, rfl⟩
            rw [ia]
            go_wp2_with fail
            go_ret
            exact ⟨congrArg (fun z => Ending.returned (Value.bool z)) HZ.out.symm, HB.out⟩
      · have e11 : (k == 11) = false := by simpa using k11
        by_cases k5 : k = 5
        · subst k5
          cases ia : inN a with
          | false =>
            have HZ : Hid (R = false) := by show _ = _; rw [HR.out]; simp [numb, numbered, ia]
            clear HR
            go_wp2_with fail
            refine (in_any a _).mono ?_
            rintro e w1 ⟨rfl, rfl⟩
            rw [ia]
            go_wp2_with fail
            go_ret
            exact ⟨congrArg (fun z => Ending.returned (Value.bool z)) HZ.out.symm, HB.out⟩
          | true =>
            cases ib : inN b with
            | false =>
              have HZ : Hid (R = false) := by show _ = _; rw [HR.out]; simp [numb, numbered, ia, ib]
              clear HR
              go_wp2_with fail
              refine (in_any a _).mono ?_
              rintro e w1 ⟨rfl, rfl⟩
              rw [ia]
              go_wp2_with fail
              refine (in_any b _).mono ?_
              rintro e w1 ⟨rfl, rfl⟩
              rw [ib]
              go_wp2_with fail
              go_ret
              exact ⟨congrArg (fun z => Ending.returned (Value.bool z)) HZ.out.symm, HB.out⟩
            | true =>
              by_cases zc : c = 0
              · have jc : (c == 0) = true := by simpa using zc
                by_cases zn : n = 0
                · have jn : (n == 0) = true := by simpa using zn
                  have HZ : Hid (R = true) := by show _ = _; rw [HR.out]; simp [numb, numbered, zero, ia, ib, zc, zn]
                  clear HR
                  go_wp2_with fail
                  refine (in_any a _).mono ?_
                  rintro e w1 ⟨rfl, rfl⟩
                  rw [ia]
                  go_wp2_with fail
                  refine (in_any b _).mono ?_
                  rintro e w1 ⟨rfl, rfl⟩
                  rw [ib]
                  go_wp2_with fail
                  go_ret
                  exact ⟨congrArg (fun z => Ending.returned (Value.bool z)) HZ.out.symm, HB.out⟩
                · have jn : (n == 0) = false := by simpa using zn
                  have HZ : Hid (R = false) := by show _ = _; rw [HR.out]; simp [numb, numbered, zero, ia, ib, zc, zn]
                  clear HR
                  go_wp2_with fail
                  refine (in_any a _).mono ?_
                  rintro e w1 ⟨rfl, rfl⟩
                  rw [ia]
                  go_wp2_with fail
                  refine (in_any b _).mono ?_
                  rintro e w1 ⟨rfl, rfl⟩
                  rw [ib]
                  go_wp2_with fail
                  go_ret
                  exact ⟨congrArg (fun z => Ending.returned (Value.bool z)) HZ.out.symm, HB.out⟩
              · have jc : (c == 0) = false := by simpa using zc
                have HZ : Hid (R = false) := by show _ = _; rw [HR.out]; simp [numb, numbered, zero, ia, ib, zc]
                clear HR
                go_wp2_with fail
                refine (in_any a _).mono ?_
                rintro e w1 ⟨rfl, rfl⟩
                rw [ia]
                go_wp2_with fail
                refine (in_any b _).mono ?_
                rintro e w1 ⟨rfl, rfl⟩
                rw [ib]
                go_wp2_with fail
                go_ret
                exact ⟨congrArg (fun z => Ending.returned (Value.bool z)) HZ.out.symm, HB.out⟩
        · have e5 : (k == 5) = false := by simpa using k5
          by_cases k4 : k = 4
          · subst k4
            cases ia : inN a with
            | false =>
              have HZ : Hid (R = false) := by show _ = _; rw [HR.out]; simp [numb, numbered, ia]
              clear HR
              go_wp2_with fail
              refine (in_any a _).mono ?_
              rintro e w1 ⟨rfl, rfl⟩
              rw [ia]
              go_wp2_with fail
              go_ret
              exact ⟨congrArg (fun z => Ending.returned (Value.bool z)) HZ.out.symm, HB.out⟩
            | true =>
              cases ib : inN b with
              | false =>
                have HZ : Hid (R = false) := by show _ = _; rw [HR.out]; simp [numb, numbered, ia, ib]
                clear HR
                go_wp2_with fail
                refine (in_any a _).mono ?_
                rintro e w1 ⟨rfl, rfl⟩
                rw [ia]
                go_wp2_with fail
                refine (in_any b _).mono ?_
                rintro e w1 ⟨rfl, rfl⟩
                rw [ib]
                go_wp2_with fail
                go_ret
                exact ⟨congrArg (fun z => Ending.returned (Value.bool z)) HZ.out.symm, HB.out⟩
              | true =>
                cases ic : inN c with
                | false =>
                  have HZ : Hid (R = false) := by show _ = _; rw [HR.out]; simp [numb, numbered, ia, ib, ic]
                  clear HR
                  go_wp2_with fail
                  refine (in_any a _).mono ?_
                  rintro e w1 ⟨rfl, rfl⟩
                  rw [ia]
                  go_wp2_with fail
                  refine (in_any b _).mono ?_
                  rintro e w1 ⟨rfl, rfl⟩
                  rw [ib]
                  go_wp2_with fail
                  refine (in_any c _).mono ?_
                  rintro e w1 ⟨rfl, rfl⟩
                  rw [ic]
                  go_wp2_with fail
                  go_ret
                  exact ⟨congrArg (fun z => Ending.returned (Value.bool z)) HZ.out.symm, HB.out⟩
                | true =>
                  by_cases pn : 0 ≤ n ∧ n ≤ 2
                  · have pe : (strB (polOf n)).toList.isEmpty = false := by
                      rw [strB_tl]
                      rcases (show n = 0 ∨ n = 1 ∨ n = 2 by omega) with e | e | e <;> rw [e] <;> rfl
                    have HZ : Hid (R = true) := by show _ = _; rw [HR.out]; simp [numb, numbered, ia, ib, ic, pn]
                    clear HR
                    go_wp2_with fail
                    refine (in_any a _).mono ?_
                    rintro e w1 ⟨rfl, rfl⟩
                    rw [ia]
                    go_wp2_with fail
                    refine (in_any b _).mono ?_
                    rintro e w1 ⟨rfl, rfl⟩
                    rw [ib]
                    go_wp2_with fail
                    refine (in_any c _).mono ?_
                    rintro e w1 ⟨rfl, rfl⟩
                    rw [ic]
                    go_wp2_with fail
                    refine (pword_any n _).mono ?_
                    rintro e w1 ⟨rfl, rfl⟩
                    go_wp2_with fail
                    go_ret
                    exact ⟨congrArg (fun z => Ending.returned (Value.bool z)) HZ.out.symm, HB.out⟩
                  · have pe : (strB (polOf n)).toList.isEmpty = true := by
                      rw [strB_tl]
                      unfold polOf; rw [if_neg pn]; rfl
                    have HZ : Hid (R = false) := by show _ = _; rw [HR.out]; simp [numb, numbered, ia, ib, ic, pn]
                    clear HR
                    go_wp2_with fail
                    refine (in_any a _).mono ?_
                    rintro e w1 ⟨rfl, rfl⟩
                    rw [ia]
                    go_wp2_with fail
                    refine (in_any b _).mono ?_
                    rintro e w1 ⟨rfl, rfl⟩
                    rw [ib]
                    go_wp2_with fail
                    refine (in_any c _).mono ?_
                    rintro e w1 ⟨rfl, rfl⟩
                    rw [ic]
                    go_wp2_with fail
                    refine (pword_any n _).mono ?_
                    rintro e w1 ⟨rfl, rfl⟩
                    go_wp2_with fail
                    go_ret
                    exact ⟨congrArg (fun z => Ending.returned (Value.bool z)) HZ.out.symm, HB.out⟩
          · have e4 : (k == 4) = false := by simpa using k4
            by_cases k8 : k = 8
            · subst k8
              cases ia : inN a with
              | true =>
                by_cases zb : b = 0
                · have jb : (b == 0) = true := by simpa using zb
                  by_cases zc : c = 0
                  · have jc : (c == 0) = true := by simpa using zc
                    by_cases zn : n = 0
                    · have jn : (n == 0) = true := by simpa using zn
                      have HZ : Hid (R = true) := by show _ = _; rw [HR.out]; simp [numb, numbered, zero, ia, zb, zc, zn]
                      clear HR
                      go_wp2_with fail
                      refine (in_any a _).mono ?_
                      rintro e w1 ⟨rfl, rfl⟩
                      rw [ia]
                      go_wp2_with fail
                      go_ret
                      exact ⟨congrArg (fun z => Ending.returned (Value.bool z)) HZ.out.symm, HB.out⟩
                    · have jn : (n == 0) = false := by simpa using zn
                      have HZ : Hid (R = false) := by show _ = _; rw [HR.out]; simp [numb, numbered, zero, ia, zb, zc, zn]
                      clear HR
                      go_wp2_with fail
                      refine (in_any a _).mono ?_
                      rintro e w1 ⟨rfl, rfl⟩
                      rw [ia]
                      go_wp2_with fail
                      go_ret
                      exact ⟨congrArg (fun z => Ending.returned (Value.bool z)) HZ.out.symm, HB.out⟩
                  · have jc : (c == 0) = false := by simpa using zc
                    have HZ : Hid (R = false) := by show _ = _; rw [HR.out]; simp [numb, numbered, zero, ia, zb, zc]
                    clear HR
                    go_wp2_with fail
                    refine (in_any a _).mono ?_
                    rintro e w1 ⟨rfl, rfl⟩
                    rw [ia]
                    go_wp2_with fail
                    go_ret
                    exact ⟨congrArg (fun z => Ending.returned (Value.bool z)) HZ.out.symm, HB.out⟩
                · have jb : (b == 0) = false := by simpa using zb
                  have HZ : Hid (R = false) := by show _ = _; rw [HR.out]; simp [numb, numbered, zero, ia, zb]
                  clear HR
                  go_wp2_with fail
                  refine (in_any a _).mono ?_
                  rintro e w1 ⟨rfl, rfl⟩
                  rw [ia]
                  go_wp2_with fail
                  go_ret
                  exact ⟨congrArg (fun z => Ending.returned (Value.bool z)) HZ.out.symm, HB.out⟩
              | false =>
                by_cases am : a = -1
                · have aj : (a == -1) = true := by simpa using am
                  by_cases zb : b = 0
                  · have jb : (b == 0) = true := by simpa using zb
                    by_cases zc : c = 0
                    · have jc : (c == 0) = true := by simpa using zc
                      by_cases zn : n = 0
                      · have jn : (n == 0) = true := by simpa using zn
                        have HZ : Hid (R = true) := by show _ = _; rw [HR.out]; simp [numb, numbered, zero, am, zb, zc, zn]
                        clear HR
                        clear am
                        go_wp2_with fail
                        refine (in_any a _).mono ?_
                        rintro e w1 ⟨rfl, rfl⟩
                        rw [ia]
                        go_wp2_with fail
                        go_ret
                        exact ⟨congrArg (fun z => Ending.returned (Value.bool z)) HZ.out.symm, HB.out⟩
                      · have jn : (n == 0) = false := by simpa using zn
                        have HZ : Hid (R = false) := by show _ = _; rw [HR.out]; simp [numb, numbered, zero, am, zb, zc, zn]
                        clear HR
                        clear am
                        go_wp2_with fail
                        refine (in_any a _).mono ?_
                        rintro e w1 ⟨rfl, rfl⟩
                        rw [ia]
                        go_wp2_with fail
                        go_ret
                        exact ⟨congrArg (fun z => Ending.returned (Value.bool z)) HZ.out.symm, HB.out⟩
                    · have jc : (c == 0) = false := by simpa using zc
                      have HZ : Hid (R = false) := by show _ = _; rw [HR.out]; simp [numb, numbered, zero, am, zb, zc]
                      clear HR
                      clear am
                      go_wp2_with fail
                      refine (in_any a _).mono ?_
                      rintro e w1 ⟨rfl, rfl⟩
                      rw [ia]
                      go_wp2_with fail
                      go_ret
                      exact ⟨congrArg (fun z => Ending.returned (Value.bool z)) HZ.out.symm, HB.out⟩
                  · have jb : (b == 0) = false := by simpa using zb
                    have HZ : Hid (R = false) := by show _ = _; rw [HR.out]; simp [numb, numbered, zero, am, zb]
                    clear HR
                    clear am
                    go_wp2_with fail
                    refine (in_any a _).mono ?_
                    rintro e w1 ⟨rfl, rfl⟩
                    rw [ia]
                    go_wp2_with fail
                    go_ret
                    exact ⟨congrArg (fun z => Ending.returned (Value.bool z)) HZ.out.symm, HB.out⟩
                · have aj : (a == -1) = false := by simpa using am
                  have HZ : Hid (R = false) := by show _ = _; rw [HR.out]; simp [numb, numbered, ia, am]
                  clear HR
                  clear am
                  go_wp2_with fail
                  refine (in_any a _).mono ?_
                  rintro e w1 ⟨rfl, rfl⟩
                  rw [ia]
                  go_wp2_with fail
                  go_ret
                  exact ⟨congrArg (fun z => Ending.returned (Value.bool z)) HZ.out.symm, HB.out⟩
            · have e8 : (k == 8) = false := by simpa using k8
              by_cases za : a = 0
              · have ja : (a == 0) = true := by simpa using za
                by_cases zb : b = 0
                · have jb : (b == 0) = true := by simpa using zb
                  by_cases zc : c = 0
                  · have jc : (c == 0) = true := by simpa using zc
                    by_cases zn : n = 0
                    · have jn : (n == 0) = true := by simpa using zn
                      have HZ : Hid (R = true) := by show _ = _; rw [HR.out]; simp [numb, numbered, zero, k3, k6, k11, k5, k4, k8, za, zb, zc, zn]
                      clear HR
                      go_wp2_with fail
                      go_ret
                      exact ⟨congrArg (fun z => Ending.returned (Value.bool z)) HZ.out.symm, HB.out⟩
                    · have jn : (n == 0) = false := by simpa using zn
                      have HZ : Hid (R = false) := by show _ = _; rw [HR.out]; simp [numb, numbered, zero, k3, k6, k11, k5, k4, k8, za, zb, zc, zn]
                      clear HR
                      go_wp2_with fail
                      go_ret
                      exact ⟨congrArg (fun z => Ending.returned (Value.bool z)) HZ.out.symm, HB.out⟩
                  · have jc : (c == 0) = false := by simpa using zc
                    have HZ : Hid (R = false) := by show _ = _; rw [HR.out]; simp [numb, numbered, zero, k3, k6, k11, k5, k4, k8, za, zb, zc]
                    clear HR
                    go_wp2_with fail
                    go_ret
                    exact ⟨congrArg (fun z => Ending.returned (Value.bool z)) HZ.out.symm, HB.out⟩
                · have jb : (b == 0) = false := by simpa using zb
                  have HZ : Hid (R = false) := by show _ = _; rw [HR.out]; simp [numb, numbered, zero, k3, k6, k11, k5, k4, k8, za, zb]
                  clear HR
                  go_wp2_with fail
                  go_ret
                  exact ⟨congrArg (fun z => Ending.returned (Value.bool z)) HZ.out.symm, HB.out⟩
              · have ja : (a == 0) = false := by simpa using za
                have HZ : Hid (R = false) := by show _ = _; rw [HR.out]; simp [numb, numbered, zero, k3, k6, k11, k5, k4, k8, za]
                clear HR
                go_wp2_with fail
                go_ret
                exact ⟨congrArg (fun z => Ending.returned (Value.bool z)) HZ.out.symm, HB.out⟩
end Go.Proofs.YtbcpciegdmminaaGreatDoor
