/- Paths: rows of steps in memory; which steps and paths are right. -/
import Derived.Test.YtcjflglpkpkflaaGreatDoorPaA
import Derived.Test.YtcjflglpkpkflaaGreatDoorVl
namespace Go.Proofs.YtcjflglpkpkflaaGreatDoor
open Go Go.RowKit
set_option linter.unusedVariables false
/-- a step and where its key's rows lie -/
abbrev SQ := PS × A3
def sC (q : SQ) : List Value := .int .i64 q.1.k :: .int .i64 q.1.n :: .int .i64 q.1.t :: vC (q.1.v, q.2)
theorem sC_len (q : SQ) : (sC q).length = 10 := rfl
theorem sC_one (q : SQ) : (sC q).all Value.oneCell' = true := rfl
def RQ (S : Nat → Prop) (w : World) (q : SQ) : Prop := (i64 q.1.k ∧ i64 q.1.n ∧ i64 q.1.t) ∧ Rep S w q.1.v q.2
theorem RQ.stays {S : Nat → Prop} {w w' : World} {q : SQ} (h : RQ S w q) (hb : Below w.heap.size w w') : RQ S w' q := ⟨h.1, h.2.stays hb⟩
/-- a path in memory -/
def PathR (S : Nat → Prop) (w : World) (v : Value) (p : List SQ) : Prop := RowS sC w v p ∧ ∀ q ∈ p, RQ S w q
theorem PathR.stays {S : Nat → Prop} {w w' : World} {v : Value} {p : List SQ} (h : PathR S w v p) (hb : Below w.heap.size w w') : PathR S w' v p := ⟨h.1.stays hb, fun q hq => (h.2 q hq).stays hb⟩
/-- step i, its cells -/
theorem PathR.at {S : Nat → Prop} {w : World} {a : Option Addr} {c : Nat} {p : List SQ} (h : PathR S w (.slice a p.length c) p) {i : Nat} {K N T k : Int} {n : Nat} {t r : List UInt8} {fs : List (Int × V)} {ls : List V} {ps : List (V × V)} {fa la pa : Option Addr} {fc lc pc : Nat} (hi : p[i]? = some (⟨K, N, T, .mk k n t fs r ls ps⟩, ⟨fa, fc, la, lc, pa, pc⟩)) :
    ∃ (b o : Nat), a = some ⟨b, o, none⟩ ∧ RQ S w (⟨K, N, T, .mk k n t fs r ls ps⟩, ⟨fa, fc, la, lc, pa, pc⟩) ∧
      w.cell? ⟨b, o + i * 10, none⟩ = some (.int .i64 K) ∧ w.cell? ⟨b, o + i * 10 + 1, none⟩ = some (.int .i64 N) ∧ w.cell? ⟨b, o + i * 10 + 2, none⟩ = some (.int .i64 T) ∧
      w.cell? ⟨b, o + i * 10 + 3, none⟩ = some (.int .i64 k) ∧ w.cell? ⟨b, o + i * 10 + 4, none⟩ = some (.int .u64 (n : Int)) ∧ w.cell? ⟨b, o + i * 10 + 5, none⟩ = some (.string (strB t)) ∧
      w.cell? ⟨b, o + i * 10 + 6, none⟩ = some (.slice fa fs.length fc) ∧ w.cell? ⟨b, o + i * 10 + 7, none⟩ = some (.string (strB r)) ∧ w.cell? ⟨b, o + i * 10 + 8, none⟩ = some (.slice la ls.length lc) ∧ w.cell? ⟨b, o + i * 10 + 9, none⟩ = some (.slice pa ps.length pc) := by
  obtain ⟨_, _, h1, h2, h3⟩ := h.1.shape sC_len
  cases h1
  obtain ⟨b, o, ha, hc⟩ := h3 i _ hi
  refine ⟨b, o, ha, h.2 _ (List.mem_of_getElem? hi), ?_, ?_, ?_, ?_, ?_, ?_, ?_, ?_, ?_, ?_⟩
  · simpa using hc 0 (.int .i64 K) rfl
  all_goals rw [Nat.add_assoc]; exact hc _ _ rfl
theorem PathR.len {S : Nat → Prop} {w : World} {a : Option Addr} {c : Nat} {p : List SQ} (h : PathR S w (.slice a p.length c) p) : p.length ≤ maxLen := by
  obtain ⟨_, _, h1, h2, h3⟩ := h.1.shape sC_len
  exact h2
set_option maxRecDepth 100000 in
theorem pin_any (n lo hi : Int) (w : World) : Calls Tryz.prog 47 #[.int .i64 n, .int .i64 lo, .int .i64 hi] w fun e w' => e = .returned (.bool (inB n lo hi)) ∧ w' = w := by
  obtain ⟨R, hR⟩ : ∃ R, R = inB n lo hi := ⟨_, rfl⟩
  rw [← hR]
  have HR := Lib.hid hR
  clear hR
  go_enter Tryz.func47, Tryz.ntmps47
  by_cases h0 : lo ≤ n
  · by_cases h1 : n ≤ hi
    · have HZ : Hid (R = true) := by show _ = _; rw [HR.out]; exact inB_iff.2 ⟨h0, h1⟩
      go_wp2_with fail
      go_ret
      exact ⟨congrArg (fun z => Ending.returned (Value.bool z)) HZ.out.symm, rfl⟩
    · have HZ : Hid (R = false) := by show _ = _; rw [HR.out]; unfold inB; rw [decide_eq_false h1, Bool.and_false]
      go_wp2_with fail
      go_ret
      exact ⟨congrArg (fun z => Ending.returned (Value.bool z)) HZ.out.symm, rfl⟩
  · have HZ : Hid (R = false) := by show _ = _; rw [HR.out]; unfold inB; rw [decide_eq_false h0, Bool.false_and]
    go_wp2_with fail
    go_ret
    exact ⟨congrArg (fun z => Ending.returned (Value.bool z)) HZ.out.symm, rfl⟩
section
variable {k : Int} {n : Nat} {t r : List UInt8} {fs : List (Int × V)} {ls : List V} {ps : List (V × V)} {fa la pa : Option Addr} {fc lc pc : Nat} {S : Nat → Prop} {w : World}
set_option maxRecDepth 100000 in
set_option maxHeartbeats 4000000 in
theorem pkey_lit (hr : Rep S w (.mk k n t fs r ls ps) ⟨fa, fc, la, lc, pa, pc⟩) : Calls Tryz.prog 48 #[.agg #[.int .i64 k, .int .u64 (n : Int), .string (strB t), .slice fa fs.length fc, .string (strB r), .slice la ls.length lc, .slice pa ps.length pc]] w fun e w' => e = .returned (.bool (keyB (.mk k n t fs r ls ps))) ∧ Below w.heap.size w w' := by
  have HC : Hid (∀ W, Below w.heap.size w W → Calls _ _ _ W _) := fun W hb => right_lit (hr.stays hb)
  obtain ⟨W0, hW0⟩ : ∃ W0, W0 = w.alloc (.cells #[.int .i64 k, .int .u64 (n : Int), .string (strB t), .slice fa fs.length fc, .string (strB r), .slice la ls.length lc, .slice pa ps.length pc] 38) := ⟨_, rfl⟩
  obtain ⟨g, hg⟩ : ∃ g, g = w.heap.size := ⟨_, rfl⟩
  have hb0 : Below w.heap.size w W0 := by rw [hW0]; exact (Below.refl _ _).alloc (Nat.le_refl _) _
  have hcx : CellsAt W0 g 38 #[.int .i64 k, .int .u64 (n : Int), .string (strB t), .slice fa fs.length fc, .string (strB r), .slice la ls.length lc, .slice pa ps.length pc] := by rw [hW0, hg]; exact CellsAt.new w _ _
  have HX : Hid (∀ W, Below W0.heap.size W0 W → W.cell? ⟨g, 0, none⟩ = some (.int .i64 k) ∧ W.cell? ⟨g, 2, none⟩ = some (.string (strB t)) ∧ Below w.heap.size w W) := fun W hW => ⟨(hcx.stays hW).cell 0 rfl, (hcx.stays hW).cell 2 rfl, hb0.trans (hW.mono hb0.size)⟩
  have c0 := hcx.cell 0 (v := .int .i64 k) rfl
  have c1 := hcx.cell 1 (v := .int .u64 (n : Int)) rfl
  have c2 := hcx.cell 2 (v := .string (strB t)) rfl
  have c3 := hcx.cell 3 (v := .slice fa fs.length fc) rfl
  have c4 := hcx.cell 4 (v := .string (strB r)) rfl
  have c5 := hcx.cell 5 (v := .slice la ls.length lc) rfl
  have c6 := hcx.cell 6 (v := .slice pa ps.length pc) rfl
  have HZ : Hid (keyB (.mk k n t fs r ls ps) = (rightV (.mk k n t fs r ls ps) && (k == 1 || (k == 2 && decide (t.length ≤ 4096))))) := rfl
  have HB := Lib.hid hb0
  have HW := Lib.hid hW0
  have HG := Lib.hid hg
  have hsz : (strB t).size = t.length := strB_size t
  clear hr hW0 hg hb0 hcx
  generalize keyB (.mk k n t fs r ls ps) = KB at HZ ⊢
  generalize rightV (.mk k n t fs r ls ps) = R at HC HZ
  go_enter Tryz.func48, Tryz.ntmps48
  go_upto_region 1 with fail
  rw [← HW.out, ← HG.out]
  go_wp2_with fail
  refine (HC.out _ HB.out).mono ?_
  rintro e w1 ⟨rfl, hb1⟩
  obtain ⟨d0, d2, hb⟩ := HX.out w1 hb1
  have HBB := Lib.hid hb
  clear HC HX HW HG HB hb1 hb c0 c1 c2 c3 c4 c5 c6
  cases R with
  | false =>
    go_wp2_with fail
    go_ret
    exact ⟨congrArg (fun z => Ending.returned (Value.bool z)) (by rw [HZ.out, Bool.false_and]), HBB.out⟩
  | true =>
    by_cases k1 : k = 1
    · have HZ2 : Hid (KB = true) := by show _ = _; rw [HZ.out, k1]; rfl
      have f1 : (k == 1) = true := by simpa using k1
      clear HZ k1
      go_wp2_with fail
      go_ret
      exact ⟨congrArg (fun z => Ending.returned (Value.bool z)) HZ2.out.symm, HBB.out⟩
    · have f1 : (k == 1) = false := by simpa using k1
      by_cases k2 : k = 2
      · have f2 : (k == 2) = true := by simpa using k2
        have HZ2 : Hid (KB = decide ((t.length : Int) ≤ 4096)) := by
          show _ = _
          rw [HZ.out, f1, f2, Bool.true_and, Bool.false_or, Bool.true_and]
          exact decide_eq_decide.2 (by omega)
        clear HZ k1 k2
        go_wp2_with fail
        go_ret
        exact ⟨congrArg (fun z => Ending.returned (Value.bool z)) HZ2.out.symm, HBB.out⟩
      · have f2 : (k == 2) = false := by simpa using k2
        have HZ2 : Hid (KB = false) := by show _ = _; rw [HZ.out, f1, f2]; rfl
        clear HZ k1 k2
        go_wp2_with fail
        go_ret
        exact ⟨congrArg (fun z => Ending.returned (Value.bool z)) HZ2.out.symm, HBB.out⟩
theorem stepB_n {K N T : Int} {v : V} (h : K = 1 ∨ K = 3 ∨ K = 6) : stepB ⟨K, N, T, v⟩ = (inB N 0 1073741824 && T == 0 && noB v) := by unfold stepB; rw [if_pos h]
theorem stepB_4 {N T : Int} {v : V} : stepB ⟨4, N, T, v⟩ = (N == 0 && T == 0 && noB v) := by unfold stepB; rw [if_neg (show ¬((4 : Int) = 1 ∨ (4 : Int) = 3 ∨ (4 : Int) = 6) by decide), if_pos rfl]
theorem stepB_5 {N T : Int} {v : V} : stepB ⟨5, N, T, v⟩ = (inB N 0 1073741824 && inB T N 1073741824 && noB v) := by unfold stepB; rw [if_neg (show ¬((5 : Int) = 1 ∨ (5 : Int) = 3 ∨ (5 : Int) = 6) by decide), if_neg (show ¬(5 : Int) = 4 by decide), if_pos rfl]
theorem stepB_2 {N T : Int} {v : V} : stepB ⟨2, N, T, v⟩ = (N == 0 && T == 0 && keyB v) := by unfold stepB; rw [if_neg (show ¬((2 : Int) = 1 ∨ (2 : Int) = 3 ∨ (2 : Int) = 6) by decide), if_neg (show ¬(2 : Int) = 4 by decide), if_neg (show ¬(2 : Int) = 5 by decide), if_pos rfl]
theorem stepB_o {K N T : Int} {v : V} (h1 : K ≠ 1) (h2 : K ≠ 2) (h3 : K ≠ 3) (h4 : K ≠ 4) (h5 : K ≠ 5) (h6 : K ≠ 6) : stepB ⟨K, N, T, v⟩ = false := by unfold stepB; rw [if_neg (by simp only; omega), if_neg (by simp only; omega), if_neg (by simp only; omega), if_neg (by simp only; omega)]
set_option maxRecDepth 100000 in
set_option maxHeartbeats 16000000 in
theorem stepR_lit {K N T : Int} (hr : Rep S w (.mk k n t fs r ls ps) ⟨fa, fc, la, lc, pa, pc⟩) : Calls Tryz.prog 26 #[.agg #[.int .i64 K, .int .i64 N, .int .i64 T, .int .i64 k, .int .u64 (n : Int), .string (strB t), .slice fa fs.length fc, .string (strB r), .slice la ls.length lc, .slice pa ps.length pc]] w fun e w' => e = .returned (.bool (stepB ⟨K, N, T, .mk k n t fs r ls ps⟩)) ∧ Below w.heap.size w w' := by
  have HC : Hid (∀ W, Below w.heap.size w W → Calls _ _ _ W _) := fun W hb => right_lit (hr.stays hb)
  have HKy : Hid (∀ W, Below w.heap.size w W → Calls _ _ _ W _) := fun W hb => pkey_lit (hr.stays hb)
  obtain ⟨W0, hW0⟩ : ∃ W0, W0 = w.alloc (.cells #[.int .i64 K, .int .i64 N, .int .i64 T, .int .i64 k, .int .u64 (n : Int), .string (strB t), .slice fa fs.length fc, .string (strB r), .slice la ls.length lc, .slice pa ps.length pc] 62) := ⟨_, rfl⟩
  obtain ⟨g, hg⟩ : ∃ g, g = w.heap.size := ⟨_, rfl⟩
  have hb0 : Below w.heap.size w W0 := by rw [hW0]; exact (Below.refl _ _).alloc (Nat.le_refl _) _
  have hcx : CellsAt W0 g 62 #[.int .i64 K, .int .i64 N, .int .i64 T, .int .i64 k, .int .u64 (n : Int), .string (strB t), .slice fa fs.length fc, .string (strB r), .slice la ls.length lc, .slice pa ps.length pc] := by rw [hW0, hg]; exact CellsAt.new w _ _
  have HX : Hid (∀ W, Below W0.heap.size W0 W → CellsAt W g 62 #[.int .i64 K, .int .i64 N, .int .i64 T, .int .i64 k, .int .u64 (n : Int), .string (strB t), .slice fa fs.length fc, .string (strB r), .slice la ls.length lc, .slice pa ps.length pc] ∧ Below w.heap.size w W) := fun W hW => ⟨hcx.stays hW, hb0.trans (hW.mono hb0.size)⟩
  have HZ1 : Hid ((K = 1 ∨ K = 3 ∨ K = 6) → stepB ⟨K, N, T, .mk k n t fs r ls ps⟩ = (inB N 0 1073741824 && T == 0 && noB (.mk k n t fs r ls ps))) := fun h => stepB_n h
  have HZ4 : Hid (K = 4 → stepB ⟨K, N, T, .mk k n t fs r ls ps⟩ = (N == 0 && T == 0 && noB (.mk k n t fs r ls ps))) := fun h => by rw [h]; exact stepB_4
  have HZ5 : Hid (K = 5 → stepB ⟨K, N, T, .mk k n t fs r ls ps⟩ = (inB N 0 1073741824 && inB T N 1073741824 && noB (.mk k n t fs r ls ps))) := fun h => by rw [h]; exact stepB_5
  have HZ2 : Hid (K = 2 → stepB ⟨K, N, T, .mk k n t fs r ls ps⟩ = (N == 0 && T == 0 && keyB (.mk k n t fs r ls ps))) := fun h => by rw [h]; exact stepB_2
  have HZo : Hid (K ≠ 1 → K ≠ 2 → K ≠ 3 → K ≠ 4 → K ≠ 5 → K ≠ 6 → stepB ⟨K, N, T, .mk k n t fs r ls ps⟩ = false) := stepB_o
  have HIn : Hid (∀ n lo hi W, Calls _ _ _ W _) := fun n lo hi W => pin_any n lo hi W
  have HNo : Hid (noB (.mk k n t fs r ls ps) = (k == 0 && rightV (.mk k n t fs r ls ps))) := rfl
  have HB := Lib.hid hb0
  have HCX := Lib.hid hcx
  have HW := Lib.hid hW0
  have HG := Lib.hid hg
  clear hr hW0 hg hb0 hcx
  generalize stepB ⟨K, N, T, .mk k n t fs r ls ps⟩ = SB at HZ1 HZ4 HZ5 HZ2 HZo ⊢
  generalize noB (.mk k n t fs r ls ps) = NB at HZ1 HZ4 HZ5 HNo
  generalize keyB (.mk k n t fs r ls ps) = KB at HZ2 HKy
  generalize rightV (.mk k n t fs r ls ps) = R at HC HNo
  obtain ⟨bi, hbi⟩ : ∃ x, x = inB N 0 1073741824 := ⟨_, rfl⟩
  obtain ⟨bj, hbj⟩ : ∃ x, x = inB T N 1073741824 := ⟨_, rfl⟩
  have HI1 : Hid (∀ W, Calls Tryz.prog 47 #[.int .i64 N, .int .i64 0, .int .i64 1073741824] W fun e w' => e = .returned (.bool bi) ∧ w' = W) := fun W => by rw [hbi]; exact HIn.out N 0 1073741824 W
  have HI2 : Hid (∀ W, Calls Tryz.prog 47 #[.int .i64 T, .int .i64 N, .int .i64 1073741824] W fun e w' => e = .returned (.bool bj) ∧ w' = W) := fun W => by rw [hbj]; exact HIn.out T N 1073741824 W
  rw [← hbi] at HZ1 HZ5
  rw [← hbj] at HZ5
  clear hbi hbj HIn
  go_enter Tryz.func26, Tryz.ntmps26
  go_upto_region 1 with fail
  rw [← HW.out, ← HG.out]
  clear HW HG
  obtain ⟨hcx, -⟩ := HX.out W0 (Below.refl _ _)
  have c3 := hcx.cell 3 (v := .int .i64 k) rfl
  have c4 := hcx.cell 4 (v := .int .u64 (n : Int)) rfl
  have c5 := hcx.cell 5 (v := .string (strB t)) rfl
  have c6 := hcx.cell 6 (v := .slice fa fs.length fc) rfl
  have c7 := hcx.cell 7 (v := .string (strB r)) rfl
  have c8 := hcx.cell 8 (v := .slice la ls.length lc) rfl
  have c9 := hcx.cell 9 (v := .slice pa ps.length pc) rfl
  clear hcx
  go_cut [3] from 4 to 12 (fun x wx => x = .bool NB ∧ Hid (Below W0.heap.size W0 wx))
  case first =>
    obtain ⟨kb, hkb⟩ : ∃ b, (k == 0) = b := ⟨_, rfl⟩
    rw [hkb] at HNo
    cases kb with
    | false =>
      go_wp2_with fail
      go_meet
      exact ⟨congrArg Value.bool (by rw [HNo.out]; rfl), Below.refl _ _⟩
    | true =>
      go_wp2_with fail
      refine (HC.out _ HB.out).mono ?_
      rintro e w1 ⟨rfl, hb1⟩
      have HB1 := Lib.hid hb1
      clear hb1
      go_wp2_with fail
      go_meet
      exact ⟨congrArg Value.bool (by rw [HNo.out]; rfl), HB1.out⟩
  case rest =>
    obtain ⟨rfl, HWX⟩ := hcut
    clear HC HNo c3 c4 c5 c6 c7 c8 c9
    obtain ⟨hcx, hbr⟩ := HX.out wc HWX.out
    have c0 := hcx.cell 0 (v := .int .i64 K) rfl
    have c1 := hcx.cell 1 (v := .int .i64 N) rfl
    have c2 := hcx.cell 2 (v := .int .i64 T) rfl
    have HBR := Lib.hid hbr
    by_cases hK : K = 1
    · subst hK
      have HS : Hid (SB = (bi && T == 0 && NB)) := HZ1.out (.inl rfl)
      clear HZ1 HZ4 HZ5 HZ2 HZo HKy HI2
      go_wp2_with fail
      refine (HI1.out _).mono ?_
      rintro e w2 ⟨rfl, rfl⟩
      clear HI1
      cases bi with
      | false =>
        go_wp2_with fail
        go_ret
        exact ⟨congrArg (fun z => Ending.returned (Value.bool z)) (by rw [HS.out]; rfl), HBR.out⟩
      | true =>
        obtain ⟨tb, htb⟩ : ∃ b, (T == 0) = b := ⟨_, rfl⟩
        rw [htb] at HS
        cases tb with
        | false =>
          go_wp2_with fail
          go_ret
          exact ⟨congrArg (fun z => Ending.returned (Value.bool z)) (by rw [HS.out]; rfl), HBR.out⟩
        | true =>
          go_wp2_with fail
          go_ret
          exact ⟨congrArg (fun z => Ending.returned (Value.bool z)) (by rw [HS.out]; rfl), HBR.out⟩
    by_cases hK3 : K = 3
    · subst hK3
      have HS : Hid (SB = (bi && T == 0 && NB)) := HZ1.out (.inr (.inl rfl))
      clear HZ1 HZ4 HZ5 HZ2 HZo HKy HI2
      go_wp2_with fail
      refine (HI1.out _).mono ?_
      rintro e w2 ⟨rfl, rfl⟩
      clear HI1
      cases bi with
      | false =>
        go_wp2_with fail
        go_ret
        exact ⟨congrArg (fun z => Ending.returned (Value.bool z)) (by rw [HS.out]; rfl), HBR.out⟩
      | true =>
        obtain ⟨tb, htb⟩ : ∃ b, (T == 0) = b := ⟨_, rfl⟩
        rw [htb] at HS
        cases tb with
        | false =>
          go_wp2_with fail
          go_ret
          exact ⟨congrArg (fun z => Ending.returned (Value.bool z)) (by rw [HS.out]; rfl), HBR.out⟩
        | true =>
          go_wp2_with fail
          go_ret
          exact ⟨congrArg (fun z => Ending.returned (Value.bool z)) (by rw [HS.out]; rfl), HBR.out⟩
    by_cases hK6 : K = 6
    · subst hK6
      have HS : Hid (SB = (bi && T == 0 && NB)) := HZ1.out (.inr (.inr rfl))
      clear HZ1 HZ4 HZ5 HZ2 HZo HKy HI2
      go_wp2_with fail
      refine (HI1.out _).mono ?_
      rintro e w2 ⟨rfl, rfl⟩
      clear HI1
      cases bi with
      | false =>
        go_wp2_with fail
        go_ret
        exact ⟨congrArg (fun z => Ending.returned (Value.bool z)) (by rw [HS.out]; rfl), HBR.out⟩
      | true =>
        obtain ⟨tb, htb⟩ : ∃ b, (T == 0) = b := ⟨_, rfl⟩
        rw [htb] at HS
        cases tb with
        | false =>
          go_wp2_with fail
          go_ret
          exact ⟨congrArg (fun z => Ending.returned (Value.bool z)) (by rw [HS.out]; rfl), HBR.out⟩
        | true =>
          go_wp2_with fail
          go_ret
          exact ⟨congrArg (fun z => Ending.returned (Value.bool z)) (by rw [HS.out]; rfl), HBR.out⟩
    have k1 : (K == 1) = false := by simpa using hK
    have k3 : (K == 3) = false := by simpa using hK3
    have k6 : (K == 6) = false := by simpa using hK6
    by_cases hK4 : K = 4
    · subst hK4
      have HS : Hid (SB = (N == 0 && T == 0 && NB)) := HZ4.out rfl
      clear HZ1 HZ4 HZ5 HZ2 HZo HKy HI1 HI2 hK hK3 hK6
      obtain ⟨nb, hnb⟩ : ∃ b, (N == 0) = b := ⟨_, rfl⟩
      rw [hnb] at HS
      cases nb with
      | false =>
        go_wp2_with fail
        go_ret
        exact ⟨congrArg (fun z => Ending.returned (Value.bool z)) (by rw [HS.out]; rfl), HBR.out⟩
      | true =>
        obtain ⟨tb, htb⟩ : ∃ b, (T == 0) = b := ⟨_, rfl⟩
        rw [htb] at HS
        cases tb with
        | false =>
          go_wp2_with fail
          go_ret
          exact ⟨congrArg (fun z => Ending.returned (Value.bool z)) (by rw [HS.out]; rfl), HBR.out⟩
        | true =>
          go_wp2_with fail
          go_ret
          exact ⟨congrArg (fun z => Ending.returned (Value.bool z)) (by rw [HS.out]; rfl), HBR.out⟩
    have k4 : (K == 4) = false := by simpa using hK4
    by_cases hK5 : K = 5
    · subst hK5
      have HS : Hid (SB = (bi && bj && NB)) := HZ5.out rfl
      clear HZ1 HZ4 HZ5 HZ2 HZo HKy hK hK3 hK6 hK4
      go_wp2_with fail
      refine (HI1.out _).mono ?_
      rintro e w2 ⟨rfl, rfl⟩
      cases bi with
      | false =>
        clear HI1 HI2
        go_wp2_with fail
        go_ret
        exact ⟨congrArg (fun z => Ending.returned (Value.bool z)) (by rw [HS.out]; rfl), HBR.out⟩
      | true =>
        clear HI1
        go_wp2_with fail
        refine (HI2.out _).mono ?_
        rintro e w3 ⟨rfl, rfl⟩
        clear HI2
        cases bj with
        | false =>
          go_wp2_with fail
          go_ret
          exact ⟨congrArg (fun z => Ending.returned (Value.bool z)) (by rw [HS.out]; rfl), HBR.out⟩
        | true =>
          go_wp2_with fail
          go_ret
          exact ⟨congrArg (fun z => Ending.returned (Value.bool z)) (by rw [HS.out]; rfl), HBR.out⟩
    have k5 : (K == 5) = false := by simpa using hK5
    by_cases hK2 : K = 2
    · subst hK2
      have HS : Hid (SB = (N == 0 && T == 0 && KB)) := HZ2.out rfl
      clear HZ1 HZ4 HZ5 HZ2 HZo HI1 HI2 hK hK3 hK6 hK4 hK5
      obtain ⟨nb, hnb⟩ : ∃ b, (N == 0) = b := ⟨_, rfl⟩
      rw [hnb] at HS
      cases nb with
      | false =>
        go_wp2_with fail
        go_ret
        exact ⟨congrArg (fun z => Ending.returned (Value.bool z)) (by rw [HS.out]; rfl), HBR.out⟩
      | true =>
        obtain ⟨tb, htb⟩ : ∃ b, (T == 0) = b := ⟨_, rfl⟩
        rw [htb] at HS
        cases tb with
        | false =>
          go_wp2_with fail
          go_ret
          exact ⟨congrArg (fun z => Ending.returned (Value.bool z)) (by rw [HS.out]; rfl), HBR.out⟩
        | true =>
          have c3 := hcx.cell 3 (v := .int .i64 k) rfl
          have c4 := hcx.cell 4 (v := .int .u64 (n : Int)) rfl
          have c5 := hcx.cell 5 (v := .string (strB t)) rfl
          have c6 := hcx.cell 6 (v := .slice fa fs.length fc) rfl
          have c7 := hcx.cell 7 (v := .string (strB r)) rfl
          have c8 := hcx.cell 8 (v := .slice la ls.length lc) rfl
          have c9 := hcx.cell 9 (v := .slice pa ps.length pc) rfl
          have HK := Lib.hid (HKy.out wc hbr)
          clear HKy hcx hbr
          go_wp2_with fail
          refine HK.out.mono ?_
          rintro e w2 ⟨rfl, hb2⟩
          have HBR2 := Lib.hid (HBR.out.trans (hb2.mono HBR.out.size))
          clear HK hb2 c0 c1 c2 c3 c4 c5 c6 c7 c8 c9
          go_wp2_with fail
          go_ret
          exact ⟨congrArg (fun z => Ending.returned (Value.bool z)) (by rw [HS.out]; rfl), HBR2.out⟩
    have k2 : (K == 2) = false := by simpa using hK2
    have HS : Hid (SB = false) := HZo.out hK hK2 hK3 hK4 hK5 hK6
    clear HZ1 HZ4 HZ5 HZ2 HZo HKy HI1 HI2 hK hK2 hK3 hK6 hK4 hK5
    go_wp2_with fail
    go_ret
    exact ⟨congrArg (fun z => Ending.returned (Value.bool z)) HS.out.symm, HBR.out⟩
set_option maxRecDepth 100000 in
set_option maxHeartbeats 4000000 in
theorem rclo_step {K N T : Int} (hr : Rep S w (.mk k n t fs r ls ps) ⟨fa, fc, la, lc, pa, pc⟩) : Calls Tryz.prog 25 #[.agg #[.int .i64 K, .int .i64 N, .int .i64 T, .int .i64 k, .int .u64 (n : Int), .string (strB t), .slice fa fs.length fc, .string (strB r), .slice la ls.length lc, .slice pa ps.length pc]] w fun e w' => e = .returned (.bool (!stepB ⟨K, N, T, .mk k n t fs r ls ps⟩)) ∧ Below w.heap.size w w' := by
  obtain ⟨W0, hW0⟩ : ∃ W0, W0 = w.alloc (.cells #[.int .i64 K, .int .i64 N, .int .i64 T, .int .i64 k, .int .u64 (n : Int), .string (strB t), .slice fa fs.length fc, .string (strB r), .slice la ls.length lc, .slice pa ps.length pc] 62) := ⟨_, rfl⟩
  obtain ⟨g, hg⟩ : ∃ g, g = w.heap.size := ⟨_, rfl⟩
  have hb0 : Below w.heap.size w W0 := by rw [hW0]; exact (Below.refl _ _).alloc (Nat.le_refl _) _
  have hcx : CellsAt W0 g 62 #[.int .i64 K, .int .i64 N, .int .i64 T, .int .i64 k, .int .u64 (n : Int), .string (strB t), .slice fa fs.length fc, .string (strB r), .slice la ls.length lc, .slice pa ps.length pc] := by rw [hW0, hg]; exact CellsAt.new w _ _
  have HC := Lib.hid (stepR_lit (K := K) (N := N) (T := T) (hr.stays hb0))
  have c0 := hcx.cell 0 (v := .int .i64 K) rfl
  have c1 := hcx.cell 1 (v := .int .i64 N) rfl
  have c2 := hcx.cell 2 (v := .int .i64 T) rfl
  have c3 := hcx.cell 3 (v := .int .i64 k) rfl
  have c4 := hcx.cell 4 (v := .int .u64 (n : Int)) rfl
  have c5 := hcx.cell 5 (v := .string (strB t)) rfl
  have c6 := hcx.cell 6 (v := .slice fa fs.length fc) rfl
  have c7 := hcx.cell 7 (v := .string (strB r)) rfl
  have c8 := hcx.cell 8 (v := .slice la ls.length lc) rfl
  have c9 := hcx.cell 9 (v := .slice pa ps.length pc) rfl
  have HB := Lib.hid hb0
  have HW := Lib.hid hW0
  have HG := Lib.hid hg
  clear hr hW0 hg hb0 hcx
  generalize stepB ⟨K, N, T, .mk k n t fs r ls ps⟩ = SB at HC ⊢
  go_enter Tryz.func25, Tryz.ntmps25
  go_upto_region 1 with fail
  rw [← HW.out, ← HG.out]
  clear HW HG
  go_wp2_with fail
  refine HC.out.mono ?_
  rintro e w1 ⟨rfl, hb1⟩
  have HB1 := Lib.hid (HB.out.trans (hb1.mono HB.out.size))
  clear HC HB hb1 c0 c1 c2 c3 c4 c5 c6 c7 c8 c9
  go_wp2_with fail
  go_ret
  exact ⟨rfl, HB1.out⟩
end
theorem drop_all {p : List SQ} {m : Nat} {q : SQ} (h : p[m]? = some q) : (p.drop m).all (fun q => stepB q.1) = (stepB q.1 && (p.drop (m + 1)).all (fun q => stepB q.1)) := by
  have hi := (List.getElem?_eq_some_iff.1 h).1
  rw [List.drop_eq_getElem_cons hi, List.all_cons, (List.getElem?_eq_some_iff.1 h).2]
/-- is a path right? -/
def pathQ (p : List SQ) : Bool := p.all fun q => stepB q.1
theorem pathQ_map (p : List SQ) : pathQ p = pathB (p.map Prod.fst) := by unfold pathQ pathB; rw [List.all_map]; rfl
section
variable {S : Nat → Prop} {w : World} {a : Option Addr} {c : Nat} {p : List SQ}
set_option maxRecDepth 100000 in
set_option maxHeartbeats 4000000 in
theorem indexStep_any (hr : PathR S w (.slice a p.length c) p) :
    Calls Tryz.prog 46 #[.slice a p.length c, .func (.func 25) #[] #[]] w fun e w' => (∃ z : Int, e = .returned (.int .i64 z) ∧ decide (0 ≤ z) = !(pathQ p)) ∧ Below w.heap.size w w' := by
  have hll := hr.len
  unfold maxLen at hll
  have HR : Hid (∀ W, Below w.heap.size w W → PathR S W (.slice a p.length c) p) := fun W hb => hr.stays hb
  clear hr
  go_enter Tryz.func46, Tryz.ntmps46
  go_wp2_with fail
  go_loopw [8] (fun i wr => ∃ (m : Nat), m ≤ p.length ∧ i = .int .i64 m ∧ Hid ((p.drop m).all (fun q => stepB q.1) = pathQ p) ∧ Below w.heap.size w wr) (fun i _ => p.length - (intOf i).toNat)
  case atStart => exact ⟨0, Nat.zero_le _, rfl, rfl, Below.refl _ _⟩
  case round =>
    obtain ⟨m, hm, rfl, HI, hbe⟩ := hrel
    by_cases h1 : m < p.length
    · obtain ⟨⟨⟨K, N, T, ⟨k', n', t', fs', r', ls', ps'⟩⟩, ⟨fa', fc', la', lc', pa', pc'⟩⟩, hq⟩ : ∃ q, p[m]? = some q := ⟨_, List.getElem?_eq_getElem h1⟩
      obtain ⟨b, o, rfl, hrx, x0, x1, x2, c0, c1, c2, c3, c4, c5, c6⟩ := (HR.out wr hbe).at hq
      have hI := HI.out
      rw [drop_all hq] at hI
      have HC := Lib.hid (rclo_step (K := K) (N := N) (T := T) hrx.2)
      simp only at hI
      generalize stepB ⟨K, N, T, .mk k' n' t' fs' r' ls' ps'⟩ = R at HC hI
      have HI2 := Lib.hid hI
      clear hI HI hrx hq
      go_wp2_with fail
      refine HC.out.mono ?_
      rintro e w2 ⟨rfl, hb2⟩
      have hbe2 : Below w.heap.size w w2 := hbe.trans (hb2.mono hbe.size)
      clear HC hb2 x0 x1 x2 c0 c1 c2 c3 c4 c5 c6
      cases R with
      | true =>
        go_wp2_with fail
        go_roundw
        case rel => exact ⟨m + 1, h1, by go_num, by show _ = _; simpa using HI2.out, hbe2⟩
        case measure => simp only [intOf]; omega
      | false =>
        have HZ : Hid (decide (0 ≤ (m : Int)) = !(pathQ p)) := by have := HI2.out; rw [Bool.false_and] at this; show _ = _; rw [← this, decide_eq_true (by omega)]; rfl
        go_wp2_with fail
        go_ret
        exact ⟨⟨m, rfl, HZ.out⟩, hbe2⟩
    · have HZ : Hid (decide (0 ≤ (-1 : Int)) = !(pathQ p)) := by show _ = _; rw [← HI.out, List.drop_of_length_le (by omega)]; rfl
      clear HI
      go_wp2_with fail
      go_ret
      exact ⟨⟨-1, rfl, HZ.out⟩, hbe⟩
set_option maxRecDepth 100000 in
set_option maxHeartbeats 4000000 in
theorem containsStep_any (hr : PathR S w (.slice a p.length c) p) :
    Calls Tryz.prog 24 #[.slice a p.length c, .func (.func 25) #[] #[]] w fun e w' => e = .returned (.bool (!(pathQ p))) ∧ Below w.heap.size w w' := by
  have HC := Lib.hid (indexStep_any hr)
  clear hr
  go_enter Tryz.func24, Tryz.ntmps24
  go_wp2_with fail
  refine HC.out.mono ?_
  rintro e w1 ⟨⟨z, rfl, hz⟩, hb1⟩
  have HZ := Lib.hid hz
  clear hz
  go_wp2_with fail
  go_ret
  exact ⟨congrArg (fun z => Ending.returned (Value.bool z)) HZ.out, hb1⟩
set_option maxRecDepth 100000 in
theorem pright_any (hr : PathR S w (.slice a p.length c) p) :
    Calls Tryz.prog 8 #[.slice a p.length c] w fun e w' => e = .returned (.bool (pathQ p)) ∧ Below w.heap.size w w' := by
  have HC := Lib.hid (containsStep_any hr)
  clear hr
  generalize pathQ p = R at HC ⊢
  go_enter Tryz.func8, Tryz.ntmps8
  go_wp2_with fail
  refine HC.out.mono ?_
  rintro e w1 ⟨rfl, hb1⟩
  go_wp2_with fail
  go_ret
  exact ⟨rfl, hb1⟩
end
end Go.Proofs.YtcjflglpkpkflaaGreatDoor
