/- Scripts: a word that must come; the policy of a word. -/
import Derived.Test.YtbcpciegdmminaaGreatDoorScF
namespace Go.Proofs.YtbcpciegdmminaaGreatDoor
open Go Go.RowKit
set_option linter.unusedVariables false
theorem strB_inj {a b : Bs} (h : strB a = strB b) : a = b := by
  have h1 := congrArg ByteArray.data h
  simpa [strB] using h1
theorem strB_tl (t : Bs) : (strB t).toList = t := by rw [ByteArray.toList_eq]; rfl
theorem strB_ne {a b : Bs} (h : a ≠ b) : ((strB a).toList == (strB b).toList) = false := by
  rw [strB_tl, strB_tl]
  exact beq_eq_false_iff_ne.2 h
theorem strB_yes (a : Bs) : ((strB a).toList == (strB a).toList) = true := beq_self_eq_true _
theorem RD.bad {w : World} {r : Nat} {ws : List Bs} {bad : Bool} (h : RD w r ws bad) (b : Bool) : RD (w.setCell ⟨r, 1, none⟩ (.bool b)) r ws b := by
  obtain ⟨wa, wc, hc, hr, hne⟩ := h
  have hg : w.grownBy (w.setCell ⟨r, 1, none⟩ (.bool b)) (some r) := grownBy_setCell (grownBy_refl _ _) _ (.inl rfl) _
  exact ⟨wa, wc, by simpa using hc.set 1 (.bool b), (Grew.ofGrown hg).row hr (fun k hk hm => Nat.ne_of_lt (hne k hk) (List.mem_singleton.1 hm)), hne⟩
theorem RD.cells {w : World} {r : Nat} {ws : List Bs} {bad : Bool} (h : RD w r ws bad) : w.cell? ⟨r, 1, none⟩ = some (.bool bad) ∧ w.frozen? ⟨r, 1, none⟩ = false := by
  obtain ⟨wa, wc, hc, hr, hne⟩ := h
  exact ⟨hc.cell 1 rfl, hc.free 1⟩
set_option maxRecDepth 100000 in
set_option maxHeartbeats 1000000 in
theorem must_any {w : World} {r : Nat} {ws : List Bs} {bad : Bool} (h : RD w r ws bad) (hl : ws.length ≤ 1000000000) (s : Bs) :
    Calls Tryz.prog 60 #[.pointer (some ⟨r, 0, none⟩), .string (strB s)] w fun e w' => e = .returned (.tuple #[]) ∧ RD w' r ws.tail (decide (ws.headD [] ≠ s) || (bad || ws.isEmpty)) ∧ w.grownBy w' (some r) := by
  have HN := Lib.hid (next_any h hl)
  obtain ⟨hd, hhd⟩ : ∃ hd, hd = ws.headD [] := ⟨_, rfl⟩
  obtain ⟨b1, hb1⟩ : ∃ b1, b1 = (bad || ws.isEmpty) := ⟨_, rfl⟩
  rw [← hhd, ← hb1] at HN
  rw [← hhd, ← hb1]
  clear h hhd hb1
  go_enter Tryz.func60, Tryz.ntmps60
  go_wp2_with fail
  refine HN.out.mono ?_
  rintro e w1 ⟨rfl, hr1, hg1⟩
  obtain ⟨c1, f1⟩ := hr1.cells
  have HR := Lib.hid hr1
  have HG := Lib.hid hg1
  clear HN hr1 hg1
  by_cases hs : hd = s
  · have e3 : ((strB hd).toList == (strB s).toList) = true := by rw [hs]; exact strB_yes s
    have HD : Hid (decide (hd ≠ s) = false) := decide_eq_false (fun h => h hs)
    clear hs
    go_wp2_with fail
    go_end0
    exact ⟨rfl, by rw [HD.out]; simpa using HR.out.bad _, grownBy_setCell HG.out _ (.inl rfl) _⟩
  · have e3 : ((strB hd).toList == (strB s).toList) = false := strB_ne hs
    have HD : Hid (decide (hd ≠ s) = true) := decide_eq_true hs
    clear hs
    go_wp2_with fail
    go_end0
    exact ⟨rfl, by rw [HD.out]; simpa using HR.out.bad _, grownBy_setCell HG.out _ (.inl rfl) _⟩
theorem pol_none {s : Bs} (h : ∀ j : Nat, j ≤ 2 → polOf j ≠ s) : polN s = none := by
  cases hq : polN s with
  | none => rfl
  | some n =>
    obtain ⟨h1, h2, h3⟩ := word_pol hq
    have := h n.toNat (by omega)
    rw [show ((n.toNat : Nat) : Int) = n by omega] at this
    exact absurd h1 this
set_option maxRecDepth 100000 in
set_option maxHeartbeats 1000000 in
theorem policy_any {w : World} {r : Nat} {ws : List Bs} {bad : Bool} (h : RD w r ws bad) (s : Bs) :
    Calls Tryz.prog 59 #[.pointer (some ⟨r, 0, none⟩), .string (strB s)] w fun e w' => e = .returned (.int .i64 ((polN s).getD 0)) ∧ RD w' r ws (bad || (polN s).isNone) ∧ w.grownBy w' (some r) := by
  obtain ⟨c1, f1⟩ := h.cells
  have HR := Lib.hid h
  clear h
  go_enter Tryz.func59, Tryz.ntmps59
  go_wp2_with fail
  go_loopw [5] (fun i wr => ∃ m : Nat, i = .int .i64 m ∧ m ≤ 3 ∧ Hid (∀ j : Nat, j < m → polOf j ≠ s) ∧ w = wr) (fun i _ => 3 - (intOf i).toNat)
  case atStart => exact ⟨0, rfl, by omega, fun j hj => absurd hj (Nat.not_lt_zero _), rfl⟩
  case round =>
    obtain ⟨m, rfl, hm, HJ, rfl⟩ := hrel
    by_cases h2 : m ≤ 2
    · have tm : decide ((m : Int) ≤ 2) = true := decide_eq_true (by omega)
      go_wp2_with fail
      refine (pword_any _ _).mono ?_
      rintro e w1 ⟨rfl, rfl⟩
      by_cases hs : polOf m = s
      · have e3 : ((strB (polOf m)).toList == (strB s).toList) = true := by rw [hs]; exact strB_yes s
        have HN : Hid (polN s = some (m : Int)) := by show _ = _; rw [← hs]; exact pol_word m h2
        clear hs
        go_wp2_with fail
        go_ret
        exact ⟨by rw [HN.out]; rfl, by rw [HN.out]; simpa using HR.out, grownBy_refl _ _⟩
      · have e3 : ((strB (polOf m)).toList == (strB s).toList) = false := strB_ne hs
        have HJ2 : Hid (∀ j : Nat, j < m + 1 → polOf j ≠ s) := fun j hj => by
          by_cases e : j = m
          · rw [e]; exact hs
          · exact HJ.out j (by omega)
        clear hs
        go_wp2_with fail
        go_roundw
        case rel => exact ⟨m + 1, by go_num, by omega, HJ2.out, trivial⟩
        case measure => simp only [intOf]; omega
    · have HN : Hid (polN s = none) := pol_none (fun j hj => HJ.out j (by omega))
      have tm : decide ((m : Int) ≤ 2) = false := decide_eq_false (by omega)
      go_wp2_with fail
      go_ret
      exact ⟨by rw [HN.out]; rfl, by rw [HN.out]; simpa using HR.out.bad true, grownBy_setCell (grownBy_refl _ _) _ (.inl rfl) _⟩
end Go.Proofs.YtbcpciegdmminaaGreatDoor
