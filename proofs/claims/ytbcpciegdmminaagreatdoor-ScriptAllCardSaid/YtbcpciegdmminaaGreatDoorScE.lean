/- Scripts: words, numbers in bounds, the reader's next word. -/
import Derived.Test.YtbcpciegdmminaaGreatDoorScD
import Derived.Test.YtbcpciegdmminaaGreatDoorStr
import Derived.Test.YtbcpciegdmminaaGreatDoorGrew
import Derived.Test.YtbcpciegdmminaaGreatDoorSlc
namespace Go.Proofs.YtbcpciegdmminaaGreatDoor
open Go Go.RowKit
set_option linter.unusedVariables false
theorem infoSt : (Tryz.prog.info? 9).map (fun i => (i.zero, i.size, i.bytes)) = some (some (.string ⟨#[]⟩), 1, 16) := by kernel_rfl
/-- the kinds' words lie in their variable -/
def WordsAt (w : World) : Prop := ∀ i, i < 12 → w.cell? ⟨0, i, none⟩ = some (.string (strB (wordsL.getD i [])))
theorem WordsAt.stays {w w' : World} (h : WordsAt w) (hb : Below w.heap.size w w') : WordsAt w' := fun i hi => by
  have h1 := h i hi
  exact (hb.cell (p := ⟨0, i, none⟩) (World.block_lt_of_cell? w ⟨0, i, none⟩ h1)).trans h1
theorem WordsAt.grown {w w' : World} {row : Option Nat} (h : WordsAt w) (hg : w.grownBy w' row) (hr : row ≠ some 0) : WordsAt w' := fun i hi => by
  have h1 := h i hi
  have h2 := World.block_lt_of_cell? w ⟨0, i, none⟩ h1
  exact (World.cell?_of_block (a := ⟨0, i, none⟩) (hg.block _ h2 (fun e => hr e.symm))).trans h1
set_option maxRecDepth 100000 in
theorem in_any (n : Int) (w : World) : Calls Tryz.prog 26 #[.int .i64 n] w fun e w' => e = .returned (.bool (inN n)) ∧ w' = w := by
  obtain ⟨R, hR⟩ : ∃ R, R = inN n := ⟨_, rfl⟩
  rw [← hR]
  have HR := Lib.hid hR
  clear hR
  go_enter Tryz.func26, Tryz.ntmps26
  by_cases h0 : 0 ≤ n
  · by_cases h1 : n ≤ 999999999
    · have HZ : Hid (R = true) := by show _ = _; rw [HR.out]; unfold inN; exact decide_eq_true ⟨h0, h1⟩
      go_wp2_with fail
      go_ret
      exact ⟨congrArg (fun z => Ending.returned (Value.bool z)) HZ.out.symm, rfl⟩
    · have HZ : Hid (R = false) := by show _ = _; rw [HR.out]; unfold inN; exact decide_eq_false (fun h => h1 h.2)
      go_wp2_with fail
      go_ret
      exact ⟨congrArg (fun z => Ending.returned (Value.bool z)) HZ.out.symm, rfl⟩
  · have HZ : Hid (R = false) := by show _ = _; rw [HR.out]; unfold inN; exact decide_eq_false (fun h => h0 h.1)
    go_wp2_with fail
    go_ret
    exact ⟨congrArg (fun z => Ending.returned (Value.bool z)) HZ.out.symm, rfl⟩
set_option maxRecDepth 100000 in
theorem word_any {w : World} (h : WordsAt w) (k : Int) : Calls Tryz.prog 16 #[.int .i64 k] w fun e w' => e = .returned (.string (strB (wordOf k))) ∧ w' = w := by
  obtain ⟨R, hR⟩ : ∃ R, R = wordOf k := ⟨_, rfl⟩
  rw [← hR]
  by_cases h0 : k < 1
  · have HZ : Hid (R = []) := by show _ = _; rw [hR]; unfold wordOf; rw [if_neg (by omega)]
    clear hR h
    go_enter Tryz.func16, Tryz.ntmps16
    go_wp2_with fail
    go_ret
    exact ⟨by rw [HZ.out]; rfl, rfl⟩
  · by_cases h1 : 11 < k
    · have HZ : Hid (R = []) := by show _ = _; rw [hR]; unfold wordOf; rw [if_neg (by omega)]
      clear hR h
      go_enter Tryz.func16, Tryz.ntmps16
      go_wp2_with fail
      go_ret
      exact ⟨by rw [HZ.out]; rfl, rfl⟩
    · have hc := h k.toNat (by omega)
      have hw : wordsL.getD k.toNat [] = R := by rw [hR]; unfold wordOf; rw [if_pos (by omega)]
      rw [hw] at hc
      have i0 : 0 ≤ k := by omega
      have i1 : k < 12 := by omega
      clear hR h hw
      go_enter Tryz.func16, Tryz.ntmps16
      go_wp2_with fail
      go_ret
      exact ⟨rfl, rfl⟩
set_option maxRecDepth 100000 in
theorem pword_any (n : Int) (w : World) : Calls Tryz.prog 45 #[.int .i64 n] w fun e w' => e = .returned (.string (strB (polOf n))) ∧ w' = w := by
  by_cases h0 : n = 0
  · subst h0
    go_enter Tryz.func45, Tryz.ntmps45
    go_wp2_with fail
    go_ret
    exact ⟨rfl, rfl⟩
  · by_cases h1 : n = 1
    · subst h1
      go_enter Tryz.func45, Tryz.ntmps45
      go_wp2_with fail
      go_ret
      exact ⟨rfl, rfl⟩
    · by_cases h2 : n = 2
      · subst h2
        go_enter Tryz.func45, Tryz.ntmps45
        go_wp2_with fail
        go_ret
        exact ⟨rfl, rfl⟩
      · have HZ : Hid (polOf n = []) := by show _ = _; unfold polOf; rw [if_neg (by omega)]
        go_enter Tryz.func45, Tryz.ntmps45
        go_wp2_with fail
        go_ret
        exact ⟨by rw [HZ.out]; rfl, rfl⟩
def SV (s : Bs) : Value := .string (strB s)
/-- a reader in memory: the words that are left, and whether one was bad -/
def RD (w : World) (r : Nat) (ws : List Bs) (bad : Bool) : Prop := ∃ wa wc, CellsAt w r 73 #[.slice wa ws.length wc, .bool bad] ∧ RowL SV w (.slice wa ws.length wc) ws ∧ ∀ k, (Value.slice wa ws.length wc).ownBlock = some k → k < r
set_option maxRecDepth 100000 in
set_option maxHeartbeats 1000000 in
theorem next_any {w : World} {r : Nat} {ws : List Bs} {bad : Bool} (h : RD w r ws bad) (hl : ws.length ≤ 1000000000) :
    Calls Tryz.prog 38 #[.pointer (some ⟨r, 0, none⟩)] w fun e w' => e = .returned (.string (strB (ws.headD []))) ∧ RD w' r ws.tail (bad || ws.isEmpty) ∧ w.grownBy w' (some r) := by
  obtain ⟨wa, wc, hc, hr, hne⟩ := h
  cases ws with
  | nil =>
    have c0 := hc.cell 0 (v := .slice wa 0 wc) rfl
    have c1 := hc.cell 1 (v := .bool bad) rfl
    have f1 := hc.free 1
    have hg : w.grownBy (w.setCell ⟨r, 1, none⟩ (.bool true)) (some r) := grownBy_setCell (grownBy_refl _ _) _ (.inl rfl) _
    have HN : Hid (RD (w.setCell ⟨r, 1, none⟩ (.bool true)) r [] true) := ⟨wa, wc, by simpa using hc.set 1 (.bool true), (Grew.ofGrown hg).row hr (fun k hk hm => Nat.ne_of_lt (hne k hk) (List.mem_singleton.1 hm)), hne⟩
    have HG := Lib.hid hg
    clear hc hr hne hg
    go_enter Tryz.func38, Tryz.ntmps38
    go_wp2_with fail
    go_ret
    exact ⟨rfl, by simpa using HN.out, HG.out⟩
  | cons s t =>
    obtain ⟨aq, cq, hsl, -, hcl⟩ := hr.shape
    cases hsl
    obtain ⟨b, o, rfl, d0⟩ := hcl 0 s rfl
    replace d0 : w.cell? ⟨b, o, none⟩ = some (.string (strB s)) := d0
    have hcap := hr.cap
    have c0 := hc.cell 0 (v := .slice (some ⟨b, o, none⟩) (t.length + 1) wc) rfl
    have c1 := hc.cell 1 (v := .bool bad) rfl
    have f0 := hc.free 0
    have hp := hr.part (l := 1) (h := (s :: t).length) (by simp) (Nat.le_refl _)
    rw [List.take_length, List.drop_one, List.tail_cons] at hp
    simp only [List.length_cons, Nat.add_sub_cancel] at hp hcap
    obtain ⟨V, hV⟩ : ∃ V : Option Addr, V = (if wc = 1 then some ⟨b, o, none⟩ else (some ⟨b, o, none⟩ : Option Addr).map fun x => x.add 1) := ⟨_, rfl⟩
    rw [← hV] at hp
    have hslr : ∀ W : World, (Instr.slice 33 (.slice (some ⟨b, o, none⟩) (t.length + 1) wc) (some (.int .i64 1)) none none).run Tryz.prog W = .ok (.slice V t.length (wc - 1)) W := fun W => by
      rw [hV]; exact slc_run_l Tryz.underlying33 infoSt _ (t.length + 1) wc 1 .i64 (by omega) W
    have hg : w.grownBy (w.setCell ⟨r, 0, none⟩ (.slice V t.length (wc - 1))) (some r) := grownBy_setCell (grownBy_refl _ _) _ (.inl rfl) _
    have hvb : ∀ k, (Value.slice V t.length (wc - 1)).ownBlock = some k → k < r := fun k hk => by
      rw [hV] at hk
      split at hk
      · exact hne k hk
      · exact hne k (by simpa [Value.ownBlock, Addr.add] using hk)
    have HN : Hid (RD (w.setCell ⟨r, 0, none⟩ (.slice V t.length (wc - 1))) r t bad) := ⟨V, wc - 1, by simpa using hc.set 0 (.slice V t.length (wc - 1)), (Grew.ofGrown hg).row hp (fun k hk hm => Nat.ne_of_lt (hvb k hk) (List.mem_singleton.1 hm)), hvb⟩
    have HG := Lib.hid hg
    have HSL := Lib.hid hslr
    clear hc hr hne hg hcl hp hV hvb
    go_enter Tryz.func38, Tryz.ntmps38
    go_wp2_with fail
    go_ret
    exact ⟨rfl, by simpa using HN.out, HG.out⟩
end Go.Proofs.YtbcpciegdmminaaGreatDoor
