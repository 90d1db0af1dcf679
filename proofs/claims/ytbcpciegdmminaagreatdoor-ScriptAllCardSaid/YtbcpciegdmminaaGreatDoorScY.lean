/- Scripts: the chapter's example; acts that are too long. -/
import Derived.Test.YtbcpciegdmminaaGreatDoorScX
import Derived.Test.YtbcpciegdmminaaGreatDoorSameZ
namespace Go.Proofs.YtbcpciegdmminaaGreatDoor
open Go Go.RowKit
set_option linter.unusedVariables false
def aliveT : Bs := [99, 114, 97, 115, 104, 32, 107, 101, 101, 112, 32, 51, 44, 52, 32, 116, 111, 114, 110, 32, 45]
set_option maxRecDepth 100000 in
theorem alive_parse : parseA aliveT = some ⟨9, 0, 0, 0, 0, [], [3, 4], []⟩ := by kernel_rfl
theorem alive_line : lineR ⟨9, 0, 0, 0, 0, [], [3, 4], []⟩ = aliveT := by
  obtain ⟨h1, h2⟩ := parse_line alive_parse
  unfold lineR
  rw [if_pos h1, h2]
set_option maxRecDepth 100000 in
set_option maxHeartbeats 2000000 in
theorem alive39 {aS aR aF : Addr} {w : World} (hV : VarsP aS aR aF w) (hP : PowAt w) : Calls Tryz.prog 6 #[] w fun e w' => e = .returned (.bool true) ∧ Below w.heap.size w w' := by
  have HPA := Lib.hid (parse_any hV aliveT (by decide))
  have HVV : Hid (∀ W, Below w.heap.size w W → WordsAt W ∧ PowAt W) := fun W h => ⟨(hV.stays h).words, hP.stays h⟩
  have hs : strB aliveT = ⟨#[99, 114, 97, 115, 104, 32, 107, 101, 101, 112, 32, 51, 44, 52, 32, 116, 111, 114, 110, 32, 45]⟩ := rfl
  rw [hs] at HPA
  have HS := Lib.hid hs
  clear hV hP hs
  go_enter Tryz.func6, Tryz.ntmps6
  go_wp2_with fail
  refine HPA.out.mono ?_
  rintro e w1 ⟨⟨h1, -⟩, hb1⟩
  obtain ⟨vb, vk, vt, rfl, hact⟩ := h1 _ alive_parse
  obtain ⟨q1, q2, acc, q3, q4, q5⟩ := hact
  obtain rfl : acc = [] := List.map_eq_nil_iff.1 q5
  obtain ⟨ab, cb, rfl, -, -⟩ := q1.row.gen.shape
  obtain ⟨ak, ck, rfl, -, -⟩ := (OwnL.row q2).shape
  obtain ⟨at', ct, rfl, -, -⟩ := (OwnS.row q3).shape tqC_len
  have hai : ActI w1 (.slice ab 0 cb) (.slice ak 2 ck) (.slice at' 0 ct) [] [3, 4] [] := ⟨q1.row, OwnL.row q2, [], OwnS.row q3, fun y hy => (by cases hy), rfl⟩
  clear h1 HPA q1 q2 q3 q4 q5
  obtain ⟨W2, hW2⟩ : ∃ W2, W2 = w1.alloc (.cells #[.int .i64 9, .int .i64 0, .int .i64 0, .int .i64 0, .int .i64 0, .slice ab 0 cb, .slice ak 2 ck, .slice at' 0 ct] 26) := ⟨_, rfl⟩
  obtain ⟨g, hg⟩ : ∃ g, g = w1.heap.size := ⟨_, rfl⟩
  have hba : Below w1.heap.size w1 W2 := by rw [hW2]; exact (Below.refl _ _).alloc (Nat.le_refl _) _
  have hb2 : Below w.heap.size w W2 := hb1.trans (hba.mono hb1.size)
  have hc : CellsAt W2 g 26 #[.int .i64 9, .int .i64 0, .int .i64 0, .int .i64 0, .int .i64 0, .slice ab 0 cb, .slice ak 2 ck, .slice at' 0 ct] := by rw [hW2, hg]; exact CellsAt.new w1 _ _
  have HC : Hid (∀ W, Below W2.heap.size W2 W → W.cell? ⟨g, 0, none⟩ = some (.int .i64 9) ∧ W.cell? ⟨g, 1, none⟩ = some (.int .i64 0) ∧ W.cell? ⟨g, 2, none⟩ = some (.int .i64 0) ∧ W.cell? ⟨g, 3, none⟩ = some (.int .i64 0) ∧ W.cell? ⟨g, 4, none⟩ = some (.int .i64 0) ∧ W.cell? ⟨g, 5, none⟩ = some (.slice ab 0 cb) ∧ W.cell? ⟨g, 6, none⟩ = some (.slice ak 2 ck) ∧ W.cell? ⟨g, 7, none⟩ = some (.slice at' 0 ct)) := fun W h =>
    ⟨(hc.stays h).cell 0 rfl, (hc.stays h).cell 1 rfl, (hc.stays h).cell 2 rfl, (hc.stays h).cell 3 rfl, (hc.stays h).cell 4 rfl, (hc.stays h).cell 5 rfl, (hc.stays h).cell 6 rfl, (hc.stays h).cell 7 rfl⟩
  have HAI : Hid (∀ W, Below W2.heap.size W2 W → ActI W (.slice ab 0 cb) (.slice ak 2 ck) (.slice at' 0 ct) [] [3, 4] []) := fun W h => (hai.stays hba).stays h
  have HB2 := Lib.hid hb2
  have HW := Lib.hid hW2
  have HG := Lib.hid hg
  obtain ⟨c0, c1, c2, c3, c4, c5, c6, c7⟩ := HC.out W2 (Below.refl _ _)
  clear hb1 hba hb2 hc hai hW2 hg
  unfold acCells
  go_upto_region 2 with fail
  rw [← HW.out, ← HG.out]
  clear HW
  have hgl : g < W2.heap.size := World.block_lt_of_cell? W2 _ c0
  have HSM : Hid (Calls Tryz.prog 21 #[.slice ak 2 ck, .slice (some ⟨W2.heap.size, 0, none⟩) 2 2] (W2.alloc (.cells #[.int .i64 3, .int .i64 4] 3)) fun e w' => e = .returned (.bool true) ∧ Below W2.heap.size W2 w') := by
    have hba : Below W2.heap.size W2 (W2.alloc (.cells #[.int .i64 3, .int .i64 4] 3)) := (Below.refl _ _).alloc (Nat.le_refl _) _
    have hown := World.ownsRow_lit (base := W2.heap.size) (e := 3) (size := 1) W2 #[.int .i64 3, .int .i64 4] 2 (Nat.le_refl _) (by unfold maxLen; omega) rfl
    have := sameZ_quiet _ _ [3, 4] [3, 4] _ (HAI.out _ hba).2.1 (show RowZ _ _ [3, 4] from Row.ofOwn hown) (by decide) (by decide)
    refine this.mono ?_
    rintro e w' ⟨h1, m, rfl⟩
    exact ⟨h1, ⟨hba.os, hba.tape, hba.output, hba.size, hba.block⟩⟩
  go_wp2_with fail
  refine HSM.out.mono ?_
  rintro e w3 ⟨rfl, hb3⟩
  obtain ⟨d0, d1, d2, d3, d4, d5, d6, d7⟩ := HC.out w3 hb3
  have hb3w := HB2.out.trans (hb3.mono HB2.out.size)
  have HLI := Lib.hid (line_any (k := 9) (a := 0) (b := 0) (c := 0) (n := 0) (HVV.out w3 hb3w).2 (HVV.out w3 hb3w).1 (by decide) (by decide) (HAI.out w3 hb3))
  rw [alive_line, HS.out] at HLI
  have HB3 := Lib.hid hb3w
  clear HSM hb3 hb3w c0 c1 c2 c3 c4 c5 c6 c7
  go_wp2_with fail
  refine HLI.out.mono ?_
  rintro e w4 ⟨rfl, hb4⟩
  have HB4 := Lib.hid (HB3.out.trans (hb4.mono HB3.out.size))
  clear HLI hb4
  go_wp2_with fail
  go_ret
  exact ⟨rfl, HB4.out⟩
def longA (bs : Bs) (keep : List Int) (torn : List (Int × Bs)) : Bool := decide (200 < bs.length) || decide (210 < keep.length) || decide (60 < torn.length) || torn.any fun t => decide (100 < t.2.length)
theorem any_drop {α : Type} (p : α → Bool) {xs : List α} {i : Nat} {x : α} (hx : xs[i]? = some x) : (xs.drop i).any p = (p x || (xs.drop (i + 1)).any p) := by
  have hi := (List.getElem?_eq_some_iff.1 hx).1
  rw [List.drop_eq_getElem_cons hi, List.any_cons, (List.getElem?_eq_some_iff.1 hx).2]
set_option maxRecDepth 100000 in
set_option maxHeartbeats 2000000 in
theorem long_any {w : World} {k a b c n : Int} {vb vk vt : Value} {bs : Bs} {keep : List Int} {torn : List (Int × Bs)} (hA : ActI w vb vk vt bs keep torn) :
    Calls Tryz.prog 7 #[.agg (acCells k a b c n vb vk vt)] w fun e w' => e = .returned (.bool (longA bs keep torn)) ∧ Below w.heap.size w w' := by
  obtain ⟨h1, h2, acc, h3, h4, h5⟩ := hA
  obtain ⟨ab, cb, rfl, -, -⟩ := h1.gen.shape
  obtain ⟨ak, ck, rfl, -, -⟩ := h2.shape
  obtain ⟨at', ct, rfl, -, -⟩ := h3.shape tqC_len
  obtain ⟨R, hR⟩ : ∃ R, R = longA bs keep torn := ⟨_, rfl⟩
  rw [← hR]
  have hR2 : R = (decide (200 < bs.length) || decide (210 < keep.length) || decide (60 < acc.length) || acc.any fun y => decide (100 < y.1.2.length)) := by
    rw [hR, ← h5]; unfold longA; rw [List.length_map, List.any_map]; rfl
  have HR := Lib.hid hR2
  obtain ⟨W0, hW0⟩ : ∃ W0, W0 = w.alloc (.cells (acCells k a b c n (.slice ab bs.length cb) (.slice ak keep.length ck) (.slice at' acc.length ct)) 26) := ⟨_, rfl⟩
  obtain ⟨g, hg⟩ : ∃ g, g = w.heap.size := ⟨_, rfl⟩
  have hb : Below w.heap.size w W0 := by rw [hW0]; exact (Below.refl _ _).alloc (Nat.le_refl _) _
  have hc : CellsAt W0 g 26 (acCells k a b c n (.slice ab bs.length cb) (.slice ak keep.length ck) (.slice at' acc.length ct)) := by rw [hW0, hg]; exact CellsAt.new w _ _
  have HT : Hid (∀ W, Below W0.heap.size W0 W → RowS tqC W (.slice at' acc.length ct) acc) := fun W h => (RowS.stays h3 hb).stays h
  have c5 := hc.cell 5 (v := .slice ab bs.length cb) rfl
  have c6 := hc.cell 6 (v := .slice ak keep.length ck) rfl
  have c7 := hc.cell 7 (v := .slice at' acc.length ct) rfl
  have HW := Lib.hid hW0
  have HG := Lib.hid hg
  have HB := Lib.hid hb
  clear hR hR2 hW0 hg hb hc h1 h2 h3 h4 h5
  go_enter Tryz.func7, Tryz.ntmps7
  go_upto_region 1 with fail
  rw [← HW.out, ← HG.out]
  clear HW HG
  by_cases l1 : 200 < bs.length
  · have q1 : decide ((200 : Int) < (bs.length : Int)) = true := decide_eq_true (by omega)
    have HZ : Hid (R = true) := by show _ = _; rw [HR.out, decide_eq_true l1]; rfl
    clear HR
    go_wp2_with fail
    go_ret
    exact ⟨congrArg (fun z => Ending.returned (Value.bool z)) HZ.out.symm, HB.out⟩
  · have q1 : decide ((200 : Int) < (bs.length : Int)) = false := decide_eq_false (by omega)
    by_cases l2 : 210 < keep.length
    · have q2 : decide ((210 : Int) < (keep.length : Int)) = true := decide_eq_true (by omega)
      have HZ : Hid (R = true) := by show _ = _; rw [HR.out, decide_eq_false l1, decide_eq_true l2]; rfl
      clear HR
      go_wp2_with fail
      go_ret
      exact ⟨congrArg (fun z => Ending.returned (Value.bool z)) HZ.out.symm, HB.out⟩
    · have q2 : decide ((210 : Int) < (keep.length : Int)) = false := decide_eq_false (by omega)
      by_cases l3 : 60 < acc.length
      · have q3 : decide ((60 : Int) < (acc.length : Int)) = true := decide_eq_true (by omega)
        have HZ : Hid (R = true) := by show _ = _; rw [HR.out, decide_eq_false l1, decide_eq_false l2, decide_eq_true l3]; rfl
        clear HR
        go_wp2_with fail
        go_ret
        exact ⟨congrArg (fun z => Ending.returned (Value.bool z)) HZ.out.symm, HB.out⟩
      · have q3 : decide ((60 : Int) < (acc.length : Int)) = false := decide_eq_false (by omega)
        have HI0 : Hid ((acc.drop 0).any (fun y => decide (100 < y.1.2.length)) = R) := by show _ = _; rw [HR.out, decide_eq_false l1, decide_eq_false l2, decide_eq_false l3]; rfl
        clear HR l1 l2
        go_wp2_with fail
        go_loopw [24] (fun i wr => ∃ m : Nat, m ≤ acc.length ∧ i = .int .i64 m ∧ Hid ((acc.drop m).any (fun y => decide (100 < y.1.2.length)) = R) ∧ Below W0.heap.size W0 wr) (fun i _ => acc.length - (intOf i).toNat)
        case atStart => exact ⟨0, Nat.zero_le _, rfl, HI0.out, Below.refl _ _⟩
        case round =>
          obtain ⟨m, hm, rfl, HI, hbe⟩ := hrel
          by_cases h1 : m < acc.length
          · obtain ⟨⟨⟨n', bs'⟩, ⟨ay, cy⟩⟩, hx⟩ : ∃ x, acc[m]? = some x := ⟨_, List.getElem?_eq_getElem h1⟩
            obtain ⟨aq, cq, hv, -, hcl⟩ := (HT.out wr hbe).shape tqC_len
            cases hv
            obtain ⟨b', o, rfl, hc⟩ := hcl m _ hx
            have c0 := hc 0 _ rfl
            have c1 := hc 1 _ rfl
            have hbb : b' < wr.heap.size := World.block_lt_of_cell? wr _ c0
            replace c0 : wr.cell? ⟨b', o + m * 2, none⟩ = some (.int .i64 n') := c0
            replace c1 : wr.cell? ⟨b', o + m * 2 + 1, none⟩ = some (.slice ay bs'.length cy) := c1
            have hI := HI.out
            rw [any_drop _ hx] at hI
            simp only at hI
            by_cases l4 : 100 < bs'.length
            · have q4 : decide ((100 : Int) < (bs'.length : Int)) = true := decide_eq_true (by omega)
              have HZ : Hid (R = true) := by show _ = _; rw [← hI, decide_eq_true l4]; rfl
              clear hI HI hx hc hcl l4
              go_wp2_with fail
              go_ret
              exact ⟨congrArg (fun z => Ending.returned (Value.bool z)) HZ.out.symm, HB.out.trans ((hbe.alloc hbe.size _).mono HB.out.size)⟩
            · have q4 : decide ((100 : Int) < (bs'.length : Int)) = false := decide_eq_false (by omega)
              have HI2 : Hid ((acc.drop (m + 1)).any (fun y => decide (100 < y.1.2.length)) = R) := by show _ = _; rw [← hI, decide_eq_false l4, Bool.false_or]
              clear hI HI hx hc hcl l4
              go_wp2_with fail
              go_roundw
              case rel => exact ⟨m + 1, h1, by go_num, HI2.out, hbe.alloc hbe.size _⟩
              case measure => simp only [intOf]; omega
          · have HZ : Hid (R = false) := by show _ = _; rw [← HI.out, List.drop_of_length_le (by omega)]; rfl
            clear HI
            go_wp2_with fail
            go_ret
            exact ⟨congrArg (fun z => Ending.returned (Value.bool z)) HZ.out.symm, HB.out.trans (hbe.mono HB.out.size)⟩
theorem long_no {bs : Bs} {keep : List Int} {torn : List (Int × Bs)} (h : longA bs keep torn = false) : bs.length ≤ 200 ∧ keep.length ≤ 210 ∧ torn.length ≤ 60 ∧ ∀ t ∈ torn, t.2.length ≤ 100 := by
  unfold longA at h
  simp only [Bool.or_eq_false_iff, decide_eq_false_iff_not, List.any_eq_false, decide_eq_true_eq] at h
  obtain ⟨⟨⟨h1, h2⟩, h3⟩, h4⟩ := h
  exact ⟨by omega, by omega, by omega, fun t ht => by have := h4 t ht; omega⟩
end Go.Proofs.YtbcpciegdmminaaGreatDoor
