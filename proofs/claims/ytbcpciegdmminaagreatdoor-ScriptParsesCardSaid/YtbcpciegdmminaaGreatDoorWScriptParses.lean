/- The walk of ScriptParses: the act of every line. -/
import Derived.Test.YtbcpciegdmminaaGreatDoorSrH
import Derived.Test.YtbcpciegdmminaaGreatDoorScZ
import Derived.Test.YtbcpciegdmminaaGreatDoorScAo
import Derived.Test.YtbcpciegdmminaaGreatDoorErrs
import Derived.Deep.RegionHeld3
namespace Go.Proofs.YtbcpciegdmminaaGreatDoor
open Go Go.RowKit
set_option linter.unusedVariables false
theorem below_alP {W1 W : World} (h : Below W1.heap.size W1 W) (o : Obj) : Below W1.heap.size W1 (W.alloc o) := h.alloc h.size o
set_option maxRecDepth 100000 in
set_option maxHeartbeats 16000000 in
theorem walkScriptParses (w : World) (x0 : ByteArray) (hx : x0.size ≤ maxLen) (ea : Nat → Addr) (he : ErrsAll ea w) {aS aR aF : Addr} (hV : VarsP aS aR aF w) (hP : PowAt w) :
    Calls Tryz.prog 4 #[.string x0] w fun e w' => e = .returned (.bool true) ∧ Below w.heap.size w w' := by
  obtain ⟨s, rfl⟩ : ∃ s, x0 = strB s := ⟨x0.data.toList, by cases x0; simp [strB]⟩
  have hsz := strB_size s
  have h9 := he.e9
  have h9' := hV.form
  unfold ErrAt at h9 h9'
  rw [h9] at h9'
  obtain rfl : aF = ea 9 := by simpa using h9'.symm
  clear h9 h9'
  have HVV : Hid (∀ W, Below w.heap.size w W → VarsP aS aR (ea 9) W ∧ PowAt W ∧ ErrsAll ea W) := fun W h => ⟨hV.stays h, hP.stays h, he.stays h⟩
  have HAL := Lib.hid (alive39 hV hP)
  clear hV hP he hx
  by_cases hl : 600 < s.length
  · have t0 : (600 : Int) < ((strB s).size : Int) := by omega
    clear hl hsz
    go_enter Tryz.func4, Tryz.ntmps4
    go_wp2_with fail
    refine HAL.out.mono ?_
    rintro e w1 ⟨rfl, hb1⟩
    have HB1 := Lib.hid hb1
    clear hb1 HAL
    go_wp2_with fail
    go_ret
    exact ⟨rfl, HB1.out⟩
  have t0 : ((strB s).size : Int) ≤ 600 := by omega
  have HL : Hid (s.length ≤ 600) := by show _ ≤ _; omega
  clear hl hsz
  go_enter Tryz.func4, Tryz.ntmps4
  go_wp2_with fail
  refine HAL.out.mono ?_
  rintro e w1 ⟨rfl, hb1⟩
  have HB1 := Lib.hid hb1
  have hls := HL.out
  have HPA := Lib.hid (parse_any (HVV.out w1 hb1).1 s (by omega))
  clear hb1 HAL
  go_wp2_with fail
  refine HPA.out.mono ?_
  rintro e w2 ⟨⟨h1, h2⟩, hb2⟩
  have HB2 := Lib.hid (HB1.out.trans (hb2.mono HB1.out.size))
  clear hb2 HPA t0
  cases hp : parseA s with
  | none =>
      obtain rfl := h2 hp
      clear h1 h2
      dsimp only [acCells]
      have HML : Hid (True) := trivial
      have HACT : Hid (ActI w2 (.slice none 0 0) (.slice none 0 0) (.slice none 0 0) [] [] []) := (ActR.nil 0 w2).toI
      obtain ⟨W3, hW3⟩ : ∃ W3, W3 = w2.alloc (.cells #[.int .i64 0, .int .i64 0, .int .i64 0, .int .i64 0, .int .i64 0, .slice none 0 0, .slice none 0 0, .slice none 0 0] 26) := ⟨_, rfl⟩
      obtain ⟨g3, hg3⟩ : ∃ g, g = w2.heap.size := ⟨_, rfl⟩
      have hb3 : Below w2.heap.size w2 W3 := by rw [hW3]; exact (Below.refl _ _).alloc (Nat.le_refl _) _
      have hc3 : CellsAt W3 g3 26 #[.int .i64 0, .int .i64 0, .int .i64 0, .int .i64 0, .int .i64 0, .slice none 0 0, .slice none 0 0, .slice none 0 0] := by rw [hW3, hg3]; exact CellsAt.new w2 _ _
      have hb3w := HB2.out.trans (hb3.mono HB2.out.size)
      have HRP := Lib.hid (rparse_any s (by omega) W3)
      rw [ref_parse, hp] at HRP
      have HACT3 : Hid (ActI W3 (.slice none 0 0) (.slice none 0 0) (.slice none 0 0) [] [] []) := HACT.out.stays hb3
      have HW3 := Lib.hid hW3
      have HG3 := Lib.hid hg3
      have HB3 := Lib.hid hb3w
      have HC3 := Lib.hid hc3
      clear hW3 hg3 hb3 hc3 hb3w HACT hp
      go_upto_region 6 with fail
      rw [← HW3.out, ← HG3.out]
      clear HW3 HG3
      go_wp2_with fail
      refine HRP.out.mono ?_
      rintro e w4 ⟨vk4, vt4, A4, hA4, rfl, hra4, -, hb4⟩
      obtain rfl : A4 = ⟨0, 0, 0, 0, 0, [], [], []⟩ := hA4
      replace hra4 : RActI w4 vk4 vt4 [] [] := hra4
      obtain ⟨bk, dk, rfl, -, -⟩ := hra4.1.shape
      obtain ⟨bt, dt, rfl, -, -⟩ := hra4.2.shape rtC_len
      rw [List.length_nil, List.length_nil] at hra4
      dsimp only [rCells, List.length_nil, Option.isSome]
      clear HRP
      obtain ⟨W5, hW5⟩ : ∃ W5, W5 = w4.alloc (.cells #[.int .i64 0, .int .i64 0, .int .i64 0, .int .i64 0, .int .i64 0, .string (strB []), .slice bk 0 dk, .slice bt 0 dt] 31) := ⟨_, rfl⟩
      obtain ⟨g5, hg5⟩ : ∃ g, g = w4.heap.size := ⟨_, rfl⟩
      have hb5 : Below w4.heap.size w4 W5 := by rw [hW5]; exact (Below.refl _ _).alloc (Nat.le_refl _) _
      have hc5 : CellsAt W5 g5 31 #[.int .i64 0, .int .i64 0, .int .i64 0, .int .i64 0, .int .i64 0, .string (strB []), .slice bk 0 dk, .slice bt 0 dt] := by rw [hW5, hg5]; exact CellsAt.new w4 _ _
      have hb35 : Below W3.heap.size W3 W5 := hb4.trans (hb5.mono hb4.size)
      have HB5 := Lib.hid (HB3.out.trans (hb35.mono HB3.out.size))
      have HAP : Hid (∀ W, Below W5.heap.size W5 W → ActI W (.slice none 0 0) (.slice none 0 0) (.slice none 0 0) [] [] []) := fun W h => (HACT3.out.stays hb35).stays h
      have HRI : Hid (∀ W, Below W5.heap.size W5 W → RActI W (.slice bk 0 dk) (.slice bt 0 dt) [] []) := fun W h => (hra4.stays hb5).stays h
      have HS : Hid (∀ W, Below W5.heap.size W5 W → Below W5.heap.size W5 W ∧ W.cell? ⟨g3, 0, none⟩ = some (.int .i64 0) ∧ W.cell? ⟨g3, 1, none⟩ = some (.int .i64 0) ∧ W.cell? ⟨g3, 2, none⟩ = some (.int .i64 0) ∧ W.cell? ⟨g3, 3, none⟩ = some (.int .i64 0) ∧ W.cell? ⟨g3, 4, none⟩ = some (.int .i64 0) ∧ W.cell? ⟨g3, 5, none⟩ = some (.slice none 0 0) ∧ W.cell? ⟨g3, 6, none⟩ = some (.slice none 0 0) ∧ W.cell? ⟨g3, 7, none⟩ = some (.slice none 0 0) ∧ W.cell? ⟨g5, 0, none⟩ = some (.int .i64 0) ∧ W.cell? ⟨g5, 1, none⟩ = some (.int .i64 0) ∧ W.cell? ⟨g5, 2, none⟩ = some (.int .i64 0) ∧ W.cell? ⟨g5, 3, none⟩ = some (.int .i64 0) ∧ W.cell? ⟨g5, 4, none⟩ = some (.int .i64 0) ∧ W.cell? ⟨g5, 5, none⟩ = some (.string (strB [])) ∧ W.cell? ⟨g5, 6, none⟩ = some (.slice bk 0 dk) ∧ W.cell? ⟨g5, 7, none⟩ = some (.slice bt 0 dt)) := fun W h => by
        have h1 := (HC3.out.stays hb35).stays h
        have h2 := hc5.stays h
        exact ⟨h, h1.cell 0 rfl, h1.cell 1 rfl, h1.cell 2 rfl, h1.cell 3 rfl, h1.cell 4 rfl, h1.cell 5 rfl, h1.cell 6 rfl, h1.cell 7 rfl, h2.cell 0 rfl, h2.cell 1 rfl, h2.cell 2 rfl, h2.cell 3 rfl, h2.cell 4 rfl, h2.cell 5 rfl, h2.cell 6 rfl, h2.cell 7 rfl⟩
      have HOF : Hid (∀ W, Below W5.heap.size W5 W → Calls Tryz.prog 8 #[.agg #[.int .i64 0, .int .i64 0, .int .i64 0, .int .i64 0, .int .i64 0, .slice none 0 0, .slice none 0 0, .slice none 0 0]] W fun e w' => ∃ (a7 : Option Addr) (N7 c7 : Nat), e = .returned (.agg #[.int .i64 0, .int .i64 0, .int .i64 0, .int .i64 0, .int .i64 0, .string (strB []), .slice none 0 0, .slice a7 N7 c7]) ∧ RActI w' (.slice none 0 0) (.slice a7 N7 c7) [] [] ∧ Below W.heap.size W w') := fun W h => (of_any (HAP.out W h) (by have := HML.out; simp)).mono fun e w' ⟨vt5, h1, h2, h3, h4⟩ => by
        obtain ⟨a5, c5, rfl, -, -⟩ := h2.2.shape rtC_len
        exact ⟨a5, _, c5, h1, h2, h4⟩
      have HSM : Hid (∀ W, Below W5.heap.size W5 W → ∀ (a7 : Option Addr) (N7 c7 : Nat), RActI W (.slice none 0 0) (.slice a7 N7 c7) [] [] → Calls Tryz.prog 15 #[.agg #[.int .i64 0, .int .i64 0, .int .i64 0, .int .i64 0, .int .i64 0, .string (strB []), .slice none 0 0, .slice a7 N7 c7], .agg #[.int .i64 0, .int .i64 0, .int .i64 0, .int .i64 0, .int .i64 0, .string (strB []), .slice bk 0 dk, .slice bt 0 dt]] W fun e w' => e = .returned (.bool true) ∧ Below W.heap.size W w') := fun W h a7 N7 c7 hr => by
        have hml := HML.out
        have h1 := rsame_any 0 0 0 0 0 0 0 0 0 0 [] [] hr (HRI.out W h) (by simp) (by simp) (by simp) (by simp)
        rw [(sameA_iff _ _).2 rfl] at h1
        exact h1
      have HF : Hid (∀ W, Below W5.heap.size W5 W → Below w.heap.size w W) := fun W h => HB5.out.trans (h.mono HB5.out.size)
      have HVE : Hid (∀ W, Below W5.heap.size W5 W → VarsP aS (aR) (ea 9) W ∧ PowAt W ∧ ErrsAll ea W) := fun W h => HVV.out W (HF.out W h)
      have HW5 := Lib.hid hW5
      have HG5 := Lib.hid hg5
      clear hW5 hg5 hb5 hc5 hb35 hra4 hb4 HC3 HACT3
      go_upto_region 7 with fail
      rw [← HW5.out, ← HG5.out]
      clear HW5 HG5
      have hd0 : Below W5.heap.size W5 W5 := Below.refl _ _
      have hd1 : Below W5.heap.size W5 W5.drew := hd0.drew
      have HNU : Hid (∀ W, Below W5.heap.size W5 W → Calls Tryz.prog 19 #[.iface 157 (.pointer (some (ea 9)))] W fun e w' => e = .returned (.int .i64 9) ∧ Below W.heap.size W w') := fun W h => by
        have h1 := num_any ea 9 (by decide) W (HVE.out W h).2.2
        rw [EV_pos ea (by decide)] at h1
        exact h1
      go_region_held3 (fun W => Below W5.heap.size W5 W ∧ W.cell? ⟨g3, 0, none⟩ = some (.int .i64 0) ∧ W.cell? ⟨g3, 1, none⟩ = some (.int .i64 0) ∧ W.cell? ⟨g3, 2, none⟩ = some (.int .i64 0) ∧ W.cell? ⟨g3, 3, none⟩ = some (.int .i64 0) ∧ W.cell? ⟨g3, 4, none⟩ = some (.int .i64 0) ∧ W.cell? ⟨g3, 5, none⟩ = some (.slice none 0 0) ∧ W.cell? ⟨g3, 6, none⟩ = some (.slice none 0 0) ∧ W.cell? ⟨g3, 7, none⟩ = some (.slice none 0 0) ∧ W.cell? ⟨g5, 0, none⟩ = some (.int .i64 0) ∧ W.cell? ⟨g5, 1, none⟩ = some (.int .i64 0) ∧ W.cell? ⟨g5, 2, none⟩ = some (.int .i64 0) ∧ W.cell? ⟨g5, 3, none⟩ = some (.int .i64 0) ∧ W.cell? ⟨g5, 4, none⟩ = some (.int .i64 0) ∧ W.cell? ⟨g5, 5, none⟩ = some (.string (strB [])) ∧ W.cell? ⟨g5, 6, none⟩ = some (.slice bk 0 dk) ∧ W.cell? ⟨g5, 7, none⟩ = some (.slice bt 0 dt))
        (exact HS.out _ (by assumption))
        ((first
            | (go_at_call 19; (with_reducible refine (HNU.out _ hd1).mono ?_); rintro e w6 ⟨rfl, hb6⟩; have hd6 := hd1.trans (hb6.mono hd1.size))
            | (go_at_call 8; (with_reducible refine (HOF.out _ hd6).mono ?_); rintro e w7 ⟨a7, N7, c7, rfl, hr7, hb7⟩; have hd7 := hd6.trans (hb7.mono hd6.size))
            | (go_at_call 15; (with_reducible refine (HSM.out _ hd7 a7 N7 c7 hr7).mono ?_); rintro e w8 ⟨rfl, hb8⟩; have hd8 := hd7.trans (hb8.mono hd7.size))))
      rename_i hHH
      clear hHH
      have HFZ := Lib.hid (HF.out w8 hd8)
      go_wp2_with fail
      go_ret
      exact ⟨rfl, HFZ.out⟩
  | some A =>
      obtain ⟨vb, vk, vt, rfl, hact⟩ := h1 A hp
      clear h1 h2
      obtain ⟨hrr, hll⟩ := parse_line hp
      obtain ⟨k, a, b, c, n, bs, keep, torn⟩ := A
      have hrp := right_parts hrr
      have HML : Hid (keep.length ≤ 200 ∧ torn.length ≤ 200) := ⟨hrp.2.2.2.1, hrp.2.2.2.2.1⟩
      have HRR := Lib.hid hrr
      have HLL := Lib.hid hll
      replace hact : ActR w1.heap.size w2 vb vk vt bs keep torn := hact
      obtain ⟨q1, q2, acq, q3, q4, q5⟩ := hact
      obtain ⟨ab, cb, rfl, -, -⟩ := q1.row.gen.shape
      obtain ⟨ak, ck, rfl, -, -⟩ := (OwnL.row q2).shape
      obtain ⟨at', ct, rfl, -, -⟩ := (OwnS.row q3).shape tqC_len
      have hcl : acq.length = torn.length := by rw [← q5, List.length_map]
      have hact2 : ActI w2 (.slice ab bs.length cb) (.slice ak keep.length ck) (.slice at' acq.length ct) bs keep torn := ⟨q1.row, OwnL.row q2, acq, OwnS.row q3, fun y hy => (q4 y hy).1, q5⟩
      rw [hcl] at hact2 ⊢
      have HACT := Lib.hid hact2
      clear q1 q2 q3 q4 q5 hcl hact2 hrp hrr hll
      dsimp only [acCells]
      obtain ⟨W3, hW3⟩ : ∃ W3, W3 = w2.alloc (.cells #[.int .i64 k, .int .i64 a, .int .i64 b, .int .i64 c, .int .i64 n, .slice ab bs.length cb, .slice ak keep.length ck, .slice at' torn.length ct] 26) := ⟨_, rfl⟩
      obtain ⟨g3, hg3⟩ : ∃ g, g = w2.heap.size := ⟨_, rfl⟩
      have hb3 : Below w2.heap.size w2 W3 := by rw [hW3]; exact (Below.refl _ _).alloc (Nat.le_refl _) _
      have hc3 : CellsAt W3 g3 26 #[.int .i64 k, .int .i64 a, .int .i64 b, .int .i64 c, .int .i64 n, .slice ab bs.length cb, .slice ak keep.length ck, .slice at' torn.length ct] := by rw [hW3, hg3]; exact CellsAt.new w2 _ _
      have hb3w := HB2.out.trans (hb3.mono HB2.out.size)
      have HRP := Lib.hid (rparse_any s (by omega) W3)
      rw [ref_parse, hp] at HRP
      have HACT3 : Hid (ActI W3 (.slice ab bs.length cb) (.slice ak keep.length ck) (.slice at' torn.length ct) bs keep torn) := HACT.out.stays hb3
      have HW3 := Lib.hid hW3
      have HG3 := Lib.hid hg3
      have HB3 := Lib.hid hb3w
      have HC3 := Lib.hid hc3
      clear hW3 hg3 hb3 hc3 hb3w HACT hp
      go_upto_region 6 with fail
      rw [← HW3.out, ← HG3.out]
      clear HW3 HG3
      go_wp2_with fail
      refine HRP.out.mono ?_
      rintro e w4 ⟨vk4, vt4, A4, hA4, rfl, hra4, -, hb4⟩
      obtain rfl : A4 = ⟨k, a, b, c, n, bs, keep, torn⟩ := hA4
      replace hra4 : RActI w4 vk4 vt4 keep torn := hra4
      obtain ⟨bk, dk, rfl, -, -⟩ := hra4.1.shape
      obtain ⟨bt, dt, rfl, -, -⟩ := hra4.2.shape rtC_len

      dsimp only [rCells, List.length_nil, Option.isSome]
      clear HRP
      obtain ⟨W5, hW5⟩ : ∃ W5, W5 = w4.alloc (.cells #[.int .i64 k, .int .i64 a, .int .i64 b, .int .i64 c, .int .i64 n, .string (strB bs), .slice bk keep.length dk, .slice bt torn.length dt] 31) := ⟨_, rfl⟩
      obtain ⟨g5, hg5⟩ : ∃ g, g = w4.heap.size := ⟨_, rfl⟩
      have hb5 : Below w4.heap.size w4 W5 := by rw [hW5]; exact (Below.refl _ _).alloc (Nat.le_refl _) _
      have hc5 : CellsAt W5 g5 31 #[.int .i64 k, .int .i64 a, .int .i64 b, .int .i64 c, .int .i64 n, .string (strB bs), .slice bk keep.length dk, .slice bt torn.length dt] := by rw [hW5, hg5]; exact CellsAt.new w4 _ _
      have hb35 : Below W3.heap.size W3 W5 := hb4.trans (hb5.mono hb4.size)
      have HB5 := Lib.hid (HB3.out.trans (hb35.mono HB3.out.size))
      have HAP : Hid (∀ W, Below W5.heap.size W5 W → ActI W (.slice ab bs.length cb) (.slice ak keep.length ck) (.slice at' torn.length ct) bs keep torn) := fun W h => (HACT3.out.stays hb35).stays h
      have HRI : Hid (∀ W, Below W5.heap.size W5 W → RActI W (.slice bk keep.length dk) (.slice bt torn.length dt) keep torn) := fun W h => (hra4.stays hb5).stays h
      have HS : Hid (∀ W, Below W5.heap.size W5 W → Below W5.heap.size W5 W ∧ W.cell? ⟨g3, 0, none⟩ = some (.int .i64 k) ∧ W.cell? ⟨g3, 1, none⟩ = some (.int .i64 a) ∧ W.cell? ⟨g3, 2, none⟩ = some (.int .i64 b) ∧ W.cell? ⟨g3, 3, none⟩ = some (.int .i64 c) ∧ W.cell? ⟨g3, 4, none⟩ = some (.int .i64 n) ∧ W.cell? ⟨g3, 5, none⟩ = some (.slice ab bs.length cb) ∧ W.cell? ⟨g3, 6, none⟩ = some (.slice ak keep.length ck) ∧ W.cell? ⟨g3, 7, none⟩ = some (.slice at' torn.length ct) ∧ W.cell? ⟨g5, 0, none⟩ = some (.int .i64 k) ∧ W.cell? ⟨g5, 1, none⟩ = some (.int .i64 a) ∧ W.cell? ⟨g5, 2, none⟩ = some (.int .i64 b) ∧ W.cell? ⟨g5, 3, none⟩ = some (.int .i64 c) ∧ W.cell? ⟨g5, 4, none⟩ = some (.int .i64 n) ∧ W.cell? ⟨g5, 5, none⟩ = some (.string (strB bs)) ∧ W.cell? ⟨g5, 6, none⟩ = some (.slice bk keep.length dk) ∧ W.cell? ⟨g5, 7, none⟩ = some (.slice bt torn.length dt)) := fun W h => by
        have h1 := (HC3.out.stays hb35).stays h
        have h2 := hc5.stays h
        exact ⟨h, h1.cell 0 rfl, h1.cell 1 rfl, h1.cell 2 rfl, h1.cell 3 rfl, h1.cell 4 rfl, h1.cell 5 rfl, h1.cell 6 rfl, h1.cell 7 rfl, h2.cell 0 rfl, h2.cell 1 rfl, h2.cell 2 rfl, h2.cell 3 rfl, h2.cell 4 rfl, h2.cell 5 rfl, h2.cell 6 rfl, h2.cell 7 rfl⟩
      have HOF : Hid (∀ W, Below W5.heap.size W5 W → Calls Tryz.prog 8 #[.agg #[.int .i64 k, .int .i64 a, .int .i64 b, .int .i64 c, .int .i64 n, .slice ab bs.length cb, .slice ak keep.length ck, .slice at' torn.length ct]] W fun e w' => ∃ (a7 : Option Addr) (N7 c7 : Nat), e = .returned (.agg #[.int .i64 k, .int .i64 a, .int .i64 b, .int .i64 c, .int .i64 n, .string (strB bs), .slice ak keep.length ck, .slice a7 N7 c7]) ∧ RActI w' (.slice ak keep.length ck) (.slice a7 N7 c7) keep torn ∧ Below W.heap.size W w') := fun W h => (of_any (HAP.out W h) (by have := HML.out; omega)).mono fun e w' ⟨vt5, h1, h2, h3, h4⟩ => by
        obtain ⟨a5, c5, rfl, -, -⟩ := h2.2.shape rtC_len
        exact ⟨a5, _, c5, h1, h2, h4⟩
      have HSM : Hid (∀ W, Below W5.heap.size W5 W → ∀ (a7 : Option Addr) (N7 c7 : Nat), RActI W (.slice ak keep.length ck) (.slice a7 N7 c7) keep torn → Calls Tryz.prog 15 #[.agg #[.int .i64 k, .int .i64 a, .int .i64 b, .int .i64 c, .int .i64 n, .string (strB bs), .slice ak keep.length ck, .slice a7 N7 c7], .agg #[.int .i64 k, .int .i64 a, .int .i64 b, .int .i64 c, .int .i64 n, .string (strB bs), .slice bk keep.length dk, .slice bt torn.length dt]] W fun e w' => e = .returned (.bool true) ∧ Below W.heap.size W w') := fun W h a7 N7 c7 hr => by
        have hml := HML.out
        have h1 := rsame_any k a b c n k a b c n bs bs hr (HRI.out W h) (by omega) (by omega) (by omega) (by omega)
        rw [(sameA_iff _ _).2 rfl] at h1
        exact h1
      have HF : Hid (∀ W, Below W5.heap.size W5 W → Below w.heap.size w W) := fun W h => HB5.out.trans (h.mono HB5.out.size)
      have HVE : Hid (∀ W, Below W5.heap.size W5 W → VarsP aS (aR) (ea 9) W ∧ PowAt W ∧ ErrsAll ea W) := fun W h => HVV.out W (HF.out W h)
      have HW5 := Lib.hid hW5
      have HG5 := Lib.hid hg5
      clear hW5 hg5 hb5 hc5 hb35 hra4 hb4 HC3 HACT3
      go_upto_region 7 with fail
      rw [← HW5.out, ← HG5.out]
      clear HW5 HG5
      have hd0 : Below W5.heap.size W5 W5 := Below.refl _ _
      have hd1 : Below W5.heap.size W5 W5.drew := hd0.drew
      refine wp_region_noPanic ?_
      refine wp_region_held_drew (S := fun W => Below W5.heap.size W5 W ∧ W.cell? ⟨g3, 0, none⟩ = some (.int .i64 k) ∧ W.cell? ⟨g3, 1, none⟩ = some (.int .i64 a) ∧ W.cell? ⟨g3, 2, none⟩ = some (.int .i64 b) ∧ W.cell? ⟨g3, 3, none⟩ = some (.int .i64 c) ∧ W.cell? ⟨g3, 4, none⟩ = some (.int .i64 n) ∧ W.cell? ⟨g3, 5, none⟩ = some (.slice ab bs.length cb) ∧ W.cell? ⟨g3, 6, none⟩ = some (.slice ak keep.length ck) ∧ W.cell? ⟨g3, 7, none⟩ = some (.slice at' torn.length ct) ∧ W.cell? ⟨g5, 0, none⟩ = some (.int .i64 k) ∧ W.cell? ⟨g5, 1, none⟩ = some (.int .i64 a) ∧ W.cell? ⟨g5, 2, none⟩ = some (.int .i64 b) ∧ W.cell? ⟨g5, 3, none⟩ = some (.int .i64 c) ∧ W.cell? ⟨g5, 4, none⟩ = some (.int .i64 n) ∧ W.cell? ⟨g5, 5, none⟩ = some (.string (strB bs)) ∧ W.cell? ⟨g5, 6, none⟩ = some (.slice bk keep.length dk) ∧ W.cell? ⟨g5, 7, none⟩ = some (.slice bt torn.length dt)) (by kernel_rfl) (HS.out _ hd1) (fun hH0 => ?_)
      refine wpAnyH_take (i := 0) (oi := ⟨some 22, _, _, _, _, _⟩) (v := ?_) rfl (by kernel_rfl) (by kernel_rfl) (by kernel_rfl) (fun _ _ _ h => h) (Or.inl ⟨by rfl, ?_⟩) (by assumption) ?_
      rotate_left
      focus (intro wq hSq; (try dsimp only at hSq); go_simp; try (with_reducible rfl))
      try simp only [Act.put, List.setIfInBounds_toArray, List.set_cons_zero, List.set_cons_succ]
      refine wpAnyH_take (i := 1) (oi := ⟨some 23, _, _, _, _, _⟩) (v := ?_) rfl (by kernel_rfl) (by kernel_rfl) (by kernel_rfl) (fun _ _ _ h => h) (Or.inl ⟨by rfl, ?_⟩) (by assumption) ?_
      rotate_left
      focus (intro wq hSq; (try dsimp only at hSq); go_simp; try (with_reducible rfl))
      try simp only [Act.put, List.setIfInBounds_toArray, List.set_cons_zero, List.set_cons_succ]
      refine wpAnyH_take (i := 2) (oi := ⟨some 24, _, _, _, _, _⟩) (v := ?_) rfl (by kernel_rfl) (by kernel_rfl) (by kernel_rfl) (fun _ _ _ h => h) (Or.inl ⟨by rfl, ?_⟩) (by assumption) ?_
      rotate_left
      focus (intro wq hSq; (try dsimp only at hSq); go_simp; try (with_reducible rfl))
      try simp only [Act.put, List.setIfInBounds_toArray, List.set_cons_zero, List.set_cons_succ]
      refine wpAnyH_take (i := 3) (oi := ⟨some 25, _, _, _, _, _⟩) (v := ?_) rfl (by kernel_rfl) (by kernel_rfl) (by kernel_rfl) (fun _ _ _ h => h) (Or.inl ⟨by rfl, ?_⟩) (by assumption) ?_
      rotate_left
      focus (intro wq hSq; (try dsimp only at hSq); go_simp; try (with_reducible rfl))
      try simp only [Act.put, List.setIfInBounds_toArray, List.set_cons_zero, List.set_cons_succ]
      refine wpAnyH_take (i := 4) (oi := ⟨some 26, _, _, _, _, _⟩) (v := ?_) rfl (by kernel_rfl) (by kernel_rfl) (by kernel_rfl) (fun _ _ _ h => h) (Or.inl ⟨by rfl, ?_⟩) (by assumption) ?_
      rotate_left
      focus (intro wq hSq; (try dsimp only at hSq); go_simp; try (with_reducible rfl))
      try simp only [Act.put, List.setIfInBounds_toArray, List.set_cons_zero, List.set_cons_succ]
      refine wpAnyH_take (i := 5) (oi := ⟨some 27, _, _, _, _, _⟩) (v := ?_) rfl (by kernel_rfl) (by kernel_rfl) (by kernel_rfl) (fun _ _ _ h => h) (Or.inl ⟨by rfl, ?_⟩) (by assumption) ?_
      rotate_left
      focus (intro wq hSq; (try dsimp only at hSq); go_simp; try (with_reducible rfl))
      try simp only [Act.put, List.setIfInBounds_toArray, List.set_cons_zero, List.set_cons_succ]
      refine wpAnyH_take (i := 6) (oi := ⟨some 28, _, _, _, _, _⟩) (v := ?_) rfl (by kernel_rfl) (by kernel_rfl) (by kernel_rfl) (fun _ _ _ h => h) (Or.inl ⟨by rfl, ?_⟩) (by assumption) ?_
      rotate_left
      focus (intro wq hSq; (try dsimp only at hSq); go_simp; try (with_reducible rfl))
      try simp only [Act.put, List.setIfInBounds_toArray, List.set_cons_zero, List.set_cons_succ]
      refine wpAnyH_take (i := 7) (oi := ⟨some 29, _, _, _, _, _⟩) (v := ?_) rfl (by kernel_rfl) (by kernel_rfl) (by kernel_rfl) (fun _ _ _ h => h) (Or.inl ⟨by rfl, ?_⟩) (by assumption) ?_
      rotate_left
      focus (intro wq hSq; (try dsimp only at hSq); go_simp; try (with_reducible rfl))
      try simp only [Act.put, List.setIfInBounds_toArray, List.set_cons_zero, List.set_cons_succ]
      refine wpAnyH_take (i := 8) (oi := ⟨some 30, _, _, _, _, _⟩) (v := undef) rfl (by kernel_rfl) (by kernel_rfl) (by kernel_rfl) (fun _ _ _ h => h) (Or.inr ⟨by rfl, rfl⟩) (by assumption) ?_
      try simp only [Act.put, List.setIfInBounds_toArray, List.set_cons_zero, List.set_cons_succ]
      refine wpAnyH_take (i := 9) (oi := ⟨some 31, _, _, _, _, _⟩) (v := undef) rfl (by kernel_rfl) (by kernel_rfl) (by kernel_rfl) (fun _ _ _ h => h) (Or.inr ⟨by rfl, rfl⟩) (by assumption) ?_
      try simp only [Act.put, List.setIfInBounds_toArray, List.set_cons_zero, List.set_cons_succ]
      refine wpAnyH_take (i := 10) (oi := ⟨some 32, _, _, _, _, _⟩) (v := undef) rfl (by kernel_rfl) (by kernel_rfl) (by kernel_rfl) (fun _ _ _ h => h) (Or.inr ⟨by rfl, rfl⟩) (by assumption) ?_
      try simp only [Act.put, List.setIfInBounds_toArray, List.set_cons_zero, List.set_cons_succ]
      refine wpAnyH_take (i := 11) (oi := ⟨some 33, _, _, _, _, _⟩) (v := ?_) rfl (by kernel_rfl) (by kernel_rfl) (by kernel_rfl) (fun _ _ _ h => h) (Or.inl ⟨by rfl, ?_⟩) (by assumption) ?_
      rotate_left
      focus (intro wq hSq; (try dsimp only at hSq); go_simp; try (with_reducible rfl))
      try simp only [Act.put, List.setIfInBounds_toArray, List.set_cons_zero, List.set_cons_succ]
      refine wpAnyH_take (i := 12) (oi := ⟨some 34, _, _, _, _, _⟩) (v := ?_) rfl (by kernel_rfl) (by kernel_rfl) (by kernel_rfl) (fun _ _ _ h => h) (Or.inl ⟨by rfl, ?_⟩) (by assumption) ?_
      rotate_left
      focus (intro wq hSq; (try dsimp only at hSq); go_simp; try (with_reducible rfl))
      try simp only [Act.put, List.setIfInBounds_toArray, List.set_cons_zero, List.set_cons_succ]
      refine wpAnyH_take (i := 13) (oi := ⟨some 35, _, _, _, _, _⟩) (v := ?_) rfl (by kernel_rfl) (by kernel_rfl) (by kernel_rfl) (fun _ _ _ h => h) (Or.inl ⟨by rfl, ?_⟩) (by assumption) ?_
      rotate_left
      focus (intro wq hSq; (try dsimp only at hSq); go_simp; try (with_reducible rfl))
      try simp only [Act.put, List.setIfInBounds_toArray, List.set_cons_zero, List.set_cons_succ]
      refine wpAnyH_take (i := 14) (oi := ⟨some 36, _, _, _, _, _⟩) (v := ?_) rfl (by kernel_rfl) (by kernel_rfl) (by kernel_rfl) (fun _ _ _ h => h) (Or.inl ⟨by rfl, ?_⟩) (by assumption) ?_
      rotate_left
      focus (intro wq hSq; (try dsimp only at hSq); go_simp; try (with_reducible rfl))
      try simp only [Act.put, List.setIfInBounds_toArray, List.set_cons_zero, List.set_cons_succ]
      refine wpAnyH_take (i := 16) (oi := ⟨some 38, _, _, _, _, _⟩) (v := ?_) rfl (by kernel_rfl) (by kernel_rfl) (by kernel_rfl) (fun _ _ _ h => h) (Or.inl ⟨by rfl, ?_⟩) (by assumption) ?_
      rotate_left
      focus (intro wq hSq; (try dsimp only at hSq); go_simp; try (with_reducible rfl))
      try simp only [Act.put, List.setIfInBounds_toArray, List.set_cons_zero, List.set_cons_succ]
      refine wpAnyH_ready (rs := [15]) (by kernel_rfl) (by simp) ?_
      refine AllReadyH.cons (o := _) rfl (fun K hK => ?_) AllReadyH.nil
      go_simp
      go_at_call 8
      refine (HOF.out _ hd1).mono ?_
      rintro e w7 ⟨a7, N7, c7, rfl, hr7, hb7⟩
      have hd7 := hd1.trans (hb7.mono hd1.size)
      go_wp2_with fail
      refine hK.out _ _ (HS.out _ hd7) (fun hH7 => ?_)
      clear hK K hH0
      try simp only [Act.put, List.setIfInBounds_toArray, List.set_cons_zero, List.set_cons_succ]
      refine wpAnyH_ready (rs := [17]) (by kernel_rfl) (by simp) ?_
      refine AllReadyH.cons (o := _) rfl (fun K hK => ?_) AllReadyH.nil
      go_simp
      go_at_call 15
      refine (HSM.out _ hd7 a7 N7 c7 hr7).mono ?_
      rintro e w8 ⟨rfl, hb8⟩
      have hd8 := hd7.trans (hb8.mono hd7.size)
      go_wp2_with fail
      refine hK.out _ _ (HS.out _ hd8) (fun hHH => ?_)
      clear hK K hH7
      try simp only [Act.put, List.setIfInBounds_toArray, List.set_cons_zero, List.set_cons_succ]
      refine wpAnyH_take (i := 18) (oi := ⟨some 40, _, _, _, _, _⟩) (v := ?_) rfl (by kernel_rfl) (by kernel_rfl) (by kernel_rfl) (fun _ _ _ h => h) (Or.inl ⟨by rfl, ?_⟩) (by assumption) ?_
      rotate_left
      focus (intro wq hSq; (try dsimp only at hSq); go_simp; try (with_reducible rfl))
      try simp only [Act.put, List.setIfInBounds_toArray, List.set_cons_zero, List.set_cons_succ]
      refine wpAnyH_take (i := 19) (oi := ⟨some 41, _, _, _, _, _⟩) (v := ?_) rfl (by kernel_rfl) (by kernel_rfl) (by kernel_rfl) (fun _ _ _ h => h) (Or.inl ⟨by rfl, ?_⟩) (by assumption) ?_
      rotate_left
      focus (intro wq hSq; (try dsimp only at hSq); go_simp; try (with_reducible rfl))
      try simp only [Act.put, List.setIfInBounds_toArray, List.set_cons_zero, List.set_cons_succ]
      refine wpAnyH_done (by kernel_rfl) ?_ _
      refine NoPanic.normal ?_
      clear hHH
      have hml := HML.out
      have hv8 := HVE.out w8 hd8
      have HRT := Lib.hid (right_any (k := k) (a := a) (b := b) (c := c) (n := n) hv8.1.words (by omega) (by omega) (HAP.out w8 hd8))
      rw [HRR.out] at HRT
      have HD8 := Lib.hid hd8
      obtain ⟨-, x0, x1, x2, x3, x4, x5, x6, x7, y0, y1, y2, y3, y4, y5, y6, y7⟩ := HS.out w8 hd8
      clear hd8 hd7 hb7 hb8 hr7 hv8 hml hd0 hd1 HOF HSM
      unfold acCells at HRT
      go_wp2_with fail
      refine HRT.out.mono ?_
      rintro e w9 ⟨rfl, hb9⟩
      have hd9 := HD8.out.trans (hb9.mono HD8.out.size)
      have hml := HML.out
      have hv9 := HVE.out w9 hd9
      have HLT := Lib.hid (line_any (k := k) (a := a) (b := b) (c := c) (n := n) hv9.2.1 hv9.1.words (by omega) (by omega) (HAP.out w9 hd9))
      unfold lineR at HLT
      rw [HRR.out, if_pos rfl, HLL.out] at HLT
      have HD9 := Lib.hid hd9
      clear x0 x1 x2 x3 x4 x5 x6 x7 y0 y1 y2 y3 y4 y5 y6 y7 HRT
      obtain ⟨-, x0, x1, x2, x3, x4, x5, x6, x7, y0, y1, y2, y3, y4, y5, y6, y7⟩ := HS.out w9 hd9
      clear hd9 hml hv9 hb9
      unfold acCells at HLT
      have qq : ((strB s).toList == (strB s).toList) = true := beq_self_eq_true _
      go_wp2_with fail
      refine HLT.out.mono ?_
      rintro e w10 ⟨rfl, hb10⟩
      have HFZ := Lib.hid (HF.out w10 (HD9.out.trans (hb10.mono HD9.out.size)))
      clear HLT hb10 x0 x1 x2 x3 x4 x5 x6 x7 y0 y1 y2 y3 y4 y5 y6 y7
      go_wp2_with fail
      go_ret
      exact ⟨rfl, HFZ.out⟩
end Go.Proofs.YtbcpciegdmminaaGreatDoor
