/- The walk of ScriptBack: a right act is parsed from its line as it was. -/
import Derived.Test.YtbcpciegdmminaaDoorScZ
import Derived.Test.YtbcpciegdmminaaDoorScAo
namespace Go.Proofs.YtbcpciegdmminaaDoor
open Go Go.RowKit
set_option linter.unusedVariables false
set_option maxRecDepth 100000 in
set_option maxHeartbeats 4000000 in
theorem walkScriptBack (w : World) (k a b c n : Int) (vb vk vt : Value) (bs : Bs) (keep : List Int) (torn : List (Int × Bs)) (hA : ActI w vb vk vt bs keep torn) {aS aR aF : Addr} (hV : VarsP aS aR aF w) (hP : PowAt w) :
    Calls Tryd.prog 3 #[.agg (acCells k a b c n vb vk vt)] w fun e w' => e = .returned (.bool true) ∧ Below w.heap.size w w' := by
  obtain ⟨q1, q2, acc0, q3, q4, q5⟩ := hA
  obtain ⟨ab, cb, rfl, -, -⟩ := q1.gen.shape
  obtain ⟨ak, ck, rfl, -, -⟩ := q2.shape
  obtain ⟨at', ct, rfl, -, -⟩ := q3.shape tqC_len
  have hA : ActI w (.slice ab bs.length cb) (.slice ak keep.length ck) (.slice at' acc0.length ct) bs keep torn := ⟨q1, q2, acc0, q3, q4, q5⟩
  obtain ⟨W0, hW0⟩ : ∃ W0, W0 = w.alloc (.cells (acCells k a b c n (.slice ab bs.length cb) (.slice ak keep.length ck) (.slice at' acc0.length ct)) 26) := ⟨_, rfl⟩
  obtain ⟨g, hg⟩ : ∃ g, g = w.heap.size := ⟨_, rfl⟩
  have hb : Below w.heap.size w W0 := by rw [hW0]; exact (Below.refl _ _).alloc (Nat.le_refl _) _
  have hc : CellsAt W0 g 26 (acCells k a b c n (.slice ab bs.length cb) (.slice ak keep.length ck) (.slice at' acc0.length ct)) := by rw [hW0, hg]; exact CellsAt.new w _ _
  have HC : Hid (∀ W, Below W0.heap.size W0 W → W.cell? ⟨g, 0, none⟩ = some (.int .i64 k) ∧ W.cell? ⟨g, 1, none⟩ = some (.int .i64 a) ∧ W.cell? ⟨g, 2, none⟩ = some (.int .i64 b) ∧ W.cell? ⟨g, 3, none⟩ = some (.int .i64 c) ∧ W.cell? ⟨g, 4, none⟩ = some (.int .i64 n) ∧ W.cell? ⟨g, 5, none⟩ = some (.slice ab bs.length cb) ∧ W.cell? ⟨g, 6, none⟩ = some (.slice ak keep.length ck) ∧ W.cell? ⟨g, 7, none⟩ = some (.slice at' acc0.length ct)) := fun W h =>
    ⟨(hc.stays h).cell 0 rfl, (hc.stays h).cell 1 rfl, (hc.stays h).cell 2 rfl, (hc.stays h).cell 3 rfl, (hc.stays h).cell 4 rfl, (hc.stays h).cell 5 rfl, (hc.stays h).cell 6 rfl, (hc.stays h).cell 7 rfl⟩
  have HAI : Hid (∀ W, Below W0.heap.size W0 W → ActI W (.slice ab bs.length cb) (.slice ak keep.length ck) (.slice at' acc0.length ct) bs keep torn) := fun W h => (hA.stays hb).stays h
  have HV : Hid (∀ W, Below W0.heap.size W0 W → VarsP aS aR aF W ∧ PowAt W) := fun W h => ⟨(hV.stays hb).stays h, (hP.stays hb).stays h⟩
  have HAL := Lib.hid (alive39 (hV.stays hb) (hP.stays hb))
  have HW := Lib.hid hW0
  have HG := Lib.hid hg
  have HB := Lib.hid hb
  clear hW0 hg hb hc hA q1 q2 q3 q4 q5 hV hP
  go_enter Tryd.func3, Tryd.ntmps3
  go_upto_region 1 with fail
  rw [← HW.out, ← HG.out]
  clear HW HG
  go_wp2_with fail
  refine HAL.out.mono ?_
  rintro e w1 ⟨rfl, hb1⟩
  obtain ⟨c0, c1, c2, c3, c4, c5, c6, c7⟩ := HC.out w1 hb1
  have HB1 := Lib.hid hb1
  have HLO := Lib.hid (long_any (k := k) (a := a) (b := b) (c := c) (n := n) (HAI.out w1 hb1))
  clear HAL hb1
  cases hlo : longA bs keep torn with
  | true =>
    rw [hlo] at HLO
    go_wp2_with fail
    refine HLO.out.mono ?_
    rintro e w2 ⟨rfl, hb2⟩
    have HB2 := Lib.hid (HB1.out.trans (hb2.mono HB1.out.size))
    clear HLO hb2
    go_wp2_with fail
    go_ret
    exact ⟨rfl, HB.out.trans (HB2.out.mono HB.out.size)⟩
  | false =>
    rw [hlo] at HLO
    obtain ⟨m1, m2, m3, m4⟩ := long_no hlo
    have HLN : Hid (rightA ⟨k, a, b, c, n, bs, keep, torn⟩ = true → (lineA ⟨k, a, b, c, n, bs, keep, torn⟩).length ≤ 90000) := fun h => line_len h hlo
    have HPL : Hid (rightA ⟨k, a, b, c, n, bs, keep, torn⟩ = true → parseA (lineA ⟨k, a, b, c, n, bs, keep, torn⟩) = some ⟨k, a, b, c, n, bs, keep, torn⟩) := line_parse
    have HLR : Hid (lineR ⟨k, a, b, c, n, bs, keep, torn⟩ = if rightA ⟨k, a, b, c, n, bs, keep, torn⟩ then lineA ⟨k, a, b, c, n, bs, keep, torn⟩ else []) := rfl
    have HRI : Hid (∀ W, Below W0.heap.size W0 W → Calls Tryd.prog 6 #[.agg (acCells k a b c n (.slice ab bs.length cb) (.slice ak keep.length ck) (.slice at' acc0.length ct))] W fun e w' => e = .returned (.bool (rightA ⟨k, a, b, c, n, bs, keep, torn⟩)) ∧ Below W.heap.size W w') := fun W h => right_any (HV.out W h).1.words (by omega) (by omega) (HAI.out W h)
    have HLI : Hid (∀ W, Below W0.heap.size W0 W → Calls Tryd.prog 8 #[.agg (acCells k a b c n (.slice ab bs.length cb) (.slice ak keep.length ck) (.slice at' acc0.length ct))] W fun e w' => e = .returned (.string (strB (lineR ⟨k, a, b, c, n, bs, keep, torn⟩))) ∧ Below W.heap.size W w') := fun W h => line_any (HV.out W h).2 (HV.out W h).1.words (by omega) (by omega) (HAI.out W h)
    have HM : Hid (keep.length ≤ 2000000 ∧ torn.length ≤ 2000000) := ⟨by omega, by omega⟩
    clear m1 m2 m3 m4 hlo
    go_wp2_with fail
    refine HLO.out.mono ?_
    rintro e w2 ⟨rfl, hb2⟩
    have hb2w := HB1.out.trans (hb2.mono HB1.out.size)
    obtain ⟨d0, d1, d2, d3, d4, d5, d6, d7⟩ := HC.out w2 hb2w
    have HB2 := Lib.hid hb2w
    clear HLO hb2 hb2w c0 c1 c2 c3 c4 c5 c6 c7
    go_wp2_with fail
    refine (HRI.out _ HB2.out).mono ?_
    rintro e w3 ⟨rfl, hb3⟩
    have hb3w := HB2.out.trans (hb3.mono HB2.out.size)
    obtain ⟨c0, c1, c2, c3, c4, c5, c6, c7⟩ := HC.out w3 hb3w
    have HB3 := Lib.hid hb3w
    clear HRI hb3 hb3w d0 d1 d2 d3 d4 d5 d6 d7
    cases hr : rightA ⟨k, a, b, c, n, bs, keep, torn⟩ with
    | false =>
      go_wp2_with fail
      go_ret
      exact ⟨rfl, HB.out.trans (HB3.out.mono HB.out.size)⟩
    | true =>
      rw [HLR.out, hr, if_pos rfl] at HLI
      have hpl := HPL.out hr
      have HLL := Lib.hid (HLN.out hr)
      clear HLN HPL HLR hr
      obtain ⟨T, hT⟩ : ∃ T, T = lineA ⟨k, a, b, c, n, bs, keep, torn⟩ := ⟨_, rfl⟩
      rw [← hT] at HLI hpl HLL
      have HPL := Lib.hid hpl
      clear hT hpl
      go_wp2_with fail
      refine (HLI.out _ HB3.out).mono ?_
      rintro e w4 ⟨rfl, hb4⟩
      have HB4 := Lib.hid (HB3.out.trans (hb4.mono HB3.out.size))
      have HPA := Lib.hid (parse_any (HV.out w4 HB4.out).1 T (by have := HLL.out; omega))
      clear HLI hb4 c0 c1 c2 c3 c4 c5 c6 c7
      go_wp2_with fail
      refine HPA.out.mono ?_
      rintro e w5 ⟨⟨h1, -⟩, hb5⟩
      obtain ⟨vb2, vk2, vt2, rfl, hact⟩ := h1 _ HPL.out
      obtain ⟨q1, q2, acc, q3, q4, q5⟩ := hact
      obtain ⟨ab2, cb2, rfl, -, -⟩ := q1.row.gen.shape
      obtain ⟨ak2, ck2, rfl, -, -⟩ := (OwnL.row q2).shape
      obtain ⟨at2, ct2, rfl, -, -⟩ := (OwnS.row q3).shape tqC_len
      have hai : ActI w5 (.slice ab2 bs.length cb2) (.slice ak2 keep.length ck2) (.slice at2 acc.length ct2) bs keep torn := ⟨q1.row, OwnL.row q2, acc, OwnS.row q3, fun y hy => (q4 y hy).1, q5⟩
      have hb5w := HB4.out.trans (hb5.mono HB4.out.size)
      obtain ⟨W6, hW6⟩ : ∃ W6, W6 = w5.alloc (.cells #[.int .i64 k, .int .i64 a, .int .i64 b, .int .i64 c, .int .i64 n, .slice ab2 bs.length cb2, .slice ak2 keep.length ck2, .slice at2 acc.length ct2] 26) := ⟨_, rfl⟩
      obtain ⟨g6, hg6⟩ : ∃ g, g = w5.heap.size := ⟨_, rfl⟩
      have hba : Below w5.heap.size w5 W6 := by rw [hW6]; exact (Below.refl _ _).alloc (Nat.le_refl _) _
      have hb6 : Below W0.heap.size W0 W6 := hb5w.trans (hba.mono hb5w.size)
      have hc6 : CellsAt W6 g6 26 #[.int .i64 k, .int .i64 a, .int .i64 b, .int .i64 c, .int .i64 n, .slice ab2 bs.length cb2, .slice ak2 keep.length ck2, .slice at2 acc.length ct2] := by rw [hW6, hg6]; exact CellsAt.new w5 _ _
      obtain ⟨c0, c1, c2, c3, c4, c5, c6, c7⟩ := HC.out W6 hb6
      obtain ⟨d0, d1, d2, d3, d4, d5, d6, d7⟩ : W6.cell? ⟨g6, 0, none⟩ = some (.int .i64 k) ∧ W6.cell? ⟨g6, 1, none⟩ = some (.int .i64 a) ∧ W6.cell? ⟨g6, 2, none⟩ = some (.int .i64 b) ∧ W6.cell? ⟨g6, 3, none⟩ = some (.int .i64 c) ∧ W6.cell? ⟨g6, 4, none⟩ = some (.int .i64 n) ∧ W6.cell? ⟨g6, 5, none⟩ = some (.slice ab2 bs.length cb2) ∧ W6.cell? ⟨g6, 6, none⟩ = some (.slice ak2 keep.length ck2) ∧ W6.cell? ⟨g6, 7, none⟩ = some (.slice at2 acc.length ct2) :=
        ⟨hc6.cell 0 rfl, hc6.cell 1 rfl, hc6.cell 2 rfl, hc6.cell 3 rfl, hc6.cell 4 rfl, hc6.cell 5 rfl, hc6.cell 6 rfl, hc6.cell 7 rfl⟩
      have hsm := same_any (k := k) (a := a) (b := b) (c := c) (n := n) (k' := k) (a' := a) (b' := b) (c' := c) (n' := n) (HAI.out W6 hb6) (hai.stays hba) HM.out.1 HM.out.1 HM.out.2 HM.out.2
      rw [(sameA_iff _ _).2 rfl] at hsm
      have HSM := Lib.hid hsm
      have HB6 := Lib.hid hb6
      have HW := Lib.hid hW6
      have HG := Lib.hid hg6
      clear h1 HPA q1 q2 q3 q4 q5 hai hb5 hb5w hba hb6 hc6 hsm hW6 hg6
      unfold acCells
      go_upto_region 6 with fail
      rw [← HW.out, ← HG.out]
      clear HW HG
      go_wp2_with fail
      refine HSM.out.mono ?_
      rintro e w7 ⟨rfl, hb7⟩
      have HB7 := Lib.hid (HB6.out.trans (hb7.mono HB6.out.size))
      clear HSM hb7
      go_wp2_with fail
      go_ret
      exact ⟨rfl, HB.out.trans (HB7.out.mono HB.out.size)⟩
end Go.Proofs.YtbcpciegdmminaaDoor
