/- The document's super.Write and Choose, walked. -/
import Derived.Test.YtgehbabcpmkgaaaDoorDkZ
import Derived.Test.YtgehbabcpmkgaaaDoorDkQ
import Derived.Test.YtgehbabcpmkgaaaDoorWSuperBlocks
namespace Go.Proofs.YtgehbabcpmkgaaaDoor
open Go Go.RowKit
set_option linter.unusedVariables false
set_option maxRecDepth 100000 in
set_option maxHeartbeats 2000000 in
theorem rswrite_any {w : World} {B h N : Nat} {d : Dm} (r : Rd2 w B h N d) (hok : d.Ok) (hB : B ≤ w.heap.size) (hN : N + 1 ≤ 1000000) (s : Int) (hs1 : -9223372036854775808 ≤ s) (hs2 : s ≤ 9223372036854775807) (G Bn : Nat) (hh he : Int) (hG : G ≤ 4294967295) (hBn : Bn ≤ 4294967295) (hh1 : -9223372036854775808 ≤ hh) (hh2 : hh ≤ 9223372036854775807) (he1 : -9223372036854775808 ≤ he) (he2 : he ≤ 9223372036854775807) (hw : d.writes + 1 ≤ 1000000) :
    Calls Tryd.prog 68 #[.pointer (some ⟨h, 0, none⟩), .int .i64 s, .agg #[.int .u32 G, .int .u32 Bn, .int .i64 hh, .int .i64 he]] w fun e w' => e = .returned (.int .i64 (swK d s G Bn hh he)) ∧ Rd2 w' B h (N + 1) (swM d s G Bn hh he) ∧ Grew [h] w w' := by
  have hb0 : Below w.heap.size w (w.alloc (.cells #[.int .u32 G, .int .u32 Bn, .int .i64 hh, .int .i64 he] 52)) := (Below.refl _ _).alloc (Nat.le_refl _) _
  have hc0 := CellsAt.new w #[.int .u32 G, .int .u32 Bn, .int .i64 hh, .int .i64 he] 52
  have HK : Hid (∀ W, Below w.heap.size w W → Rd2 W B h N d) := fun W hW => r.stays hW
  have HB0 := Lib.hid hb0
  have HC0 := Lib.hid hc0
  have hbad : (s < 0 ∨ 2 ≤ s ∨ blkR G Bn hh he = false) → swK d s G Bn hh he = 1 ∧ swM d s G Bn hh he = d := fun h => ⟨if_pos h, if_pos h⟩
  have hR := rsRight_any G Bn hh he (w.alloc (.cells #[.int .u32 G, .int .u32 Bn, .int .i64 hh, .int .i64 he] 52)) hBn hh1 hh2 he1 he2
  by_cases hsl : s < 0 ∨ 2 ≤ s
  · have HZ := Lib.hid (hbad (by omega))
    have n0 : ((s : Int) != 0) = true := by simp; omega
    have n1 : ((s : Int) != 1) = true := by simp; omega
    clear r hb0 hc0 hbad hsl hR
    go_enter Tryd.func68, Tryd.ntmps68
    go_wp2_with fail
    go_ret
    exact ⟨ret1 (by rw [HZ.out.1]; rfl), by rw [HZ.out.2]; exact (HK.out _ HB0.out).mono (Nat.le_add_right _ _) hN, Grew.ofBelow HB0.out⟩
  · have hgd : (((s : Int) != 0) && ((s : Int) != 1)) = false := by
      have : s = 0 ∨ s = 1 := by omega
      rcases this with rfl | rfl <;> rfl
    have hs01 : (((s : Int) != 0) = false) ∨ (((s : Int) != 0) = true ∧ ((s : Int) != 1) = false) := by
      have : s = 0 ∨ s = 1 := by omega
      rcases this with rfl | rfl
      · exact .inl rfl
      · exact .inr ⟨rfl, rfl⟩
    cases hRt : blkR G Bn hh he with
    | false =>
      have HZ := Lib.hid (hbad (.inr (.inr hRt)))
      rw [hRt] at hR
      have HR := Lib.hid hR
      clear r hb0 hc0 hbad hR hRt hgd
      rcases hs01 with n0 | ⟨n0, n1⟩
      all_goals
        go_enter Tryd.func68, Tryd.ntmps68
        go_wp2_with fail
        refine HR.out.mono ?_
        rintro e w1 ⟨rfl, hb1⟩
        have hbe1 := HB0.out.trans (hb1.mono HB0.out.size)
        go_wp2_with fail
        go_ret
        exact ⟨ret1 (by rw [HZ.out.1]; rfl), by rw [HZ.out.2]; exact (HK.out _ hbe1).mono (Nat.le_add_right _ _) hN, Grew.ofBelow hbe1⟩
    | true =>
      obtain ⟨r1, r2, r3, r4, r5, r6⟩ := blkR_true hRt
      obtain ⟨hn, rfl⟩ := Int.eq_ofNat_of_zero_le r3
      obtain ⟨en, rfl⟩ := Int.eq_ofNat_of_zero_le (show 0 ≤ he by omega)
      have hgood : swK d s G Bn hn en = (if writeK d s (blkS G Bn hn en) ≠ 0 then writeK d s (blkS G Bn hn en) else syncK (writeM d s (blkS G Bn hn en))) ∧ swM d s G Bn hn en = (if writeK d s (blkS G Bn hn en) ≠ 0 then d else syncM (writeM d s (blkS G Bn hn en))) := by
        have hn : ¬ (s < 0 ∨ 2 ≤ s ∨ blkR G Bn hn en = false) := by rw [hRt]; simp; omega
        exact ⟨if_neg hn, if_neg hn⟩
      have HBY : Hid (∀ W, Calls Tryd.prog 39 #[.agg #[.int .u32 G, .int .u32 Bn, .int .i64 hn, .int .i64 en]] W fun e' w' => e' = .returned (.string (strB (blkS G Bn hn en))) ∧ Below W.heap.size W w') := fun W => rsBytes_any G Bn hn en W hG (by omega) (by omega) (by omega)
      have hXl := blkS_len G Bn hn en
      obtain ⟨X, hX⟩ : ∃ X, X = blkS G Bn hn en := ⟨_, rfl⟩
      rw [← hX] at hgood hXl
      simp only [← hX] at HBY
      have HGD := Lib.hid hgood
      have HXL := Lib.hid hXl
      rw [hRt] at hR
      have HR := Lib.hid hR
      have HOK := Lib.hid hok
      have hOKf1 := hok.fuse1
      have hOKf2 := hok.fuse2
      clear r hb0 hc0 hbad hR hRt hgd hgood hXl hX hok hsl
      rcases hs01 with n0 | ⟨n0, n1⟩
      all_goals
        go_enter Tryd.func68, Tryd.ntmps68
        go_wp2_with fail
        refine HR.out.mono ?_
        rintro e w1 ⟨rfl, hb1⟩
        have hbe1 := HB0.out.trans (hb1.mono HB0.out.size)
        have hc1 := HC0.out.stays hb1
        have a0 := hc1.cell 0 (v := .int .u32 G) rfl
        have a1 := hc1.cell 1 (v := .int .u32 Bn) rfl
        have a2 := hc1.cell 2 (v := .int .i64 hn) rfl
        have a3 := hc1.cell 3 (v := .int .i64 en) rfl
        clear hb1 hc1
        go_wp2_with fail
        refine (HBY.out _).mono ?_
        rintro e w2 ⟨rfl, hb2⟩
        have hbe2 := hbe1.trans (hb2.mono hbe1.size)
        have hW := rwrite_any (HK.out w2 hbe2) (by have := hbe2.size; omega) hN (x := s) hs1 hs2 X (by rw [HXL.out]; decide) hw hOKf2 hOKf1
        have HBE := Lib.hid hbe2
        clear hb2 hbe1 hbe2 a0 a1 a2 a3
        by_cases hw0 : writeK d s X = 0
        · rw [hw0] at hW
          have HW := Lib.hid hW
          have HG2 := HGD.out
          rw [if_neg (by rw [hw0]; simp), if_neg (by rw [hw0]; simp)] at HG2
          have HG2 := Lib.hid HG2
          clear hW hw0 HGD
          go_wp2_with fail
          refine HW.out.mono ?_
          rintro e' w3 ⟨rfl, hr3, hg3⟩
          have hgr3 := (Grew.ofBelow (S := [h]) HBE.out).trans hg3
          have HS := Lib.hid (rsync_any hr3 (by have := hgr3.size; omega))
          clear hr3 hg3 HW
          go_wp2_with fail
          refine HS.out.mono ?_
          rintro e' w4 ⟨rfl, hr4, hg4⟩
          go_wp2_with fail
          go_ret
          exact ⟨ret1 (by rw [HG2.out.1]; rfl), by rw [HG2.out.2]; exact hr4, hgr3.trans hg4⟩
        · have HG2 := HGD.out
          rw [if_pos hw0, if_pos hw0] at HG2
          have HG2 := Lib.hid HG2
          have HN0 := Lib.hid (writeM_bad hw0)
          obtain ⟨L, hL⟩ : ∃ L, L = writeK d s X := ⟨_, rfl⟩
          rw [← hL] at hW hw0 HG2
          have hLb : ((L : Int) != 0) = true := by simpa using hw0
          have HW := Lib.hid hW
          clear hW hw0 HGD hL
          go_wp2_with fail
          refine HW.out.mono ?_
          rintro e' w3 ⟨rfl, hr3, hg3⟩
          have hr3' : Rd2 w3 B h (N + 1) d := by rw [HN0.out] at hr3; exact hr3
          go_wp2_with fail
          go_ret
          exact ⟨ret1 (by rw [HG2.out.1]; rfl), by rw [HG2.out.2]; exact hr3', (Grew.ofBelow (S := [h]) HBE.out).trans hg3⟩
def rblkV (d : Dm) : Value := .agg #[.int .u32 (chB d 4), .int .u32 (chB d 8), .int .i64 (chB d 12), .int .i64 (chB d 16)]
def RChose (d : Dm) (w : World) (e : Ending) (w' : World) : Prop := e = .returned (.tuple #[rblkV d, .int .i64 (chS d), .int .i64 (chK d)]) ∧ Below w.heap.size w w'
theorem RChose.bad {d : Dm} {w w' : World} (k : Int) (hk : (chK d : Int) = k) (h0 : k ≠ 0) (hb : Below w.heap.size w w') : RChose d w (.returned (.tuple #[.agg #[.int .u32 0, .int .u32 0, .int .i64 0, .int .i64 0], .int .i64 0, .int .i64 k])) w' := by
  refine ⟨?_, hb⟩
  have hne : ¬ chK d = 0 := by omega
  unfold rblkV chB chS
  rw [if_neg hne, if_neg hne, if_neg hne, if_neg hne, if_neg hne, hk]; rfl
theorem RChose.good {d : Dm} {w w' : World} (hk : chK d = 0) (j : Nat) (hj : bestN d 2 = some j) (hb : Below w.heap.size w w') (n0 n1 n2 n3 : Nat) (h0 : n0 = supB (getV d (j : Int)) 4) (h1 : n1 = supB (getV d (j : Int)) 8) (h2 : n2 = supB (getV d (j : Int)) 12) (h3 : n3 = supB (getV d (j : Int)) 16) :
    RChose d w (.returned (.tuple #[.agg #[.int .u32 n0, .int .u32 n1, .int .i64 n2, .int .i64 n3], .int .i64 j, .int .i64 0])) w' := by
  refine ⟨?_, hb⟩
  unfold rblkV chB chS
  rw [if_pos hk, if_pos hk, if_pos hk, if_pos hk, if_pos hk, hk, hj, h0, h1, h2, h3]; rfl
end Go.Proofs.YtgehbabcpmkgaaaDoor
