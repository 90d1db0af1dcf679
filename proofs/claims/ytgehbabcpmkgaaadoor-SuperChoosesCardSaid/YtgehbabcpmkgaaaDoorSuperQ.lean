/- The reference's super Parse. -/
import Derived.Test.YtgehbabcpmkgaaaDoorSuperP
import Derived.Test.YtgehbabcpmkgaaaDoorCrcR
import Derived.Test.YtgehbabcpmkgaaaDoorAskR
import Derived.Laws.IdiomStrings
namespace Go.Proofs.YtgehbabcpmkgaaaDoor
open Go Go.RowKit
set_option linter.unusedVariables false
/-- []byte(s) -/
theorem conv_bytes (bs : List UInt8) (w : World) (hl : bs.length ≤ 1000000) : ∃ (v : Value) (w1 : World), (convert 9 23 (.string (strB bs))).run Tryd.prog w = .ok v w1 ∧ RowB w1 v bs ∧ Below w.heap.size w w1 := by
  have hsz := strB_size bs
  have hrun := run_bytes_of_string (P := Tryd.prog) w 9 23 5 (strB bs) Tryd.underlying9 Tryd.underlying23 Tryd.underlying5
  have hge := grownCap_ge w (strB bs).size 0 5
  have hle := grownCap_le_maxLen w (strB bs).size 0 5 (by rw [hsz]; unfold maxLen; omega)
  generalize grownCap w (strB bs).size 0 5 = C at *
  refine ⟨_, _, hrun, ?_, ((Below.refl _ _).drew).alloc (Nat.le_refl _) _⟩
  rw [hsz] at hge ⊢
  have hh := heap_alloc_new w.drew (.cells (bytesRow (strB bs) C) 5 ((bytesRow (strB bs) C).size, (bytesRow (strB bs) C).size + 1))
  refine .inr ⟨w.heap.size, 0, C, rfl, hge, hle, lt_of_block hh, fun j u hu => ?_⟩
  rw [Nat.zero_add]
  refine (cell_of_row _ _ _ _ _ _ hh).trans ?_
  rw [List.getElem?_map] at hu
  obtain ⟨x, hx, rfl⟩ := Option.map_eq_some_iff.1 hu
  obtain ⟨hj, rfl⟩ := List.getElem?_eq_some_iff.1 hx
  rw [bytesRow_at (strB bs) C j (by simpa [strB] using hj)]
  simp [strB, BV]
theorem openK24_iff {bs : List UInt8} (h : ¬ bs.length < 24) : openK (bs.take 24) = 0 ↔ csum (bs.take 20) = fixedV ((bs.drop 20).take 4) := by
  have h24 : (bs.take 24).length = 24 := by simp; omega
  have e1 : (bs.take 24).drop ((bs.take 24).length - 4) = (bs.drop 20).take 4 := by rw [h24, List.drop_take]
  have e2 : (bs.take 24).take ((bs.take 24).length - 4) = bs.take 20 := by rw [h24, List.take_take]; rfl
  unfold openK
  rw [if_neg (by omega), e1, e2]
  constructor
  · intro h
    split at h
    · rename_i h2; exact h2.symm
    · cases h
  · intro h; rw [if_pos h.symm]
theorem strB_take (bs : List UInt8) (n : Nat) : (strB bs).extract 0 n = strB (bs.take n) := by
  apply ByteArray.ext
  simp [strB, ByteArray.data_extract]
set_option maxRecDepth 100000 in
set_option maxHeartbeats 2000000 in
theorem rsParse_any (bs : List UInt8) (w : World) (hlen : bs.length ≤ 1000000) :
    Calls Tryd.prog 40 #[.string (strB bs)] w fun e w' => e = .returned (.tuple #[.agg #[.int .u32 (supB bs 4), .int .u32 (supB bs 8), .int .i64 (supB bs 12), .int .i64 (supB bs 16)], .int .i64 (supK bs)]) ∧ Below w.heap.size w w' := by
  have hb0 : Below w.heap.size w (w.alloc (.cells #[.int .u32 0, .int .u32 0, .int .i64 0, .int .i64 0] 52)) := (Below.refl _ _).alloc (Nat.le_refl _) _
  have hc0 := CellsAt.new w #[.int .u32 0, .int .u32 0, .int .i64 0, .int .i64 0] 52
  have hsz := strB_size bs
  by_cases hl : bs.length < 24
  · have hK : supK bs = 2 := if_pos hl
    have HZ : Hid (.returned (.tuple #[.agg #[.int .u32 0, .int .u32 0, .int .i64 0, .int .i64 0], .int .i64 2]) = Ending.returned (.tuple #[.agg #[.int .u32 (supB bs 4), .int .u32 (supB bs 8), .int .i64 (supB bs 12), .int .i64 (supB bs 16)], .int .i64 (supK bs)])) := by
      show _ = _
      rw [supB_bad (by rw [hK]; decide), supB_bad (by rw [hK]; decide), supB_bad (by rw [hK]; decide), supB_bad (by rw [hK]; decide), hK]; rfl
    have HB := Lib.hid hb0
    have hli : (bs.length : Int) < 24 := by omega
    clear hK hb0 hc0
    go_enter Tryd.func40, Tryd.ntmps40
    go_wp2_with fail
    exact bodyPost_ret (v := .tuple #[.agg #[.int .u32 0, .int .u32 0, .int .i64 0, .int .i64 0], .int .i64 2]) (by simp [results, Tryd.results40, go_sem]) rfl ⟨HZ.out, HB.out⟩
  · obtain ⟨vB, w1, hcv, hrB, hb1⟩ := conv_bytes bs (w.alloc (.cells #[.int .u32 0, .int .u32 0, .int .i64 0, .int .i64 0] 52)) hlen
    have hc1 := hc0.stays hb1
    have hbe1 := hb0.trans (hb1.mono hb0.size)
    have hli : (24 : Int) ≤ bs.length := by omega
    have hn20 : 20 ≤ bs.length := by omega
    have HROW : Hid (∀ w', Below w1.heap.size w1 w' → RowB w' vB bs) := fun w' hb => hrB.stays hb
    have HIFF := Lib.hid (openK24_iff hl)
    have HBS := Lib.hid hl
    obtain ⟨aB, cB, rfl, -, -⟩ := hrB.gen.shape
    have hSl := csum_lt (bs.take 20)
    obtain ⟨S, hS⟩ : ∃ S, S = csum (bs.take 20) := ⟨_, rfl⟩
    obtain ⟨F, hF⟩ : ∃ F, F = fixedV ((bs.drop 20).take 4) := ⟨_, rfl⟩
    rw [← hS, ← hF] at HIFF
    rw [← hS] at hSl
    have hSi : (S : Int) ≤ 4294967295 := by omega
    have HF20 := rfixed_any _ bs 20 4 w1 hrB hlen (by decide) (by omega)
    rw [← hF, show ((20 : Nat) : Int) = 20 from rfl, show ((4 : Nat) : Int) = 4 from rfl] at HF20
    have HF20 := Lib.hid HF20
    have HSe := Lib.hid hS
    clear hl hb0 hc0 hb1 hrB hS hF hSl
    go_enter Tryd.func40, Tryd.ntmps40
    go_wp2_with (refine wpList_sliceTo (o := ⟨some 13, _, _, _, _, _⟩) (f := BV) (HROW.out w1 (Below.refl _ _)) 20 hn20 Tryd.underlying23 infoB rfl _ _ rfl rfl .i64 20 rfl rfl ?_)
    intro v13 hr13
    have HSm := rsum_any v13 (bs.take 20) w1 hr13 (by simp; omega)
    rw [← HSe.out] at HSm
    have HSm := Lib.hid HSm
    clear hr13 hcv
    by_cases hq : S = F
    · have hsf : ((S : Int) != (F : Int)) = false := by simp; omega
      have hK0 := HIFF.out.2 hq
      have HOK := Lib.hid hK0
      clear hq hK0 HIFF
      go_wp2_with fail
      refine HSm.out.mono ?_
      rintro e w2 ⟨rfl, rfl⟩
      clear HSm
      go_wp2_with fail
      refine HF20.out.mono ?_
      rintro e w2 ⟨rfl, rfl⟩
      clear HF20
      have hF0 := rfixed_any _ bs 4 4 w1 (HROW.out _ (Below.refl _ _)) hlen (by decide) (by omega)
      have hF1 := rfixed_any _ bs 8 4 w1 (HROW.out _ (Below.refl _ _)) hlen (by decide) (by omega)
      have hF2 := rfixed_any _ bs 12 4 w1 (HROW.out _ (Below.refl _ _)) hlen (by decide) (by omega)
      have hF3 := rfixed_any _ bs 16 4 w1 (HROW.out _ (Below.refl _ _)) hlen (by decide) (by omega)
      rw [show fixedV ((bs.drop 4).take 4) = num4 bs 4 from rfl, show ((4 : Nat) : Int) = 4 from rfl] at hF0
      rw [show fixedV ((bs.drop 8).take 4) = num4 bs 8 from rfl, show ((4 : Nat) : Int) = 4 from rfl, show ((8 : Nat) : Int) = 8 from rfl] at hF1
      rw [show fixedV ((bs.drop 12).take 4) = num4 bs 12 from rfl, show ((4 : Nat) : Int) = 4 from rfl, show ((12 : Nat) : Int) = 12 from rfl] at hF2
      rw [show fixedV ((bs.drop 16).take 4) = num4 bs 16 from rfl, show ((4 : Nat) : Int) = 4 from rfl, show ((16 : Nat) : Int) = 16 from rfl] at hF3
      have H0 := Lib.hid hF0
      have H1 := Lib.hid hF1
      have H2 := Lib.hid hF2
      have H3 := Lib.hid hF3
      have l0 := num4_le bs 4
      have l1 := num4_le bs 8
      have l2 := num4_le bs 12
      have l3 := num4_le bs 16
      have HSK : Hid (supK bs = if bs.take 4 = [82, 68, 76, 49] ∧ blkR (num4 bs 4) (num4 bs 8) (num4 bs 12) (num4 bs 16) = true then 0 else 9) := by
        show _ = _
        unfold supK
        rw [if_neg HBS.out, if_neg (by rw [HOK.out]; decide)]
      have HSB : Hid ((supB bs 4 = if supK bs = 0 then num4 bs 4 else 0) ∧ (supB bs 8 = if supK bs = 0 then num4 bs 8 else 0) ∧ (supB bs 12 = if supK bs = 0 then num4 bs 12 else 0) ∧ (supB bs 16 = if supK bs = 0 then num4 bs 16 else 0)) := ⟨rfl, rfl, rfl, rfl⟩
      clear hF0 hF1 hF2 hF3
      generalize num4 bs 4 = n0 at *
      generalize num4 bs 8 = n1 at *
      generalize num4 bs 12 = n2 at *
      generalize num4 bs 16 = n3 at *
      have li0 : (n0 : Int) ≤ 4294967295 := by omega
      have li1 : (n1 : Int) ≤ 4294967295 := by omega
      have li2 : (n2 : Int) ≤ 4294967295 := by omega
      have li3 : (n3 : Int) ≤ 4294967295 := by omega
      have hex := strB_take bs 4
      have hsz4 : (strB (bs.take 4)).toList = bs.take 4 := by rw [ByteArray.toList_eq]; simp [strB]
      go_wp2_with fail
      refine H0.out.mono ?_
      rintro e w2 ⟨rfl, rfl⟩
      clear H0
      go_wp2_with fail
      refine H1.out.mono ?_
      rintro e w2 ⟨rfl, rfl⟩
      clear H1
      go_wp2_with fail
      refine H2.out.mono ?_
      rintro e w2 ⟨rfl, rfl⟩
      clear H2
      go_wp2_with fail
      refine H3.out.mono ?_
      rintro e w2 ⟨rfl, rfl⟩
      clear H3
      have ha : Below w1.heap.size w1 (w1.alloc (.cells #[.int .u32 n0, .int .u32 n1, .int .i64 n2, .int .i64 n3] 52)) := (Below.refl _ _).alloc (Nat.le_refl _) _
      have hcB := CellsAt.new w1 #[.int .u32 n0, .int .u32 n1, .int .i64 n2, .int .i64 n3] 52
      have hc5 := hc1.stays ha
      have hbe5 := hbe1.trans (ha.mono hbe1.size)
      have HRT := rsRight_any n0 n1 n2 n3 (w1.alloc (.cells #[.int .u32 n0, .int .u32 n1, .int .i64 n2, .int .i64 n3] 52)) (by omega) (by omega) (by omega) (by omega) (by omega)
      have HC1 := Lib.hid hc1
      have HB1 := Lib.hid hbe1
      have HC5 := Lib.hid hc5
      have HCB := Lib.hid hcB
      have HBE5 := Lib.hid hbe5
      have hw1 := hbe1.size
      clear hc1 hbe1 ha hc5 hcB hbe5
      by_cases hmag : bs.take 4 = [82, 68, 76, 49]
      · have hq4 : ((bs.take 4) == [82, 68, 76, 49]) = true := by rw [hmag]; decide
        by_cases hR : blkR n0 n1 n2 n3 = true
        · have hK0 : supK bs = 0 := by rw [HSK.out, if_pos ⟨hmag, hR⟩]
          have hS := HSB.out
          rw [hK0, if_pos rfl, if_pos rfl, if_pos rfl, if_pos rfl] at hS
          have HZ : Hid (.returned (.tuple #[.agg #[.int .u32 n0, .int .u32 n1, .int .i64 n2, .int .i64 n3], .int .i64 0]) = Ending.returned (.tuple #[.agg #[.int .u32 (supB bs 4), .int .u32 (supB bs 8), .int .i64 (supB bs 12), .int .i64 (supB bs 16)], .int .i64 (supK bs)])) := by
            show _ = _
            rw [hS.1, hS.2.1, hS.2.2.1, hS.2.2.2, hK0]; rfl
          rw [hR] at HRT
          have HRT := Lib.hid HRT
          clear hS hK0 hR HSK HSB hmag
          go_wp2_with fail
          refine HRT.out.mono ?_
          rintro e w6 ⟨rfl, hb6⟩
          have hc6 := HC5.out.stays hb6
          have hcB6 := HCB.out.stays hb6
          have hbe6 := HBE5.out.trans (hb6.mono HBE5.out.size)
          have b0 := hcB6.cell 0 (v := .int .u32 n0) rfl
          have b1 := hcB6.cell 1 (v := .int .u32 n1) rfl
          have b2 := hcB6.cell 2 (v := .int .i64 n2) rfl
          have b3 := hcB6.cell 3 (v := .int .i64 n3) rfl
          have c0 := hc6.cell 0 (v := .int .u32 0) rfl
          have c1 := hc6.cell 1 (v := .int .u32 0) rfl
          have c2 := hc6.cell 2 (v := .int .i64 0) rfl
          have c3 := hc6.cell 3 (v := .int .i64 0) rfl
          have f0 := hc6.free 0
          have f1 := hc6.free 1
          have f2 := hc6.free 2
          have f3 := hc6.free 3
          have hsz2 := hc6.lt
          clear HRT hb6 hc6 hcB6
          go_wp2_with fail
          exact bodyPost_ret (v := .tuple #[.agg #[.int .u32 n0, .int .u32 n1, .int .i64 n2, .int .i64 n3], .int .i64 0]) (by simp [results, Tryd.results40, go_sem, c0, c1, c2, c3]) rfl ⟨HZ.out, (((hbe6.setCell (Nat.le_refl _) _).setCell (Nat.le_refl _) _).setCell (Nat.le_refl _) _).setCell (Nat.le_refl _) _⟩
        · have hK : supK bs = 9 := by rw [HSK.out, if_neg (fun h => hR h.2)]
          have HZ : Hid (.returned (.tuple #[.agg #[.int .u32 0, .int .u32 0, .int .i64 0, .int .i64 0], .int .i64 9]) = Ending.returned (.tuple #[.agg #[.int .u32 (supB bs 4), .int .u32 (supB bs 8), .int .i64 (supB bs 12), .int .i64 (supB bs 16)], .int .i64 (supK bs)])) := by
            show _ = _
            rw [supB_bad (by rw [hK]; decide), supB_bad (by rw [hK]; decide), supB_bad (by rw [hK]; decide), supB_bad (by rw [hK]; decide), hK]; rfl
          have hR' : blkR n0 n1 n2 n3 = false := by simpa using hR
          rw [hR'] at HRT
          have HRT := Lib.hid HRT
          clear hK hR hR' HSK HSB hmag
          go_wp2_with fail
          refine HRT.out.mono ?_
          rintro e w6 ⟨rfl, hb6⟩
          have hc6 := HC5.out.stays hb6
          have hbe6 := HBE5.out.trans (hb6.mono HBE5.out.size)
          have c0 := hc6.cell 0 (v := .int .u32 0) rfl
          have c1 := hc6.cell 1 (v := .int .u32 0) rfl
          have c2 := hc6.cell 2 (v := .int .i64 0) rfl
          have c3 := hc6.cell 3 (v := .int .i64 0) rfl
          have f0 := hc6.free 0
          have f1 := hc6.free 1
          have f2 := hc6.free 2
          have f3 := hc6.free 3
          have hsz2 := hc6.lt
          clear HRT hb6 hc6
          go_wp2_with fail
          exact bodyPost_ret (v := .tuple #[.agg #[.int .u32 0, .int .u32 0, .int .i64 0, .int .i64 0], .int .i64 9]) (by simp [results, Tryd.results40, go_sem, c0, c1, c2, c3]) rfl ⟨HZ.out, (((hbe6.setCell (Nat.le_refl _) _).setCell (Nat.le_refl _) _).setCell (Nat.le_refl _) _).setCell (Nat.le_refl _) _⟩
      · have hq4 : ((bs.take 4) == [82, 68, 76, 49]) = false := by simpa using hmag
        have hK : supK bs = 9 := by rw [HSK.out, if_neg (fun h => hmag h.1)]
        have HZ : Hid (.returned (.tuple #[.agg #[.int .u32 0, .int .u32 0, .int .i64 0, .int .i64 0], .int .i64 9]) = Ending.returned (.tuple #[.agg #[.int .u32 (supB bs 4), .int .u32 (supB bs 8), .int .i64 (supB bs 12), .int .i64 (supB bs 16)], .int .i64 (supK bs)])) := by
          show _ = _
          rw [supB_bad (by rw [hK]; decide), supB_bad (by rw [hK]; decide), supB_bad (by rw [hK]; decide), supB_bad (by rw [hK]; decide), hK]; rfl
        have hc6 := HC1.out
        have g0 := HC5.out.free 0
        have g1 := HC5.out.free 1
        have g2 := HC5.out.free 2
        have g3 := HC5.out.free 3
        have d0 := HC5.out.cell 0 (v := .int .u32 0) rfl
        have d1 := HC5.out.cell 1 (v := .int .u32 0) rfl
        have d2 := HC5.out.cell 2 (v := .int .i64 0) rfl
        have d3 := HC5.out.cell 3 (v := .int .i64 0) rfl
        have hbe6 := HBE5.out
        have c0 := hc6.cell 0 (v := .int .u32 0) rfl
        have c1 := hc6.cell 1 (v := .int .u32 0) rfl
        have c2 := hc6.cell 2 (v := .int .i64 0) rfl
        have c3 := hc6.cell 3 (v := .int .i64 0) rfl
        have f0 := hc6.free 0
        have f1 := hc6.free 1
        have f2 := hc6.free 2
        have f3 := hc6.free 3
        have hsz2 := hc6.lt
        clear HRT hK HSK HSB hmag hc6
        go_wp2_with fail
        have hcZ := ((((HC1.out.set 0 (.int .u32 0)).set 1 (.int .u32 0)).set 2 (.int .i64 0)).set 3 (.int .i64 0)).stays ((Below.refl _ _).alloc (Nat.le_refl _) (.cells #[.int .u32 n0, .int .u32 n1, .int .i64 n2, .int .i64 n3] 52))
        have z0 := hcZ.cell 0 (v := .int .u32 0) rfl
        have z1 := hcZ.cell 1 (v := .int .u32 0) rfl
        have z2 := hcZ.cell 2 (v := .int .i64 0) rfl
        have z3 := hcZ.cell 3 (v := .int .i64 0) rfl
        exact bodyPost_ret (v := .tuple #[.agg #[.int .u32 0, .int .u32 0, .int .i64 0, .int .i64 0], .int .i64 9]) (by simp only [results, Tryd.results40]; simp [go_sem, z0, z1, z2, z3]) rfl ⟨HZ.out, ((((HB1.out.setCell (Nat.le_refl _) _).setCell (Nat.le_refl _) _).setCell (Nat.le_refl _) _).setCell (Nat.le_refl _) _).alloc (by simp; omega) _⟩
    · have hsf : ((S : Int) != (F : Int)) = true := by simp; omega
      have hK : supK bs = 18 := by unfold supK; rw [if_neg HBS.out, if_pos (fun h => hq (HIFF.out.1 h))]
      have HZ : Hid (.returned (.tuple #[.agg #[.int .u32 0, .int .u32 0, .int .i64 0, .int .i64 0], .int .i64 18]) = Ending.returned (.tuple #[.agg #[.int .u32 (supB bs 4), .int .u32 (supB bs 8), .int .i64 (supB bs 12), .int .i64 (supB bs 16)], .int .i64 (supK bs)])) := by
        show _ = _
        rw [supB_bad (by rw [hK]; decide), supB_bad (by rw [hK]; decide), supB_bad (by rw [hK]; decide), supB_bad (by rw [hK]; decide), hK]; rfl
      have c0 := hc1.cell 0 (v := .int .u32 0) rfl
      have c1 := hc1.cell 1 (v := .int .u32 0) rfl
      have c2 := hc1.cell 2 (v := .int .i64 0) rfl
      have c3 := hc1.cell 3 (v := .int .i64 0) rfl
      have f0 := hc1.free 0
      have f1 := hc1.free 1
      have f2 := hc1.free 2
      have f3 := hc1.free 3
      have hsz := hc1.lt
      clear hK hq HIFF hc1
      go_wp2_with fail
      refine HSm.out.mono ?_
      rintro e w2 ⟨rfl, rfl⟩
      clear HSm
      go_wp2_with fail
      refine HF20.out.mono ?_
      rintro e w2 ⟨rfl, rfl⟩
      clear HF20
      go_wp2_with fail
      exact bodyPost_ret (v := .tuple #[.agg #[.int .u32 0, .int .u32 0, .int .i64 0, .int .i64 0], .int .i64 18]) (by simp [results, Tryd.results40, go_sem, c0, c1, c2, c3]) rfl ⟨HZ.out, (((hbe1.setCell (Nat.le_refl _) _).setCell (Nat.le_refl _) _).setCell (Nat.le_refl _) _).setCell (Nat.le_refl _) _⟩
end Go.Proofs.YtgehbabcpmkgaaaDoor
