/- PathGets: what stands at every path in every right value, and which paths are right (texts OpenP, PaO, PaP, PaR, PaW, merged by merge.py). -/
import Derived.Test.YtcjflglpkpkflaaGreatDoorOpenV
import Derived.Test.YtcjflglpkpkflaaGreatDoorPaE
import Derived.Test.YtcjflglpkpkflaaGreatDoorVp
import Derived.Deep.RegionHeld3
import Derived.Test.YtcjflglpkpkflaaGreatDoorVv
import Derived.Test.YtcjflglpkpkflaaGreatDoorPgA
import Derived.Deep.CutBlock
import Derived.Deep.DeepCutAuto
import Derived.Test.YtcjflglpkpkflaaGreatDoorPaJ
import Derived.Test.YtcjflglpkpkflaaGreatDoorVx
namespace Go.Proofs.YtcjflglpkpkflaaGreatDoor
open Go Go.RowKit Go.ChangeShapes Go.WideShapes Go.Deep
set_option linter.unusedVariables false
section
variable {H : Type} {enc : TypeId × Value → H} {w : World} {base : Nat} {held : Bool}
/-- a struct of four fields, whose fields are read at lesser fuel -/
theorem decFour {P : Program} {e : TypeId} {f0 f1 f2 f3 : Field} {n : Nat} {cs' : List Value} {y : DataW H × List MemPlace} {spare : Nat → Bool} (he : P.underlying e = some (.struct #[f0, f1, f2, f3]))
    (h : DataW.trod enc P w base spare held n e cs' = some y) : cs'.length = P.cellsOf e ∧ ∃ n', (∃ y, DataW.trod enc P w base spare held n' f0.type ((cs'.drop f0.offset).take (P.cellsOf f0.type)) = some y) ∧ (∃ y, DataW.trod enc P w base spare held n' f1.type ((cs'.drop f1.offset).take (P.cellsOf f1.type)) = some y) ∧ (∃ y, DataW.trod enc P w base spare held n' f2.type ((cs'.drop f2.offset).take (P.cellsOf f2.type)) = some y) ∧ ∃ y, DataW.trod enc P w base spare held n' f3.type ((cs'.drop f3.offset).take (P.cellsOf f3.type)) = some y := by
  obtain ⟨ys, n', hn', hy, hlen, hyl, hf⟩ := DataW.trod_struct he h
  match ys, hyl with
  | [y0, y1, y2, y3], _ => exact ⟨hlen, n', ⟨y0, hf 0 f0 rfl⟩, ⟨y1, hf 1 f1 rfl⟩, ⟨y2, hf 2 f2 rfl⟩, ⟨y3, hf 3 f3 rfl⟩⟩
theorem step_dec (n : Nat) (cs' : List Value) (y : DataW H × List MemPlace) (h : DataW.trod enc Tryz.prog w base (fun _ => true) held n 62 cs' = some y) : ∃ x : SQ, cs' = sC x ∧ RQ (fun _ => True) w x := by
  obtain ⟨hl, n', ⟨z0, h0⟩, ⟨z1, h1⟩, ⟨z2, h2⟩, ⟨z3, h3⟩⟩ := decFour Tryz.underlying62 h
  change DataW.trod enc Tryz.prog w base _ held n' 3 ((cs'.drop 0).take (Tryz.prog.cellsOf 3)) = _ at h0
  change DataW.trod enc Tryz.prog w base _ held n' 3 ((cs'.drop 1).take (Tryz.prog.cellsOf 3)) = _ at h1
  change DataW.trod enc Tryz.prog w base _ held n' 3 ((cs'.drop 2).take (Tryz.prog.cellsOf 3)) = _ at h2
  change DataW.trod enc Tryz.prog w base _ held n' 38 ((cs'.drop 3).take (Tryz.prog.cellsOf 38)) = _ at h3
  rw [cells_Int] at h0 h1 h2
  rw [cells_Value] at h3
  obtain ⟨k0, q0, -, w0⟩ := DataW.trod_int Tryz.underlying3 h0
  obtain ⟨k1, q1, -, w1⟩ := DataW.trod_int Tryz.underlying3 h1
  obtain ⟨k2, q2, -, w2⟩ := DataW.trod_int Tryz.underlying3 h2
  obtain ⟨⟨v, a⟩, hx, hr⟩ := open_V n' _ _ h3
  have hl10 : cs'.length = 10 := by rw [hl]; kernel_rfl
  refine ⟨(⟨k0, k1, k2, v⟩, a), ?_, ⟨bounds_i64 w0, bounds_i64 w1, bounds_i64 w2⟩, hr⟩
  have e0 : (cs'.drop 0).take 1 = [.int .i64 k0] := q0
  have e1 : (cs'.drop 1).take 1 = [.int .i64 k1] := q1
  have e2 : (cs'.drop 2).take 1 = [.int .i64 k2] := q2
  have e3 : (cs'.drop 3).take 7 = vC (v, a) := hx
  rw [List.drop_zero] at e0
  rw [List.take_of_length_le (by simp; omega)] at e3
  show cs' = .int .i64 k0 :: .int .i64 k1 :: .int .i64 k2 :: vC (v, a)
  have d1 : cs'.drop 1 = [.int .i64 k1] ++ cs'.drop 2 := by rw [← e1, show cs'.drop 2 = (cs'.drop 1).drop 1 by rw [List.drop_drop]]; exact (List.take_append_drop 1 _).symm
  have d2 : cs'.drop 2 = [.int .i64 k2] ++ cs'.drop 3 := by rw [← e2, show cs'.drop 3 = (cs'.drop 2).drop 1 by rw [List.drop_drop]]; exact (List.take_append_drop 1 _).symm
  rw [← List.take_append_drop 1 cs', e0, d1, d2, e3]; rfl
end
end Go.Proofs.YtcjflglpkpkflaaGreatDoor
namespace Go.Proofs.YtcjflglpkpkflaaGreatDoor
open Go Go.RowKit
set_option linter.unusedVariables false
theorem infoRS : (Tryz.prog.info? 84).map (fun i => (i.zero, i.size, i.bytes)) = some (some (.agg #[.int .i64 0, .int .i64 0, .int .i64 0, .int .i64 0, .int .u64 0, .string ⟨#[]⟩, .slice none 0 0, .string ⟨#[]⟩, .slice none 0 0, .slice none 0 0]), 10, 144) := by kernel_rfl
theorem likeQ : RepLike RQ := ⟨fun h hS => ⟨h.1, h.2.mono hS⟩, fun h => ⟨h.1, h.2.lt⟩, fun h hg hT => ⟨h.1, h.2.grew hg hT⟩⟩
/-- what Of answers of a path: the same steps, in blocks made since -/
def OfQ (p : List SQ) (w : World) (e : Ending) (w' : World) : Prop := ∃ (a : Option Addr) (c : Nat) (q : List SQ), e = .returned (.slice a q.length c) ∧ q.map Prod.fst = p.map Prod.fst ∧ OfR 84 10 sC RQ w.heap.size w' (.slice a q.length c) q ∧ Below w.heap.size w w'
section
variable {S : Nat → Prop} {w : World} {a : Option Addr} {c : Nat} {p : List SQ}
set_option maxRecDepth 100000 in
set_option maxHeartbeats 8000000 in
theorem ofpath_any (hr : PathR S w (.slice a p.length c) p) (hl : p.length ≤ 1000000) (hw : ∀ q ∈ p, wV q.1.v ≤ 1000000) : Calls Tryz.prog 17 #[.slice a p.length c] w (OfQ p w) := by
  have HR : Hid (∀ W, Below w.heap.size w W → PathR S W (.slice a p.length c) p) := fun W hb => hr.stays hb
  have HWV := Lib.hid hw
  clear hr hw
  go_enter Tryz.func17, Tryz.ntmps17
  go_wp2_with fail
  have HO0 : Hid (OfR 84 10 sC RQ w.heap.size (w.alloc (.cells #[] 84)) (.slice (some ⟨w.heap.size, 0, none⟩) 0 0) []) := ⟨World.ownsRow_made (base := w.heap.size) (e := 84) (size := 10) w #[] 0 (Nat.le_refl _) (Nat.zero_le _) rfl, fun q hq => by cases hq⟩
  have HB0 : Hid (Below w.heap.size w (w.alloc (.cells #[] 84))) := (Below.refl _ _).alloc (Nat.le_refl _) _
  go_loopw [3, 9] (fun v i wr => ∃ (m : Nat) (q : List SQ) (av : Option Addr) (cv : Nat), m ≤ p.length ∧ i = .int .i64 m ∧ v = .slice av m cv ∧ q.length = m ∧ Hid (q.map Prod.fst = (p.take m).map Prod.fst) ∧ Hid (OfR 84 10 sC RQ w.heap.size wr (.slice av m cv) q) ∧ Hid (Below w.heap.size w wr)) (fun _ i _ => p.length - (intOf i).toNat)
  case atStart => exact ⟨0, [], _, _, Nat.zero_le _, rfl, rfl, rfl, rfl, HO0.out, HB0.out⟩
  case round =>
    clear HO0 HB0
    obtain ⟨m, q, av, cv, hm, rfl, rfl, hqm, HM, HO, HBE⟩ := hrel
    by_cases h1 : m < p.length
    · obtain ⟨⟨⟨K, N, T, ⟨k', n', t', fs', r', ls', ps'⟩⟩, ⟨fa', fc', la', lc', pa', pc'⟩⟩, hq⟩ : ∃ x, p[m]? = some x := ⟨_, List.getElem?_eq_getElem h1⟩
      obtain ⟨bq, oq, rfl, hrx, x0, x1, x2, c0, c1, c2, c3, c4, c5, c6⟩ := (HR.out wr HBE.out).at hq
      obtain ⟨W1, hW1⟩ : ∃ W, W = wr.alloc (.cells #[.int .i64 K, .int .i64 N, .int .i64 T, .int .i64 k', .int .u64 (n' : Int), .string (strB t'), .slice fa' fs'.length fc', .string (strB r'), .slice la' ls'.length lc', .slice pa' ps'.length pc'] 62) := ⟨_, rfl⟩
      obtain ⟨g, hg⟩ : ∃ g, g = wr.heap.size := ⟨_, rfl⟩
      have hbA : Below wr.heap.size wr W1 := by rw [hW1]; exact (Below.refl _ _).alloc (Nat.le_refl _) _
      have hcx : CellsAt W1 g 62 #[.int .i64 K, .int .i64 N, .int .i64 T, .int .i64 k', .int .u64 (n' : Int), .string (strB t'), .slice fa' fs'.length fc', .string (strB r'), .slice la' ls'.length lc', .slice pa' ps'.length pc'] := by rw [hW1, hg]; exact CellsAt.new wr _ _
      have hwq := HWV.out _ (List.mem_of_getElem? hq)
      have HOF : Hid (∀ W, Below W1.heap.size W1 W → Calls _ _ _ W _) := fun W h => OfC.lit (of_any _) (hrx.2.stays (hbA.trans (h.mono hbA.size))) hwq
      have HO1 := Lib.hid (HO.out.below likeQ hbA)
      have hgw : w.heap.size ≤ W1.heap.size := Nat.le_trans HBE.out.size hbA.size
      have HGW := Lib.hid hgw
      have HB1 := Lib.hid (HBE.out.trans (hbA.mono HBE.out.size))
      have HS : Hid (∀ W, Below W1.heap.size W1 W → CellsAt W g 62 #[.int .i64 K, .int .i64 N, .int .i64 T, .int .i64 k', .int .u64 (n' : Int), .string (strB t'), .slice fa' fs'.length fc', .string (strB r'), .slice la' ls'.length lc', .slice pa' ps'.length pc'] ∧ OfR 84 10 sC RQ w.heap.size W (.slice av m cv) q ∧ w.heap.size ≤ W.heap.size) := fun W h => ⟨hcx.stays h, HO1.out.below likeQ h, Nat.le_trans hgw h.size⟩
      have HSC : Hid (∀ W, CellsAt W g 62 #[.int .i64 K, .int .i64 N, .int .i64 T, .int .i64 k', .int .u64 (n' : Int), .string (strB t'), .slice fa' fs'.length fc', .string (strB r'), .slice la' ls'.length lc', .slice pa' ps'.length pc'] → W.cell? ⟨g, 0, none⟩ = some (.int .i64 K) ∧ W.cell? ⟨g, 1, none⟩ = some (.int .i64 N) ∧ W.cell? ⟨g, 2, none⟩ = some (.int .i64 T) ∧ W.cell? ⟨g, 3, none⟩ = some (.int .i64 k') ∧ W.cell? ⟨g, 4, none⟩ = some (.int .u64 (n' : Int)) ∧ W.cell? ⟨g, 5, none⟩ = some (.string (strB t')) ∧ W.cell? ⟨g, 6, none⟩ = some (.slice fa' fs'.length fc') ∧ W.cell? ⟨g, 7, none⟩ = some (.string (strB r')) ∧ W.cell? ⟨g, 8, none⟩ = some (.slice la' ls'.length lc') ∧ W.cell? ⟨g, 9, none⟩ = some (.slice pa' ps'.length pc')) := fun W h1 => ⟨h1.cell 0 rfl, h1.cell 1 rfl, h1.cell 2 rfl, h1.cell 3 rfl, h1.cell 4 rfl, h1.cell 5 rfl, h1.cell 6 rfl, h1.cell 7 rfl, h1.cell 8 rfl, h1.cell 9 rfl⟩
      have HLT : Hid (∀ k, (Value.slice av m cv).ownBlock = some k → k < g) := fun k hk => by rw [hg]; exact (HO.out.1.lt k hk).2
      have HI64 := Lib.hid hrx.1
      have HQ := Lib.hid hq
      have HWW := Lib.hid hW1
      have HGG := Lib.hid hg
      clear hbA hcx hwq hrx hq hW1 hg hgw
      go_wp2_with fail
      have hW1 := HWW.out
      have hg := HGG.out
      rw [← hW1, ← hg]
      clear hW1 hg HWW HGG x0 x1 x2 c0 c1 c2 c3 c4 c5 c6
      have hd0 : Below W1.heap.size W1 W1 := Below.refl _ _
      have hd1 : Below W1.heap.size W1 W1.drew := hd0.drew
      go_region_held3 (fun W => W.cell? ⟨g, 0, none⟩ = some (.int .i64 K) ∧ W.cell? ⟨g, 1, none⟩ = some (.int .i64 N) ∧ W.cell? ⟨g, 2, none⟩ = some (.int .i64 T) ∧ W.cell? ⟨g, 3, none⟩ = some (.int .i64 k') ∧ W.cell? ⟨g, 4, none⟩ = some (.int .u64 (n' : Int)) ∧ W.cell? ⟨g, 5, none⟩ = some (.string (strB t')) ∧ W.cell? ⟨g, 6, none⟩ = some (.slice fa' fs'.length fc') ∧ W.cell? ⟨g, 7, none⟩ = some (.string (strB r')) ∧ W.cell? ⟨g, 8, none⟩ = some (.slice la' ls'.length lc') ∧ W.cell? ⟨g, 9, none⟩ = some (.slice pa' ps'.length pc'))
        (first | exact HSC.out _ (HS.out _ (by assumption)).1 | exact HSC.out _ (HS.out _ (Below.alloc (by assumption) (Below.size (by assumption)) _)).1 | exact HSC.out _ (by assumption))
        (first
          | (go_at_call 16; (with_reducible refine (HOF.out _ (by assumption)).mono ?_); rintro e w6 ⟨fa6, la6, pa6, fc6, lc6, pc6, rfl, hr6, hb6⟩; have hb7 := hd1.trans (hb6.mono hd1.size); obtain ⟨hcg6, ⟨how6, -⟩, hs6⟩ := HS.out w6 hb7)
          | (refine step_pushS sC_len sC_one Tryz.underlying51 infoRS rfl (by decide) how6 (⟨K, N, T, .mk k' n' t' fs' r' ls' ps'⟩, ⟨fa6, fc6, la6, lc6, pa6, pc6⟩) (by omega) hs6 rfl _ _ rfl (by rfl) _ _ _ (by rfl) (by rfl) ?_; intro v7 w7 o7 g7 n7; have hcg7 := hcg6.grown g7 (fun e => by have := HLT.out _ e; omega)))
      have hP := OfR.push likeQ (HS.out W1.drew hd1).2.1 hb6 (HS.out W1.drew hd1).2.2 (x := ((⟨K, N, T, .mk k' n' t' fs' r' ls' ps'⟩, ⟨fa6, fc6, la6, lc6, pa6, pc6⟩) : SQ)) ⟨HI64.out, hr6⟩ o7 g7 n7
      have hB7 : Below w.heap.size w w7 := OwnS.below how6 (HB1.out.trans (hb7.mono HGW.out)) g7 hs6
      obtain ⟨a7, c7, hv7, -, -⟩ := hP.row.shape sC_len
      subst hv7
      have hl7 : (q ++ [((⟨K, N, T, .mk k' n' t' fs' r' ls' ps'⟩, ⟨fa6, fc6, la6, lc6, pa6, pc6⟩) : SQ)]).length = m + 1 := by rw [List.length_append, hqm]; rfl
      rw [hl7] at hP ⊢
      have HP := Lib.hid hP
      have HB7 := Lib.hid hB7
      have HM7 : Hid ((q ++ [((⟨K, N, T, .mk k' n' t' fs' r' ls' ps'⟩, ⟨fa6, fc6, la6, lc6, pa6, pc6⟩) : SQ)]).map Prod.fst = (p.take (m + 1)).map Prod.fst) := by
        show _ = _
        rw [List.map_append, HM.out, List.take_add_one, HQ.out, Option.toList_some, List.map_append]; rfl
      try (rename_i hHH; clear hHH)
      clear hP hB7 HOF HO1 HGW HB1 HS HSC HLT HI64 HQ hd0 hd1 hr6 hb6 hb7 hcg6 how6 hs6 o7 g7 n7 hcg7 HM HO
      go_wp2_with fail
      go_roundw
      case rel => exact ⟨m + 1, _, a7, c7, h1, by go_num, rfl, hl7, HM7.out, HP.out, HB7.out⟩
      case measure => simp only [intOf]; omega
    · obtain rfl : m = p.length := by omega
      have HM2 : Hid (q.map Prod.fst = p.map Prod.fst) := by show _ = _; rw [HM.out, List.take_length]
      clear HM HR HWV
      go_wp2_with fail
      go_ret
      exact ⟨av, cv, q, by rw [hqm]; rfl, HM2.out, by rw [hqm]; exact HO.out, HBE.out⟩
end
end Go.Proofs.YtcjflglpkpkflaaGreatDoor
namespace Go.Proofs.YtcjflglpkpkflaaGreatDoor
open Go Go.RowKit
set_option linter.unusedVariables false
section
variable {k : Int} {n : Nat} {t r : List UInt8} {fs : List (Int × V)} {ls : List V} {ps : List (V × V)} {fa la pa : Option Addr} {fc lc pc : Nat} {S : Nat → Prop} {w : World}
set_option maxRecDepth 100000 in
set_option maxHeartbeats 16000000 in
theorem rstepR_lit {K N T : Int} (hr : Rep S w (.mk k n t fs r ls ps) ⟨fa, fc, la, lc, pa, pc⟩) (hw : wV (.mk k n t fs r ls ps) ≤ 1000000) : Calls Tryz.prog 44 #[.agg #[.int .i64 K, .int .i64 N, .int .i64 T, .int .i64 k, .int .u64 (n : Int), .string (strB t), .slice fa fs.length fc, .string (strB r), .slice la ls.length lc, .slice pa ps.length pc]] w fun e w' => e = .returned (.bool (stepB ⟨K, N, T, .mk k n t fs r ls ps⟩)) ∧ Below w.heap.size w w' := by
  have HC : Hid (∀ W, Below w.heap.size w W → Calls _ _ _ W _) := fun W hb => RRightC.lit (rright_any _) (hr.stays hb) hw
  obtain ⟨W0, hW0⟩ : ∃ W0, W0 = w.alloc (.cells #[.int .i64 K, .int .i64 N, .int .i64 T, .int .i64 k, .int .u64 (n : Int), .string (strB t), .slice fa fs.length fc, .string (strB r), .slice la ls.length lc, .slice pa ps.length pc] 84) := ⟨_, rfl⟩
  obtain ⟨g, hg⟩ : ∃ g, g = w.heap.size := ⟨_, rfl⟩
  have hb0 : Below w.heap.size w W0 := by rw [hW0]; exact (Below.refl _ _).alloc (Nat.le_refl _) _
  have hcx : CellsAt W0 g 84 #[.int .i64 K, .int .i64 N, .int .i64 T, .int .i64 k, .int .u64 (n : Int), .string (strB t), .slice fa fs.length fc, .string (strB r), .slice la ls.length lc, .slice pa ps.length pc] := by rw [hW0, hg]; exact CellsAt.new w _ _
  have HX : Hid (∀ W, Below W0.heap.size W0 W → CellsAt W g 84 #[.int .i64 K, .int .i64 N, .int .i64 T, .int .i64 k, .int .u64 (n : Int), .string (strB t), .slice fa fs.length fc, .string (strB r), .slice la ls.length lc, .slice pa ps.length pc] ∧ Below w.heap.size w W) := fun W hW => ⟨hcx.stays hW, hb0.trans (hW.mono hb0.size)⟩
  have HZ1 : Hid ((K = 1 ∨ K = 3 ∨ K = 6) → stepB ⟨K, N, T, .mk k n t fs r ls ps⟩ = (inB N 0 1073741824 && T == 0 && noB (.mk k n t fs r ls ps))) := fun h => stepB_n h
  have HZ4 : Hid (K = 4 → stepB ⟨K, N, T, .mk k n t fs r ls ps⟩ = (N == 0 && T == 0 && noB (.mk k n t fs r ls ps))) := fun h => by rw [h]; exact stepB_4
  have HZ5 : Hid (K = 5 → stepB ⟨K, N, T, .mk k n t fs r ls ps⟩ = (inB N 0 1073741824 && inB T N 1073741824 && noB (.mk k n t fs r ls ps))) := fun h => by rw [h]; exact stepB_5
  have HZ2 : Hid (K = 2 → stepB ⟨K, N, T, .mk k n t fs r ls ps⟩ = (N == 0 && T == 0 && keyB (.mk k n t fs r ls ps))) := fun h => by rw [h]; exact stepB_2
  have HZo : Hid (K ≠ 1 → K ≠ 2 → K ≠ 3 → K ≠ 4 → K ≠ 5 → K ≠ 6 → stepB ⟨K, N, T, .mk k n t fs r ls ps⟩ = false) := stepB_o
  have HNo : Hid (noB (.mk k n t fs r ls ps) = (k == 0 && rightV (.mk k n t fs r ls ps))) := rfl
  have HKB : Hid (keyB (.mk k n t fs r ls ps) = (rightV (.mk k n t fs r ls ps) && (k == 1 || (k == 2 && decide (t.length ≤ 4096))))) := rfl
  have hsz : (strB t).size = t.length := strB_size t
  have HW : Hid (w.alloc (.cells #[.int .i64 K, .int .i64 N, .int .i64 T, .int .i64 k, .int .u64 (n : Int), .string (strB t), .slice fa fs.length fc, .string (strB r), .slice la ls.length lc, .slice pa ps.length pc] 84) = W0) := hW0.symm
  have HG : Hid (w.heap.size = g) := hg.symm
  have HB := Lib.hid hb0
  have c0 := hcx.cell 0 (v := .int .i64 K) rfl
  have c1 := hcx.cell 1 (v := .int .i64 N) rfl
  have c2 := hcx.cell 2 (v := .int .i64 T) rfl
  clear hr hw hW0 hg hb0 hcx
  generalize stepB ⟨K, N, T, .mk k n t fs r ls ps⟩ = SB at HZ1 HZ4 HZ5 HZ2 HZo ⊢
  generalize noB (.mk k n t fs r ls ps) = NB at HZ1 HZ4 HZ5 HNo
  generalize keyB (.mk k n t fs r ls ps) = KB at HZ2 HKB
  generalize rightV (.mk k n t fs r ls ps) = R at HC HNo HKB
  obtain ⟨a, qa⟩ : ∃ b, decide (N < 0) = b := ⟨_, rfl⟩
  obtain ⟨b, qb⟩ : ∃ b, decide (1073741824 < N) = b := ⟨_, rfl⟩
  have HIN : Hid (inB N 0 1073741824 = (!a && !b)) := by
    show _ = _
    rw [← qa, ← qb]
    unfold inB
    by_cases h1 : 0 ≤ N <;> by_cases h2 : N ≤ 1073741824
    · rw [decide_eq_true h1, decide_eq_true h2, decide_eq_false (by omega), decide_eq_false (by omega)]; rfl
    · rw [decide_eq_true h1, decide_eq_false h2, decide_eq_false (by omega), decide_eq_true (by omega)]; rfl
    · rw [decide_eq_false h1, decide_eq_true h2, decide_eq_true (by omega), decide_eq_false (by omega)]; rfl
    · omega
  obtain ⟨tb, qt⟩ : ∃ b, (T != 0) = b := ⟨_, rfl⟩
  have HT0 : Hid ((T == 0) = !tb) := by show _ = _; rw [← qt]; unfold bne; rw [Bool.not_not]
  obtain ⟨kb, qk⟩ : ∃ b, (k == 0) = b := ⟨_, rfl⟩
  rw [qk] at HNo
  by_cases h1 : K = 1
  · subst h1
    have HS : Hid (SB = ((!a && !b) && !tb && (kb && R))) := by show _ = _; rw [HZ1.out (.inl rfl), HIN.out, HT0.out, HNo.out]
    clear HZ1 HZ4 HZ5 HZ2 HZo HNo HKB HIN HT0
    go_enter Tryz.func44, Tryz.ntmps44
    go_upto_region 1 with fail
    rw [HW.out, HG.out]
    cases a with
    | true =>
      go_wp2_with fail
      go_ret
      exact ⟨congrArg (fun z => Ending.returned (Value.bool z)) (by rw [HS.out] <;> simp), HB.out⟩
    | false =>
      cases b with
      | true =>
        go_wp2_with fail
        go_ret
        exact ⟨congrArg (fun z => Ending.returned (Value.bool z)) (by rw [HS.out] <;> simp), HB.out⟩
      | false =>
        have hcx := (HX.out W0 (Below.refl _ _)).1
        have c3 := hcx.cell 3 (v := .int .i64 k) rfl
        have c4 := hcx.cell 4 (v := .int .u64 (n : Int)) rfl
        have c5 := hcx.cell 5 (v := .string (strB t)) rfl
        have c6 := hcx.cell 6 (v := .slice fa fs.length fc) rfl
        have c7 := hcx.cell 7 (v := .string (strB r)) rfl
        have c8 := hcx.cell 8 (v := .slice la ls.length lc) rfl
        have c9 := hcx.cell 9 (v := .slice pa ps.length pc) rfl
        clear hcx
        go_wp2_with fail
        refine (HC.out _ HB.out).mono ?_
        rintro e w1 ⟨rfl, hb1⟩
        obtain ⟨hcx, hbw⟩ := HX.out w1 hb1
        have d0 := hcx.cell 0 (v := .int .i64 1) rfl
        have d1 := hcx.cell 1 (v := .int .i64 N) rfl
        have d2 := hcx.cell 2 (v := .int .i64 T) rfl
        have d3 := hcx.cell 3 (v := .int .i64 k) rfl
        have d5 := hcx.cell 5 (v := .string (strB t)) rfl
        have HBW := Lib.hid hbw
        clear HC HX hb1 hcx hbw c0 c1 c2 c3 c4 c5 c6 c7 c8 c9
        cases R with
        | false =>
          go_wp2_with fail
          go_ret
          exact ⟨congrArg (fun z => Ending.returned (Value.bool z)) (by rw [HS.out] <;> simp), HBW.out⟩
        | true =>
          cases tb with
          | true =>
            go_wp2_with fail
            go_ret
            exact ⟨congrArg (fun z => Ending.returned (Value.bool z)) (by rw [HS.out] <;> simp), HBW.out⟩
          | false =>
            go_wp2_with fail
            go_ret
            exact ⟨congrArg (fun z => Ending.returned (Value.bool z)) (by rw [HS.out] <;> simp), HBW.out⟩

  by_cases h3 : K = 3
  · subst h3
    have HS : Hid (SB = ((!a && !b) && !tb && (kb && R))) := by show _ = _; rw [HZ1.out (.inr (.inl rfl)), HIN.out, HT0.out, HNo.out]
    clear HZ1 HZ4 HZ5 HZ2 HZo HNo HKB HIN HT0
    go_enter Tryz.func44, Tryz.ntmps44
    go_upto_region 1 with fail
    rw [HW.out, HG.out]
    cases a with
    | true =>
      go_wp2_with fail
      go_ret
      exact ⟨congrArg (fun z => Ending.returned (Value.bool z)) (by rw [HS.out] <;> simp), HB.out⟩
    | false =>
      cases b with
      | true =>
        go_wp2_with fail
        go_ret
        exact ⟨congrArg (fun z => Ending.returned (Value.bool z)) (by rw [HS.out] <;> simp), HB.out⟩
      | false =>
        have hcx := (HX.out W0 (Below.refl _ _)).1
        have c3 := hcx.cell 3 (v := .int .i64 k) rfl
        have c4 := hcx.cell 4 (v := .int .u64 (n : Int)) rfl
        have c5 := hcx.cell 5 (v := .string (strB t)) rfl
        have c6 := hcx.cell 6 (v := .slice fa fs.length fc) rfl
        have c7 := hcx.cell 7 (v := .string (strB r)) rfl
        have c8 := hcx.cell 8 (v := .slice la ls.length lc) rfl
        have c9 := hcx.cell 9 (v := .slice pa ps.length pc) rfl
        clear hcx
        go_wp2_with fail
        refine (HC.out _ HB.out).mono ?_
        rintro e w1 ⟨rfl, hb1⟩
        obtain ⟨hcx, hbw⟩ := HX.out w1 hb1
        have d0 := hcx.cell 0 (v := .int .i64 3) rfl
        have d1 := hcx.cell 1 (v := .int .i64 N) rfl
        have d2 := hcx.cell 2 (v := .int .i64 T) rfl
        have d3 := hcx.cell 3 (v := .int .i64 k) rfl
        have d5 := hcx.cell 5 (v := .string (strB t)) rfl
        have HBW := Lib.hid hbw
        clear HC HX hb1 hcx hbw c0 c1 c2 c3 c4 c5 c6 c7 c8 c9
        cases R with
        | false =>
          go_wp2_with fail
          go_ret
          exact ⟨congrArg (fun z => Ending.returned (Value.bool z)) (by rw [HS.out] <;> simp), HBW.out⟩
        | true =>
          cases tb with
          | true =>
            go_wp2_with fail
            go_ret
            exact ⟨congrArg (fun z => Ending.returned (Value.bool z)) (by rw [HS.out] <;> simp), HBW.out⟩
          | false =>
            go_wp2_with fail
            go_ret
            exact ⟨congrArg (fun z => Ending.returned (Value.bool z)) (by rw [HS.out] <;> simp), HBW.out⟩

  by_cases h6 : K = 6
  · subst h6
    have HS : Hid (SB = ((!a && !b) && !tb && (kb && R))) := by show _ = _; rw [HZ1.out (.inr (.inr rfl)), HIN.out, HT0.out, HNo.out]
    clear HZ1 HZ4 HZ5 HZ2 HZo HNo HKB HIN HT0
    go_enter Tryz.func44, Tryz.ntmps44
    go_upto_region 1 with fail
    rw [HW.out, HG.out]
    cases a with
    | true =>
      go_wp2_with fail
      go_ret
      exact ⟨congrArg (fun z => Ending.returned (Value.bool z)) (by rw [HS.out] <;> simp), HB.out⟩
    | false =>
      cases b with
      | true =>
        go_wp2_with fail
        go_ret
        exact ⟨congrArg (fun z => Ending.returned (Value.bool z)) (by rw [HS.out] <;> simp), HB.out⟩
      | false =>
        have hcx := (HX.out W0 (Below.refl _ _)).1
        have c3 := hcx.cell 3 (v := .int .i64 k) rfl
        have c4 := hcx.cell 4 (v := .int .u64 (n : Int)) rfl
        have c5 := hcx.cell 5 (v := .string (strB t)) rfl
        have c6 := hcx.cell 6 (v := .slice fa fs.length fc) rfl
        have c7 := hcx.cell 7 (v := .string (strB r)) rfl
        have c8 := hcx.cell 8 (v := .slice la ls.length lc) rfl
        have c9 := hcx.cell 9 (v := .slice pa ps.length pc) rfl
        clear hcx
        go_wp2_with fail
        refine (HC.out _ HB.out).mono ?_
        rintro e w1 ⟨rfl, hb1⟩
        obtain ⟨hcx, hbw⟩ := HX.out w1 hb1
        have d0 := hcx.cell 0 (v := .int .i64 6) rfl
        have d1 := hcx.cell 1 (v := .int .i64 N) rfl
        have d2 := hcx.cell 2 (v := .int .i64 T) rfl
        have d3 := hcx.cell 3 (v := .int .i64 k) rfl
        have d5 := hcx.cell 5 (v := .string (strB t)) rfl
        have HBW := Lib.hid hbw
        clear HC HX hb1 hcx hbw c0 c1 c2 c3 c4 c5 c6 c7 c8 c9
        cases R with
        | false =>
          go_wp2_with fail
          go_ret
          exact ⟨congrArg (fun z => Ending.returned (Value.bool z)) (by rw [HS.out] <;> simp), HBW.out⟩
        | true =>
          cases tb with
          | true =>
            go_wp2_with fail
            go_ret
            exact ⟨congrArg (fun z => Ending.returned (Value.bool z)) (by rw [HS.out] <;> simp), HBW.out⟩
          | false =>
            go_wp2_with fail
            go_ret
            exact ⟨congrArg (fun z => Ending.returned (Value.bool z)) (by rw [HS.out] <;> simp), HBW.out⟩

  by_cases h5 : K = 5
  · subst h5
    obtain ⟨c, qc⟩ : ∃ b, decide (T < N) = b := ⟨_, rfl⟩
    obtain ⟨d, qd⟩ : ∃ b, decide (1073741824 < T) = b := ⟨_, rfl⟩
    have HIN2 : Hid (inB T N 1073741824 = (!c && !d) ∨ (a || b) = true) := by
      show _ ∨ _
      rw [← qc, ← qd]
      by_cases h0 : N ≤ 1073741824
      · left
        unfold inB
        by_cases h1 : N ≤ T <;> by_cases h2 : T ≤ 1073741824
        · rw [decide_eq_true h1, decide_eq_true h2, decide_eq_false (by omega), decide_eq_false (by omega)]; rfl
        · rw [decide_eq_true h1, decide_eq_false h2, decide_eq_false (by omega), decide_eq_true (by omega)]; rfl
        · rw [decide_eq_false h1, decide_eq_true h2, decide_eq_true (by omega), decide_eq_false (by omega)]; rfl
        · omega
      · right
        rw [← qb, decide_eq_true (by omega), Bool.or_true]
    have HS : Hid (SB = ((!a && !b) && (!c && !d) && (kb && R))) := by
      show _ = _
      rw [HZ5.out rfl, HIN.out, HNo.out]
      rcases HIN2.out with h | h
      · rw [h]
      · have : (!a && !b) = false := by cases a <;> cases b <;> first | rfl | cases h
        rw [this]; rfl
    clear HZ1 HZ4 HZ5 HZ2 HZo HNo HKB HIN HT0 HIN2
    go_enter Tryz.func44, Tryz.ntmps44
    go_upto_region 1 with fail
    rw [HW.out, HG.out]
    cases a with
    | true =>
      go_wp2_with fail
      go_ret
      exact ⟨congrArg (fun z => Ending.returned (Value.bool z)) (by rw [HS.out] <;> simp), HB.out⟩
    | false =>
      cases b with
      | true =>
        go_wp2_with fail
        go_ret
        exact ⟨congrArg (fun z => Ending.returned (Value.bool z)) (by rw [HS.out] <;> simp), HB.out⟩
      | false =>
        have hcx := (HX.out W0 (Below.refl _ _)).1
        have c3 := hcx.cell 3 (v := .int .i64 k) rfl
        have c4 := hcx.cell 4 (v := .int .u64 (n : Int)) rfl
        have c5 := hcx.cell 5 (v := .string (strB t)) rfl
        have c6 := hcx.cell 6 (v := .slice fa fs.length fc) rfl
        have c7 := hcx.cell 7 (v := .string (strB r)) rfl
        have c8 := hcx.cell 8 (v := .slice la ls.length lc) rfl
        have c9 := hcx.cell 9 (v := .slice pa ps.length pc) rfl
        clear hcx
        go_wp2_with fail
        refine (HC.out _ HB.out).mono ?_
        rintro e w1 ⟨rfl, hb1⟩
        obtain ⟨hcx, hbw⟩ := HX.out w1 hb1
        have d0 := hcx.cell 0 (v := .int .i64 5) rfl
        have d1 := hcx.cell 1 (v := .int .i64 N) rfl
        have d2 := hcx.cell 2 (v := .int .i64 T) rfl
        have d3 := hcx.cell 3 (v := .int .i64 k) rfl
        have d5 := hcx.cell 5 (v := .string (strB t)) rfl
        have HBW := Lib.hid hbw
        clear HC HX hb1 hcx hbw c0 c1 c2 c3 c4 c5 c6 c7 c8 c9
        cases R with
        | false =>
          go_wp2_with fail
          go_ret
          exact ⟨congrArg (fun z => Ending.returned (Value.bool z)) (by rw [HS.out] <;> simp), HBW.out⟩
        | true =>
          cases c with
          | true =>
            go_wp2_with fail
            go_ret
            exact ⟨congrArg (fun z => Ending.returned (Value.bool z)) (by rw [HS.out] <;> simp), HBW.out⟩
          | false =>
            cases d with
            | true =>
              go_wp2_with fail
              go_ret
              exact ⟨congrArg (fun z => Ending.returned (Value.bool z)) (by rw [HS.out] <;> simp), HBW.out⟩
            | false =>
              go_wp2_with fail
              go_ret
              exact ⟨congrArg (fun z => Ending.returned (Value.bool z)) (by rw [HS.out] <;> simp), HBW.out⟩

  by_cases h4 : K = 4
  · subst h4
    by_cases hN : N = 0
    · subst hN
      have HS : Hid (SB = (!tb && (kb && R))) := by show _ = _; rw [HZ4.out rfl, HT0.out, HNo.out]; rfl
      clear HZ1 HZ4 HZ5 HZ2 HZo HNo HKB HIN HT0 qa qb
      go_enter Tryz.func44, Tryz.ntmps44
      go_upto_region 1 with fail
      rw [HW.out, HG.out]
      have hcx := (HX.out W0 (Below.refl _ _)).1
      have c3 := hcx.cell 3 (v := .int .i64 k) rfl
      have c4 := hcx.cell 4 (v := .int .u64 (n : Int)) rfl
      have c5 := hcx.cell 5 (v := .string (strB t)) rfl
      have c6 := hcx.cell 6 (v := .slice fa fs.length fc) rfl
      have c7 := hcx.cell 7 (v := .string (strB r)) rfl
      have c8 := hcx.cell 8 (v := .slice la ls.length lc) rfl
      have c9 := hcx.cell 9 (v := .slice pa ps.length pc) rfl
      clear hcx
      go_wp2_with fail
      refine (HC.out _ HB.out).mono ?_
      rintro e w1 ⟨rfl, hb1⟩
      obtain ⟨hcx, hbw⟩ := HX.out w1 hb1
      have d0 := hcx.cell 0 (v := .int .i64 4) rfl
      have d1 := hcx.cell 1 (v := .int .i64 0) rfl
      have d2 := hcx.cell 2 (v := .int .i64 T) rfl
      have d3 := hcx.cell 3 (v := .int .i64 k) rfl
      have d5 := hcx.cell 5 (v := .string (strB t)) rfl
      have HBW := Lib.hid hbw
      clear HC HX hb1 hcx hbw c0 c1 c2 c3 c4 c5 c6 c7 c8 c9
      cases R with
      | false =>
        go_wp2_with fail
        go_ret
        exact ⟨congrArg (fun z => Ending.returned (Value.bool z)) (by rw [HS.out] <;> simp), HBW.out⟩
      | true =>
        cases tb with
        | true =>
          go_wp2_with fail
          go_ret
          exact ⟨congrArg (fun z => Ending.returned (Value.bool z)) (by rw [HS.out] <;> simp), HBW.out⟩
        | false =>
          go_wp2_with fail
          go_ret
          exact ⟨congrArg (fun z => Ending.returned (Value.bool z)) (by rw [HS.out] <;> simp), HBW.out⟩

    · have hz : (N != 0) = true := by simpa using hN
      have HS : Hid (SB = false) := by show _ = _; rw [HZ4.out rfl, show (N == 0) = false by simpa using hN]; rfl
      clear HZ1 HZ4 HZ5 HZ2 HZo HNo HKB HIN HT0 hN
      go_enter Tryz.func44, Tryz.ntmps44
      go_upto_region 1 with fail
      rw [HW.out, HG.out]
      cases a with
      | true =>
        go_wp2_with fail
        go_ret
        exact ⟨congrArg (fun z => Ending.returned (Value.bool z)) (by rw [HS.out] <;> simp), HB.out⟩
      | false =>
        cases b with
        | true =>
          go_wp2_with fail
          go_ret
          exact ⟨congrArg (fun z => Ending.returned (Value.bool z)) (by rw [HS.out] <;> simp), HB.out⟩
        | false =>
          have hcx := (HX.out W0 (Below.refl _ _)).1
          have c3 := hcx.cell 3 (v := .int .i64 k) rfl
          have c4 := hcx.cell 4 (v := .int .u64 (n : Int)) rfl
          have c5 := hcx.cell 5 (v := .string (strB t)) rfl
          have c6 := hcx.cell 6 (v := .slice fa fs.length fc) rfl
          have c7 := hcx.cell 7 (v := .string (strB r)) rfl
          have c8 := hcx.cell 8 (v := .slice la ls.length lc) rfl
          have c9 := hcx.cell 9 (v := .slice pa ps.length pc) rfl
          clear hcx
          go_wp2_with fail
          refine (HC.out _ HB.out).mono ?_
          rintro e w1 ⟨rfl, hb1⟩
          obtain ⟨hcx, hbw⟩ := HX.out w1 hb1
          have d0 := hcx.cell 0 (v := .int .i64 4) rfl
          have d1 := hcx.cell 1 (v := .int .i64 N) rfl
          have d2 := hcx.cell 2 (v := .int .i64 T) rfl
          have d3 := hcx.cell 3 (v := .int .i64 k) rfl
          have d5 := hcx.cell 5 (v := .string (strB t)) rfl
          have HBW := Lib.hid hbw
          clear HC HX hb1 hcx hbw c0 c1 c2 c3 c4 c5 c6 c7 c8 c9
          cases R with
          | false =>
            go_wp2_with fail
            go_ret
            exact ⟨congrArg (fun z => Ending.returned (Value.bool z)) (by rw [HS.out] <;> simp), HBW.out⟩
          | true =>
            cases tb with
            | true =>
              go_wp2_with fail
              go_ret
              exact ⟨congrArg (fun z => Ending.returned (Value.bool z)) (by rw [HS.out] <;> simp), HBW.out⟩
            | false =>
              go_wp2_with fail
              go_ret
              exact ⟨congrArg (fun z => Ending.returned (Value.bool z)) (by rw [HS.out] <;> simp), HBW.out⟩

  by_cases h2 : K = 2
  · subst h2
    by_cases hN : N = 0
    · subst hN
      obtain ⟨x1, y1⟩ : ∃ b, (k == 1) = b := ⟨_, rfl⟩
      obtain ⟨x2, y2⟩ : ∃ b, (k == 2) = b := ⟨_, rfl⟩
      have HS : Hid (SB = (!tb && (R && (x1 || (x2 && decide ((t.length : Int) ≤ 4096)))))) := by
        show _ = _
        rw [HZ2.out rfl, HT0.out, HKB.out, y1, y2]
        have e : decide (t.length ≤ 4096) = decide ((t.length : Int) ≤ 4096) := decide_eq_decide.2 (by omega)
        rw [e]; rfl
      clear HZ1 HZ4 HZ5 HZ2 HZo HNo HKB HIN HT0 qa qb
      go_enter Tryz.func44, Tryz.ntmps44
      go_upto_region 1 with fail
      rw [HW.out, HG.out]
      have hcx := (HX.out W0 (Below.refl _ _)).1
      have c3 := hcx.cell 3 (v := .int .i64 k) rfl
      have c4 := hcx.cell 4 (v := .int .u64 (n : Int)) rfl
      have c5 := hcx.cell 5 (v := .string (strB t)) rfl
      have c6 := hcx.cell 6 (v := .slice fa fs.length fc) rfl
      have c7 := hcx.cell 7 (v := .string (strB r)) rfl
      have c8 := hcx.cell 8 (v := .slice la ls.length lc) rfl
      have c9 := hcx.cell 9 (v := .slice pa ps.length pc) rfl
      clear hcx
      go_wp2_with fail
      refine (HC.out _ HB.out).mono ?_
      rintro e w1 ⟨rfl, hb1⟩
      obtain ⟨hcx, hbw⟩ := HX.out w1 hb1
      have d0 := hcx.cell 0 (v := .int .i64 2) rfl
      have d1 := hcx.cell 1 (v := .int .i64 0) rfl
      have d2 := hcx.cell 2 (v := .int .i64 T) rfl
      have d3 := hcx.cell 3 (v := .int .i64 k) rfl
      have d5 := hcx.cell 5 (v := .string (strB t)) rfl
      have HBW := Lib.hid hbw
      clear HC HX hb1 hcx hbw c0 c1 c2 c3 c4 c5 c6 c7 c8 c9
      cases R with
      | false =>
        go_wp2_with fail
        go_ret
        exact ⟨congrArg (fun z => Ending.returned (Value.bool z)) (by rw [HS.out] <;> simp), HBW.out⟩
      | true =>
        cases tb with
        | true =>
          go_wp2_with fail
          go_ret
          exact ⟨congrArg (fun z => Ending.returned (Value.bool z)) (by rw [HS.out] <;> simp), HBW.out⟩
        | false =>
          cases x1 with
          | true =>
            go_wp2_with fail
            go_ret
            exact ⟨congrArg (fun z => Ending.returned (Value.bool z)) (by rw [HS.out] <;> simp), HBW.out⟩
          | false =>
            cases x2 with
            | true =>
              go_wp2_with fail
              go_ret
              exact ⟨congrArg (fun z => Ending.returned (Value.bool z)) (by rw [HS.out] <;> simp), HBW.out⟩
            | false =>
              go_wp2_with fail
              go_ret
              exact ⟨congrArg (fun z => Ending.returned (Value.bool z)) (by rw [HS.out] <;> simp), HBW.out⟩

    · have hz : (N != 0) = true := by simpa using hN
      have HS : Hid (SB = false) := by show _ = _; rw [HZ2.out rfl, show (N == 0) = false by simpa using hN]; rfl
      clear HZ1 HZ4 HZ5 HZ2 HZo HNo HKB HIN HT0 hN
      go_enter Tryz.func44, Tryz.ntmps44
      go_upto_region 1 with fail
      rw [HW.out, HG.out]
      cases a with
      | true =>
        go_wp2_with fail
        go_ret
        exact ⟨congrArg (fun z => Ending.returned (Value.bool z)) (by rw [HS.out] <;> simp), HB.out⟩
      | false =>
        cases b with
        | true =>
          go_wp2_with fail
          go_ret
          exact ⟨congrArg (fun z => Ending.returned (Value.bool z)) (by rw [HS.out] <;> simp), HB.out⟩
        | false =>
          have hcx := (HX.out W0 (Below.refl _ _)).1
          have c3 := hcx.cell 3 (v := .int .i64 k) rfl
          have c4 := hcx.cell 4 (v := .int .u64 (n : Int)) rfl
          have c5 := hcx.cell 5 (v := .string (strB t)) rfl
          have c6 := hcx.cell 6 (v := .slice fa fs.length fc) rfl
          have c7 := hcx.cell 7 (v := .string (strB r)) rfl
          have c8 := hcx.cell 8 (v := .slice la ls.length lc) rfl
          have c9 := hcx.cell 9 (v := .slice pa ps.length pc) rfl
          clear hcx
          go_wp2_with fail
          refine (HC.out _ HB.out).mono ?_
          rintro e w1 ⟨rfl, hb1⟩
          obtain ⟨hcx, hbw⟩ := HX.out w1 hb1
          have d0 := hcx.cell 0 (v := .int .i64 2) rfl
          have d1 := hcx.cell 1 (v := .int .i64 N) rfl
          have d2 := hcx.cell 2 (v := .int .i64 T) rfl
          have d3 := hcx.cell 3 (v := .int .i64 k) rfl
          have d5 := hcx.cell 5 (v := .string (strB t)) rfl
          have HBW := Lib.hid hbw
          clear HC HX hb1 hcx hbw c0 c1 c2 c3 c4 c5 c6 c7 c8 c9
          cases R with
          | false =>
            go_wp2_with fail
            go_ret
            exact ⟨congrArg (fun z => Ending.returned (Value.bool z)) (by rw [HS.out] <;> simp), HBW.out⟩
          | true =>
            cases tb with
            | true =>
              go_wp2_with fail
              go_ret
              exact ⟨congrArg (fun z => Ending.returned (Value.bool z)) (by rw [HS.out] <;> simp), HBW.out⟩
            | false =>
              go_wp2_with fail
              go_ret
              exact ⟨congrArg (fun z => Ending.returned (Value.bool z)) (by rw [HS.out] <;> simp), HBW.out⟩

  have HS : Hid (SB = false) := HZo.out h1 h2 h3 h4 h5 h6
  by_cases hlo : K < 1
  · have t1 : decide (K < 1) = true := decide_eq_true hlo
    clear HZ1 HZ4 HZ5 HZ2 HZo HNo HKB HIN HT0
    go_enter Tryz.func44, Tryz.ntmps44
    go_upto_region 1 with fail
    rw [HW.out, HG.out]
    go_wp2_with fail
    go_ret
    exact ⟨congrArg (fun z => Ending.returned (Value.bool z)) (by rw [HS.out] <;> simp), HB.out⟩
  · have t1 : decide (K < 1) = false := decide_eq_false hlo
    have t2 : decide (6 < K) = true := decide_eq_true (by omega)
    clear HZ1 HZ4 HZ5 HZ2 HZo HNo HKB HIN HT0
    go_enter Tryz.func44, Tryz.ntmps44
    go_upto_region 1 with fail
    rw [HW.out, HG.out]
    go_wp2_with fail
    go_ret
    exact ⟨congrArg (fun z => Ending.returned (Value.bool z)) (by rw [HS.out] <;> simp), HB.out⟩
end
section
variable {S : Nat → Prop} {w : World} {a : Option Addr} {c : Nat} {p : List SQ}
set_option maxRecDepth 100000 in
set_option maxHeartbeats 4000000 in
theorem rpright_any (hr : PathR S w (.slice a p.length c) p) (hw : ∀ q ∈ p, wV q.1.v ≤ 1000000) :
    Calls Tryz.prog 19 #[.slice a p.length c] w fun e w' => e = .returned (.bool (pathQ p)) ∧ Below w.heap.size w w' := by
  have hll := hr.len
  unfold maxLen at hll
  have HR : Hid (∀ W, Below w.heap.size w W → PathR S W (.slice a p.length c) p) := fun W hb => hr.stays hb
  have HWV := Lib.hid hw
  clear hr hw
  go_enter Tryz.func19, Tryz.ntmps19
  go_wp2_with fail
  go_loopw [7] (fun i wr => ∃ (m : Nat), m ≤ p.length ∧ i = .int .i64 m ∧ Hid ((p.drop m).all (fun q => stepB q.1) = pathQ p) ∧ Below w.heap.size w wr) (fun i _ => p.length - (intOf i).toNat)
  case atStart => exact ⟨0, Nat.zero_le _, rfl, rfl, Below.refl _ _⟩
  case round =>
    obtain ⟨m, hm, rfl, HI, hbe⟩ := hrel
    by_cases h1 : m < p.length
    · obtain ⟨⟨⟨K, N, T, ⟨k', n', t', fs', r', ls', ps'⟩⟩, ⟨fa', fc', la', lc', pa', pc'⟩⟩, hq⟩ : ∃ q, p[m]? = some q := ⟨_, List.getElem?_eq_getElem h1⟩
      obtain ⟨b, o, rfl, hrx, x0, x1, x2, c0, c1, c2, c3, c4, c5, c6⟩ := (HR.out wr hbe).at hq
      have hI := HI.out
      rw [drop_all hq] at hI
      have hwq := HWV.out _ (List.mem_of_getElem? hq)
      have HC : Hid (∀ W, Below wr.heap.size wr W → Calls Tryz.prog 44 #[.agg #[.int .i64 K, .int .i64 N, .int .i64 T, .int .i64 k', .int .u64 (n' : Int), .string (strB t'), .slice fa' fs'.length fc', .string (strB r'), .slice la' ls'.length lc', .slice pa' ps'.length pc']] W fun e w' => e = .returned (.bool (stepB ⟨K, N, T, .mk k' n' t' fs' r' ls' ps'⟩)) ∧ Below W.heap.size W w') := fun W h => rstepR_lit (hrx.2.stays h) hwq
      simp only at hI
      generalize stepB ⟨K, N, T, .mk k' n' t' fs' r' ls' ps'⟩ = R at HC hI
      have HI2 := Lib.hid hI
      have HBW : Hid (∀ x, Below wr.heap.size wr (wr.alloc (.cells x 84))) := fun x => (Below.refl _ _).alloc (Nat.le_refl _) _
      clear hI HI hrx hq hwq
      go_wp2_with fail
      refine (HC.out _ (HBW.out _)).mono ?_
      rintro e w2 ⟨rfl, hb2⟩
      have hbe2 : Below w.heap.size w w2 := (hbe.trans ((HBW.out _).mono hbe.size)).trans (hb2.mono (by simp; have := hbe.size; omega))
      clear HC HBW hb2 x0 x1 x2 c0 c1 c2 c3 c4 c5 c6
      cases R with
      | true =>
        go_wp2_with fail
        go_roundw
        case rel => exact ⟨m + 1, h1, by go_num, by show _ = _; simpa using HI2.out, hbe2⟩
        case measure => simp only [intOf]; omega
      | false =>
        have HZ : Hid (false = pathQ p) := by have := HI2.out; rw [Bool.false_and] at this; exact this
        go_wp2_with fail
        go_ret
        exact ⟨congrArg (fun z => Ending.returned (Value.bool z)) HZ.out, hbe2⟩
    · have HZ : Hid (true = pathQ p) := by show _ = _; rw [← HI.out, List.drop_of_length_le (by omega)]; rfl
      clear HI
      go_wp2_with fail
      go_ret
      exact ⟨congrArg (fun z => Ending.returned (Value.bool z)) HZ.out, hbe⟩
end
end Go.Proofs.YtcjflglpkpkflaaGreatDoor
namespace Go.Proofs.YtcjflglpkpkflaaGreatDoor
open Go Go.RowKit
set_option linter.unusedVariables false
theorem infoRVL : (Tryz.prog.info? 47).map (fun i => (i.zero, i.size, i.bytes)) = some (some (.agg #[.int .i64 0, .int .u64 0, .string ⟨#[]⟩, .slice none 0 0, .string ⟨#[]⟩, .slice none 0 0, .slice none 0 0]), 7, 120) := by kernel_rfl
theorem sizeRVL : (Tryz.prog.info? 47).map (·.size) = some 7 := by kernel_rfl
def RGetC (p : List SQ) : Prop := ∀ (v : V) (va : A3) (S S2 : Nat → Prop) (w : World) (a : Option Addr) (c : Nat), Rep S w v va → PathR S2 w (.slice a p.length c) p → wV v ≤ 1000000 →
  Calls Tryz.prog 15 #[vG (v, va), .slice a p.length c] w (GetP (fun k => S k ∨ w.heap.size ≤ k) (getR v (p.map Prod.fst)) w)
theorem RGetC.lit {p : List SQ} (h : RGetC p) {k : Int} {n : Nat} {t r : List UInt8} {fs : List (Int × V)} {ls : List V} {ps : List (V × V)} {fa la pa : Option Addr} {fc lc pc : Nat} {S S2 : Nat → Prop} {w : World} {a : Option Addr} {c : Nat} (hr : Rep S w (.mk k n t fs r ls ps) ⟨fa, fc, la, lc, pa, pc⟩) (hp : PathR S2 w (.slice a p.length c) p) (hw : wV (.mk k n t fs r ls ps) ≤ 1000000) :
    Calls Tryz.prog 15 #[.agg #[.int .i64 k, .int .u64 (n : Int), .string (strB t), .slice fa fs.length fc, .string (strB r), .slice la ls.length lc, .slice pa ps.length pc], .slice a p.length c] w (GetP (fun k => S k ∨ w.heap.size ≤ k) (getR (.mk k n t fs r ls ps) (p.map Prod.fst)) w) := by
  have := h _ _ S S2 w a c hr hp hw
  rw [vG_lit] at this
  exact this
set_option maxRecDepth 100000 in
set_option maxHeartbeats 16000000 in
theorem rget_nil : RGetC [] := by
  intro v va S S2 w a c hr hp hw
  obtain ⟨k, n, t, fs, r, ls, ps⟩ := v
  obtain ⟨fa, fc, la, lc, pa, pc⟩ := va
  rw [vG_lit]
  obtain ⟨W0, hW0⟩ : ∃ W0, W0 = (w.alloc (.cells #[.int .i64 k, .int .u64 (n : Int), .string (strB t), .slice fa fs.length fc, .string (strB r), .slice la ls.length lc, .slice pa ps.length pc] 47)).alloc (.cells noneA 47) := ⟨_, rfl⟩
  obtain ⟨g, hg⟩ : ∃ g, g = w.heap.size := ⟨_, rfl⟩
  have hb0 : Below w.heap.size w W0 := by rw [hW0]; exact ((Below.refl _ _).alloc (Nat.le_refl _) _).alloc (by simp) _
  have hcx : CellsAt W0 g 47 #[.int .i64 k, .int .u64 (n : Int), .string (strB t), .slice fa fs.length fc, .string (strB r), .slice la ls.length lc, .slice pa ps.length pc] := by rw [hW0, hg]; exact (CellsAt.new w _ _).stays ((Below.refl _ _).alloc (Nat.le_refl _) _)
  have hcz : CellsAt W0 (g + 1) 47 noneA := by
    have := CellsAt.new (w.alloc (.cells #[.int .i64 k, .int .u64 (n : Int), .string (strB t), .slice fa fs.length fc, .string (strB r), .slice la ls.length lc, .slice pa ps.length pc] 47)) noneA 47
    rw [hW0, hg]
    simpa using this
  have HRR := Lib.hid (hr.lt.stays hb0)
  have HB0 := Lib.hid hb0
  have e0 := hcx.cell 0 (v := .int .i64 k) rfl
  have e1 := hcx.cell 1 (v := .int .u64 (n : Int)) rfl
  have e2 := hcx.cell 2 (v := .string (strB t)) rfl
  have e3 := hcx.cell 3 (v := .slice fa fs.length fc) rfl
  have e4 := hcx.cell 4 (v := .string (strB r)) rfl
  have e5 := hcx.cell 5 (v := .slice la ls.length lc) rfl
  have e6 := hcx.cell 6 (v := .slice pa ps.length pc) rfl
  have z0 := hcz.cell 0 (v := .int .i64 0) rfl
  have z1 := hcz.cell 1 (v := .int .u64 0) rfl
  have z2 := hcz.cell 2 (v := .string ⟨#[]⟩) rfl
  have z3 := hcz.cell 3 (v := .slice none 0 0) rfl
  have z4 := hcz.cell 4 (v := .string ⟨#[]⟩) rfl
  have z5 := hcz.cell 5 (v := .slice none 0 0) rfl
  have z6 := hcz.cell 6 (v := .slice none 0 0) rfl
  have f0 := hcz.free 0
  have f1 := hcz.free 1
  have f2 := hcz.free 2
  have f3 := hcz.free 3
  have f4 := hcz.free 4
  have f5 := hcz.free 5
  have f6 := hcz.free 6
  have HW : Hid ((w.alloc (.cells #[.int .i64 k, .int .u64 (n : Int), .string (strB t), .slice fa fs.length fc, .string (strB r), .slice la ls.length lc, .slice pa ps.length pc] 47)).alloc (.cells #[.int .i64 0, .int .u64 0, .string ⟨#[]⟩, .slice none 0 0, .string ⟨#[]⟩, .slice none 0 0, .slice none 0 0] 47) = W0) := hW0.symm
  have HG : Hid (w.heap.size = g) := hg.symm
  have HGG := HG
  clear hr hp hw hW0 hg hb0 hcx hcz
  go_enter Tryz.func15, Tryz.ntmps15
  go_upto_region 1 with fail
  rw [HW.out, HG.out]
  clear HW HG
  go_upto_region 2 with fail
  go_region
  go_wp2_with fail
  refine bodyPost_ret (v := .tuple #[.agg #[.int .i64 k, .int .u64 (n : Int), .string (strB t), .slice fa fs.length fc, .string (strB r), .slice la ls.length lc, .slice pa ps.length pc], .bool (k != 0)]) (by simp [results, Tryz.results15, go_sem, z0, z1, z2, z3, z4, z5, z6]) rfl ?_
  have hgg := HGG.out
  have hb7 := below_set7 HB0.out (show w.heap.size ≤ g + 1 by omega) (.int .i64 k) (.int .u64 (n : Int)) (.string (strB t)) (.slice fa fs.length fc) (.string (strB r)) (.slice la ls.length lc) (.slice pa ps.length pc)
  have hr7 := Rep.setC7 (v0 := .int .i64 k) (v1 := .int .u64 (n : Int)) (v2 := .string (strB t)) (v3 := .slice fa fs.length fc) (v4 := .string (strB r)) (v5 := .slice la ls.length lc) (v6 := .slice pa ps.length pc) HRR.out (b := g + 1) (fun k hk e => by have := hk.2; omega)
  exact GetP.val ((hr7.mono (fun k hk => .inl hk.1)).stays (Below.refl _ _).drew) hb7.drew
theorem Rep.listRowL {S : Nat → Prop} {w : World} {k : Int} {n : Nat} {t r : List UInt8} {fs : List (Int × V)} {ls : List V} {ps : List (V × V)} {fa la pa : Option Addr} {fc lc pc : Nat} (h : Rep S w (.mk k n t fs r ls ps) ⟨fa, fc, la, lc, pa, pc⟩) : ∃ ll : List (V × A3), ls = ll.map Prod.fst ∧ RowS vC w (.slice la ls.length lc) ll ∧ (∀ p ∈ ll, Rep S w p.1 p.2) ∧ (ls ≠ [] → ∀ k, (Value.slice la ls.length lc).ownBlock = some k → S k) := by
  cases h with
  | mk _ _ fl ll pl hk hn hf hl hp hb rf rl rp sf sl sp cf cl cp cq => exact ⟨ll, hl, rl, cl, fun hne => sl (fun e => hne (by simp only [V.ls] at hl; rw [hl, e]; rfl))⟩
/-- what the switch leaves: the next value and whether it is there -/
def NextP (o : V × Bool) (SS : Nat → Prop) (gn : Nat) (W4 : World) (is : Value) (wx : World) : Prop :=
  ∃ a8 : A3, is = .bool o.2 ∧ CellsAt wx gn 47 (vC (o.1, a8)).toArray ∧ Rep SS wx o.1 a8 ∧ Grew [gn] W4 wx
theorem getR_cons (v : V) (s : PS) (r : List PS) : getR v (s :: r) = if (getS s v).2 then (if r = [] then ((getS s v).1, true) else if (getS s v).1.k = 0 then (V.none, false) else getR (getS s v).1 r) else (V.none, false) := by rw [getR]
set_option maxRecDepth 100000 in
set_option maxHeartbeats 32000000 in
theorem rget_cons (q0 : SQ) (p : List SQ) (ih : RGetC p) : RGetC (q0 :: p) := by
  intro v va S S2 w a c hr hp hw
  obtain ⟨k, n, t, fs, r, ls, ps⟩ := v
  obtain ⟨fa, fc, la, lc, pa, pc⟩ := va
  rw [vG_lit]
  obtain ⟨⟨K, N, T, ⟨k9, n9, t9, fs9, r9, ls9, ps9⟩⟩, ⟨fa9, fc9, la9, lc9, pa9, pc9⟩⟩ := q0
  have hpl := hp.len
  unfold maxLen at hpl
  obtain ⟨bq, oq, hbo, hrq, q0, q1, q2, q3, q4, q5, q6, q7, q8, q9⟩ := hp.at (i := 0) rfl
  subst hbo
  simp only [Nat.zero_mul, Nat.add_zero] at q0 q1 q2 q3 q4 q5 q6 q7 q8 q9
  have hbq : bq < w.heap.size := World.block_lt_of_cell? w _ q0
  have hcap : (p.length + 1) ≤ c := by
    rcases hp.1.capS with h | h
    · simpa using h
    · cases h
  have hrow2 := RowS.from sC_len hp.1 1 (by simp)
  have hsl : ∀ W, (Instr.slice 51 (.slice (some ⟨bq, oq, none⟩) (p.length + 1) c) (some (.int .i64 1)) none none).run Tryz.prog W = .ok (slcS 10 (some ⟨bq, oq, none⟩) c 1 (p.length + 1)) W := fun W => slcS_run Tryz.underlying51 infoRS _ (p.length + 1) c 1 .i64 (by omega) W
  obtain ⟨lf, ll, lp⟩ := lens_of_w hw
  obtain ⟨W0, hW0⟩ : ∃ W0, W0 = (w.alloc (.cells #[.int .i64 k, .int .u64 (n : Int), .string (strB t), .slice fa fs.length fc, .string (strB r), .slice la ls.length lc, .slice pa ps.length pc] 47)).alloc (.cells noneA 47) := ⟨_, rfl⟩
  obtain ⟨g, hg⟩ : ∃ g, g = w.heap.size := ⟨_, rfl⟩
  have hb0 : Below w.heap.size w W0 := by rw [hW0]; exact ((Below.refl _ _).alloc (Nat.le_refl _) _).alloc (by simp) _
  have hcx : CellsAt W0 g 47 #[.int .i64 k, .int .u64 (n : Int), .string (strB t), .slice fa fs.length fc, .string (strB r), .slice la ls.length lc, .slice pa ps.length pc] := by rw [hW0, hg]; exact (CellsAt.new w _ _).stays ((Below.refl _ _).alloc (Nat.le_refl _) _)
  have hcz : CellsAt W0 (g + 1) 47 noneA := by
    have := CellsAt.new (w.alloc (.cells #[.int .i64 k, .int .u64 (n : Int), .string (strB t), .slice fa fs.length fc, .string (strB r), .slice la ls.length lc, .slice pa ps.length pc] 47)) noneA 47
    rw [hW0, hg]
    simpa using this
  obtain ⟨W4, hW4⟩ : ∃ W4, W4 = (W0.alloc (.cells #[.int .i64 K, .int .i64 N, .int .i64 T, .int .i64 k9, .int .u64 (n9 : Int), .string (strB t9), .slice fa9 fs9.length fc9, .string (strB r9), .slice la9 ls9.length lc9, .slice pa9 ps9.length pc9] 84)).alloc (.cells noneA 47) := ⟨_, rfl⟩
  obtain ⟨gs, hgs⟩ : ∃ gs, gs = W0.heap.size := ⟨_, rfl⟩
  have hb4 : Below W0.heap.size W0 W4 := by rw [hW4]; exact ((Below.refl _ _).alloc (Nat.le_refl _) _).alloc (by simp) _
  have hcs : CellsAt W4 gs 84 #[.int .i64 K, .int .i64 N, .int .i64 T, .int .i64 k9, .int .u64 (n9 : Int), .string (strB t9), .slice fa9 fs9.length fc9, .string (strB r9), .slice la9 ls9.length lc9, .slice pa9 ps9.length pc9] := by rw [hW4, hgs]; exact (CellsAt.new W0 _ _).stays ((Below.refl _ _).alloc (Nat.le_refl _) _)
  have hcn : CellsAt W4 (gs + 1) 47 noneA := by
    have := CellsAt.new (W0.alloc (.cells #[.int .i64 K, .int .i64 N, .int .i64 T, .int .i64 k9, .int .u64 (n9 : Int), .string (strB t9), .slice fa9 fs9.length fc9, .string (strB r9), .slice la9 ls9.length lc9, .slice pa9 ps9.length pc9] 84)) noneA 47
    rw [hW4, hgs]
    simpa using this
  have hbw4 := hb0.trans (hb4.mono hb0.size)
  have hgl : w.heap.size ≤ g + 1 ∧ g + 1 < gs ∧ g < gs := ⟨by omega, by rw [hgs]; exact hcz.lt, by rw [hgs]; exact hcx.lt⟩
  have HGL := Lib.hid hgl
  have HX4 : Hid (CellsAt W4 g 47 #[.int .i64 k, .int .u64 (n : Int), .string (strB t), .slice fa fs.length fc, .string (strB r), .slice la ls.length lc, .slice pa ps.length pc] ∧ CellsAt W4 (g + 1) 47 noneA ∧ CellsAt W4 gs 84 #[.int .i64 K, .int .i64 N, .int .i64 T, .int .i64 k9, .int .u64 (n9 : Int), .string (strB t9), .slice fa9 fs9.length fc9, .string (strB r9), .slice la9 ls9.length lc9, .slice pa9 ps9.length pc9] ∧ CellsAt W4 (gs + 1) 47 noneA ∧ Below w.heap.size w W4) := ⟨hcx.stays hb4, hcz.stays hb4, hcs, hcn, hbw4⟩
  have HR4 : Hid (∀ W, Below w.heap.size w W → Rep (fun k => S k ∧ k < w.heap.size) W (.mk k n t fs r ls ps) ⟨fa, fc, la, lc, pa, pc⟩) := fun W h => hr.lt.stays h
  have HR9 : Hid (∀ W, Below w.heap.size w W → Rep S2 W (.mk k9 n9 t9 fs9 r9 ls9 ps9) ⟨fa9, fc9, la9, lc9, pa9, pc9⟩) := fun W h => hrq.2.stays h
  have HP : Hid (∀ W, Below w.heap.size w W → PathR S2 W (slcS 10 (some ⟨bq, oq, none⟩) c 1 (p.length + 1)) p) := fun W h => ⟨hrow2.stays h, fun x hx => (hp.2 x (by simp [hx])).stays h⟩
  have HI64 := Lib.hid hrq.1
  have HWV := Lib.hid hw
  have HZZ : Hid (getR (.mk k n t fs r ls ps) (((⟨K, N, T, .mk k9 n9 t9 fs9 r9 ls9 ps9⟩, ⟨fa9, fc9, la9, lc9, pa9, pc9⟩) :: p : List SQ).map Prod.fst) = if (getS ⟨K, N, T, .mk k9 n9 t9 fs9 r9 ls9 ps9⟩ (.mk k n t fs r ls ps)).2 then (if p.map Prod.fst = [] then ((getS ⟨K, N, T, .mk k9 n9 t9 fs9 r9 ls9 ps9⟩ (.mk k n t fs r ls ps)).1, true) else if (getS ⟨K, N, T, .mk k9 n9 t9 fs9 r9 ls9 ps9⟩ (.mk k n t fs r ls ps)).1.k = 0 then (V.none, false) else getR (getS ⟨K, N, T, .mk k9 n9 t9 fs9 r9 ls9 ps9⟩ (.mk k n t fs r ls ps)).1 (p.map Prod.fst)) else (V.none, false)) := getR_cons _ _ _
  generalize getR (.mk k n t fs r ls ps) (((⟨K, N, T, .mk k9 n9 t9 fs9 r9 ls9 ps9⟩, ⟨fa9, fc9, la9, lc9, pa9, pc9⟩) :: p : List SQ).map Prod.fst) = RES at HZZ ⊢
  have HW : Hid ((w.alloc (.cells #[.int .i64 k, .int .u64 (n : Int), .string (strB t), .slice fa fs.length fc, .string (strB r), .slice la ls.length lc, .slice pa ps.length pc] 47)).alloc (.cells #[.int .i64 0, .int .u64 0, .string ⟨#[]⟩, .slice none 0 0, .string ⟨#[]⟩, .slice none 0 0, .slice none 0 0] 47) = W0) := hW0.symm
  have HW2 : Hid ((W0.alloc (.cells #[.int .i64 K, .int .i64 N, .int .i64 T, .int .i64 k9, .int .u64 (n9 : Int), .string (strB t9), .slice fa9 fs9.length fc9, .string (strB r9), .slice la9 ls9.length lc9, .slice pa9 ps9.length pc9] 84)).alloc (.cells #[.int .i64 0, .int .u64 0, .string ⟨#[]⟩, .slice none 0 0, .string ⟨#[]⟩, .slice none 0 0, .slice none 0 0] 47) = W4) := hW4.symm
  have HG : Hid (w.heap.size = g) := hg.symm
  have HG2 : Hid (W0.heap.size = gs) := hgs.symm
  have Q0 := later1 q0 hbq hb0
  have Q1 := later1 q1 hbq hb0
  have Q2 := later1 q2 hbq hb0
  have Q3 := later1 q3 hbq hb0
  have Q4 := later1 q4 hbq hb0
  have Q5 := later1 q5 hbq hb0
  have Q6 := later1 q6 hbq hb0
  have Q7 := later1 q7 hbq hb0
  have Q8 := later1 q8 hbq hb0
  have Q9 := later1 q9 hbq hb0
  have HGG := HG
  clear hr hp hw hrq hrow2 hW0 hg hb0 hcx hcz hW4 hgs hb4 hcs hcn hbw4 hgl q0 q1 q2 q3 q4 q5 q6 q7 q8 q9 hbq
  go_enter Tryz.func15, Tryz.ntmps15
  go_upto_region 1 with fail
  rw [HW.out, HG.out]
  clear HW HG
  go_upto_region 5 with fail
  rw [HW2.out, HG2.out]
  clear HW2 HG2 Q0 Q1 Q2 Q3 Q4 Q5 Q6 Q7 Q8 Q9
  have s0 := HX4.out.2.2.1.cell 0 (v := .int .i64 K) rfl
  go_upto_block 0 with fail
  clear s0
  go_cut [8] from 22 to 109 (fun is wx => NextP (getS ⟨K, N, T, .mk k9 n9 t9 fs9 r9 ls9 ps9⟩ (.mk k n t fs r ls ps)) (fun k => (S k ∧ k < w.heap.size) ∨ W4.heap.size ≤ k) (gs + 1) W4 is wx)
  case first =>
    obtain ⟨hcv, hcr, hcs, hcn, hbw4⟩ := HX4.out
    have s0 := hcs.cell 0 (v := .int .i64 K) rfl
    have s1 := hcs.cell 1 (v := .int .i64 N) rfl
    have s2 := hcs.cell 2 (v := .int .i64 T) rfl
    have s3 := hcs.cell 3 (v := .int .i64 k9) rfl
    have s4 := hcs.cell 4 (v := .int .u64 (n9 : Int)) rfl
    have s5 := hcs.cell 5 (v := .string (strB t9)) rfl
    have s6 := hcs.cell 6 (v := .slice fa9 fs9.length fc9) rfl
    have s7 := hcs.cell 7 (v := .string (strB r9)) rfl
    have s8 := hcs.cell 8 (v := .slice la9 ls9.length lc9) rfl
    have s9 := hcs.cell 9 (v := .slice pa9 ps9.length pc9) rfl
    have y0 := hcv.cell 0 (v := .int .i64 k) rfl
    have y1 := hcv.cell 1 (v := .int .u64 (n : Int)) rfl
    have y2 := hcv.cell 2 (v := .string (strB t)) rfl
    have y3 := hcv.cell 3 (v := .slice fa fs.length fc) rfl
    have y4 := hcv.cell 4 (v := .string (strB r)) rfl
    have y5 := hcv.cell 5 (v := .slice la ls.length lc) rfl
    have y6 := hcv.cell 6 (v := .slice pa ps.length pc) rfl
    have HBW := Lib.hid hbw4
    clear HX4 hcv hcr hcs hbw4 HZZ
    obtain ⟨kb, hkb⟩ : ∃ b, (k == 4) = b := ⟨_, rfl⟩
    have HKB := Lib.hid hkb
    by_cases h1 : K = 1
    · subst h1
      have HZs0 : Hid (getS ⟨1, N, T, .mk k9 n9 t9 fs9 r9 ls9 ps9⟩ (.mk k n t fs r ls ps) = (getV (.mk k n t fs r ls ps) N, (getV (.mk k n t fs r ls ps) N).k != 0)) := getS_1
      have hC : Calls _ _ _ W4 _ := rget_S N (HR4.out W4 HBW.out) lf
      generalize getV (.mk k n t fs r ls ps) N = x at hC HZs0
      obtain ⟨k8, n8, t8, fs8, r8, ls8, ps8⟩ := x
      have HZs : Hid (getS ⟨1, N, T, .mk k9 n9 t9 fs9 r9 ls9 ps9⟩ (.mk k n t fs r ls ps) = (.mk k8 n8 t8 fs8 r8 ls8 ps8, k8 != 0)) := HZs0.out
      have HC := Lib.hid hC
      clear hC HZs0
      clear HR4 HR9 HP HI64 ih hsl hcap
      go_wp2_with fail
      refine HC.out.mono ?_
      intro e w6 hv
      obtain ⟨fa8, la8, pa8, fc8, lc8, pc8, rfl, hr8, hb6⟩ := hv.lit
      have hcn6 := hcn.stays hb6
      have HRR := Lib.hid hr8
      have HB6 := Lib.hid hb6
      clear HC hv hr8 hb6 s0 s1 s2 s3 s4 s5 s6 s7 s8 s9 y0 y1 y2 y3 y4 y5 y6
      have hoA : (#[.int .i64 k8, .int .u64 (n8 : Int), .string (strB t8), .slice fa8 fs8.length fc8, .string (strB r8), .slice la8 ls8.length lc8, .slice pa8 ps8.length pc8] : Array Value).all (·.oneCell') = true := by simp [Value.oneCell']
      have hsA : (#[.int .i64 k8, .int .u64 (n8 : Int), .string (strB t8), .slice fa8 fs8.length fc8, .string (strB r8), .slice la8 ls8.length lc8, .slice pa8 ps8.length pc8] : Array Value).size = 7 := rfl
      go_wp2_with (refine wpList_storeW rfl 47 _ _ rfl (gs + 1) (by rfl) (#[.int .i64 k8, .int .u64 (n8 : Int), .string (strB t8), .slice fa8 fs8.length fc8, .string (strB r8), .slice la8 ls8.length lc8, .slice pa8 ps8.length pc8] : Array Value) (by rfl) 47 _ (hcn6) rfl (by rw [hsA]; exact sizeRVL) hoA ?_; intro w9 hc9 hg9; have n0 := hc9.cell 0 (v := .int .i64 k8) rfl)
      go_meet
      rw [HZs.out]
      exact ⟨⟨fa8, fc8, la8, lc8, pa8, pc8⟩, rfl, hc9, (HRR.out.grew (Grew.ofGrown hg9) (fun k hk hm => by rw [show k = gs + 1 from by simpa using hm] at hk; have := hk.2; have := HGL.out; omega)).mono (fun k hk => .inl hk), (Grew.ofBelow HB6.out).grown hg9 (fun i hi => .inl (by cases hi; simp))⟩
    have k1 : (K == 1) = false := by simpa using h1
    by_cases h2 : K = 2
    · subst h2
      have HZs0 : Hid (getS ⟨2, N, T, .mk k9 n9 t9 fs9 r9 ls9 ps9⟩ (.mk k n t fs r ls ps) = (findV (.mk k n t fs r ls ps) (.mk k9 n9 t9 fs9 r9 ls9 ps9), (findV (.mk k n t fs r ls ps) (.mk k9 n9 t9 fs9 r9 ls9 ps9)).k != 0)) := getS_2
      have hC : Calls _ _ _ W4 _ := rfind_S (HR4.out W4 HBW.out) (HR9.out W4 HBW.out) lp
      generalize findV (.mk k n t fs r ls ps) (.mk k9 n9 t9 fs9 r9 ls9 ps9) = x at hC HZs0
      obtain ⟨k8, n8, t8, fs8, r8, ls8, ps8⟩ := x
      have HZs : Hid (getS ⟨2, N, T, .mk k9 n9 t9 fs9 r9 ls9 ps9⟩ (.mk k n t fs r ls ps) = (.mk k8 n8 t8 fs8 r8 ls8 ps8, k8 != 0)) := HZs0.out
      have HC := Lib.hid hC
      clear hC HZs0
      clear HR4 HR9 HP HI64 ih hsl hcap
      go_wp2_with fail
      refine HC.out.mono ?_
      intro e w6 hv
      obtain ⟨fa8, la8, pa8, fc8, lc8, pc8, rfl, hr8, hb6⟩ := hv.lit
      have hcn6 := hcn.stays hb6
      have HRR := Lib.hid hr8
      have HB6 := Lib.hid hb6
      clear HC hv hr8 hb6 s0 s1 s2 s3 s4 s5 s6 s7 s8 s9 y0 y1 y2 y3 y4 y5 y6
      have hoA : (#[.int .i64 k8, .int .u64 (n8 : Int), .string (strB t8), .slice fa8 fs8.length fc8, .string (strB r8), .slice la8 ls8.length lc8, .slice pa8 ps8.length pc8] : Array Value).all (·.oneCell') = true := by simp [Value.oneCell']
      have hsA : (#[.int .i64 k8, .int .u64 (n8 : Int), .string (strB t8), .slice fa8 fs8.length fc8, .string (strB r8), .slice la8 ls8.length lc8, .slice pa8 ps8.length pc8] : Array Value).size = 7 := rfl
      go_wp2_with (refine wpList_storeW rfl 47 _ _ rfl (gs + 1) (by rfl) (#[.int .i64 k8, .int .u64 (n8 : Int), .string (strB t8), .slice fa8 fs8.length fc8, .string (strB r8), .slice la8 ls8.length lc8, .slice pa8 ps8.length pc8] : Array Value) (by rfl) 47 _ (hcn6) rfl (by rw [hsA]; exact sizeRVL) hoA ?_; intro w9 hc9 hg9; have n0 := hc9.cell 0 (v := .int .i64 k8) rfl)
      go_meet
      rw [HZs.out]
      exact ⟨⟨fa8, fc8, la8, lc8, pa8, pc8⟩, rfl, hc9, (HRR.out.grew (Grew.ofGrown hg9) (fun k hk hm => by rw [show k = gs + 1 from by simpa using hm] at hk; have := hk.2; have := HGL.out; omega)).mono (fun k hk => .inl hk), (Grew.ofBelow HB6.out).grown hg9 (fun i hi => .inl (by cases hi; simp))⟩
    have k2 : (K == 2) = false := by simpa using h2
    clear HR9 HP ih hsl hcap
    obtain ⟨nb, hnb⟩ : ∃ b, decide ((0 : Int) ≤ N) = b := ⟨_, rfl⟩
    have HNB := Lib.hid hnb
    by_cases h3 : K = 3
    · subst h3
      obtain ⟨lb, hlb⟩ : ∃ b, decide (N < (ls.length : Int)) = b := ⟨_, rfl⟩
      have HLB := Lib.hid hlb
      by_cases hall : k = 4 ∧ 0 ≤ N ∧ N < ls.length
      · obtain ⟨h4, hn0, hn1⟩ := hall
        obtain ⟨m, rfl⟩ : ∃ m : Nat, N = m := ⟨N.toNat, by omega⟩
        have hml : m < ls.length := by omega
        obtain ⟨⟨k8, n8, t8, fs8, r8, ls8, ps8⟩, hq⟩ : ∃ p, ls[m]? = some p := ⟨_, List.getElem?_eq_getElem hml⟩
        have HZs : Hid (getS ⟨3, m, T, .mk k9 n9 t9 fs9 r9 ls9 ps9⟩ (.mk k n t fs r ls ps) = (.mk k8 n8 t8 fs8 r8 ls8 ps8, true)) := by
          show _ = _
          rw [getS_3 (v := .mk k n t fs r ls ps) ⟨h4, by omega, by simp only [V.ls]; omega⟩]
          simp only [V.ls, Int.toNat_natCast, hq]; rfl
        obtain ⟨b, o, fa8, la8, pa8, fc8, lc8, pc8, hla, hrx, c0, c1, c2, c3, c4, c5, c6⟩ := (HR4.out W4 HBW.out).partAt hq
        subst hla
        have HRR := Lib.hid hrx
        obtain rfl : true = kb := by rw [← hkb, h4]; rfl
        obtain rfl : true = nb := by rw [← hnb]; exact (decide_eq_true (by omega)).symm
        obtain rfl : true = lb := by rw [← hlb]; exact (decide_eq_true (by omega)).symm
        clear hq hrx h4 hn0 HR4 s3 s4 s5 s6 s7 s8 s9 y1 y2 y3 y4 y6
        have hoA : (#[.int .i64 k8, .int .u64 (n8 : Int), .string (strB t8), .slice fa8 fs8.length fc8, .string (strB r8), .slice la8 ls8.length lc8, .slice pa8 ps8.length pc8] : Array Value).all (·.oneCell') = true := by simp [Value.oneCell']
        have hsA : (#[.int .i64 k8, .int .u64 (n8 : Int), .string (strB t8), .slice fa8 fs8.length fc8, .string (strB r8), .slice la8 ls8.length lc8, .slice pa8 ps8.length pc8] : Array Value).size = 7 := rfl
        go_wp2_with (refine wpList_storeW rfl 47 _ _ rfl (gs + 1) (by rfl) (#[.int .i64 k8, .int .u64 (n8 : Int), .string (strB t8), .slice fa8 fs8.length fc8, .string (strB r8), .slice la8 ls8.length lc8, .slice pa8 ps8.length pc8] : Array Value) (by rfl) 47 _ (hcn) rfl (by rw [hsA]; exact sizeRVL) hoA ?_; intro w9 hc9 hg9)
        go_meet
        rw [HZs.out]
        exact ⟨⟨fa8, fc8, la8, lc8, pa8, pc8⟩, rfl, hc9, (HRR.out.grew (Grew.ofGrown hg9) (fun k hk hm => by rw [show k = gs + 1 from by simpa using hm] at hk; have := hk.2; have := HGL.out; omega)).mono (fun k hk => .inl hk), Grew.ofGrown hg9⟩
      · have HZs : Hid (getS ⟨3, N, T, .mk k9 n9 t9 fs9 r9 ls9 ps9⟩ (.mk k n t fs r ls ps) = (V.none, false)) := getS_3n hall
        clear HR4 s3 s4 s5 s6 s7 s8 s9 y1 y2 y3 y4 y6
        cases kb with
        | false =>
          clear hall hnb hlb
          go_wp2_with fail
          go_meet
          rw [HZs.out]
          exact ⟨A3.nil, rfl, hcn, rep_none, Grew.refl _ _⟩
        | true =>
          cases nb with
          | false =>
            clear hall hlb
            go_wp2_with fail
            go_meet
            rw [HZs.out]
            exact ⟨A3.nil, rfl, hcn, rep_none, Grew.refl _ _⟩
          | true =>
            obtain rfl : false = lb := by rw [← hlb]; exact (decide_eq_false (fun h => hall ⟨by simpa using hkb, of_decide_eq_true hnb, h⟩)).symm
            clear hall
            go_wp2_with fail
            go_meet
            rw [HZs.out]
            exact ⟨A3.nil, rfl, hcn, rep_none, Grew.refl _ _⟩
    have k3 : (K == 3) = false := by simpa using h3
    by_cases h4 : K = 4
    · subst h4
      obtain ⟨mb, hmb⟩ : ∃ b, (k == 3) = b := ⟨_, rfl⟩
      clear HR4 s3 s4 s5 s6 s7 s8 s9 y1 y2 y3 y5 y6
      cases mb with
      | false =>
        have HZs : Hid (getS ⟨4, N, T, .mk k9 n9 t9 fs9 r9 ls9 ps9⟩ (.mk k n t fs r ls ps) = (V.none, false)) := getS_4n (fun h => by rw [show k = 3 from h] at hmb; cases hmb)
        go_wp2_with fail
        go_meet
        rw [HZs.out]
        exact ⟨A3.nil, rfl, hcn, rep_none, Grew.refl _ _⟩
      | true =>
        have HZs : Hid (getS ⟨4, N, T, .mk k9 n9 t9 fs9 r9 ls9 ps9⟩ (.mk k n t fs r ls ps) = (strV r, true)) := getS_4 (show k = 3 by simpa using hmb)
        have hoA : (#[.int .i64 2, .int .u64 0, .string (strB r), .slice none 0 0, .string ⟨#[]⟩, .slice none 0 0, .slice none 0 0] : Array Value).all (·.oneCell') = true := by simp [Value.oneCell']
        have hsA : (#[.int .i64 2, .int .u64 0, .string (strB r), .slice none 0 0, .string ⟨#[]⟩, .slice none 0 0, .slice none 0 0] : Array Value).size = 7 := rfl
        go_wp2_with (refine wpList_storeW rfl 47 _ _ rfl (gs + 1) (by rfl) (#[.int .i64 2, .int .u64 0, .string (strB r), .slice none 0 0, .string ⟨#[]⟩, .slice none 0 0, .slice none 0 0] : Array Value) (by rfl) 47 _ (hcn) rfl (by rw [hsA]; exact sizeRVL) hoA ?_; intro w9 hc9 hg9)
        go_meet
        rw [HZs.out]
        exact ⟨A3.nil, rfl, hc9, Rep.leaf 2 0 r [] ⟨by decide, by decide⟩ (by decide) _, Grew.ofGrown hg9⟩
    have k4 : (K == 4) = false := by simpa using h4
    by_cases h5 : K = 5
    · subst h5
      obtain ⟨lb, hlb⟩ : ∃ b, decide (N ≤ T) = b := ⟨_, rfl⟩
      obtain ⟨mb, hmb⟩ : ∃ b, decide (T ≤ (ls.length : Int)) = b := ⟨_, rfl⟩
      clear s3 s4 s5 s6 s7 s8 s9 y1 y2 y3 y4 y6
      by_cases hall : k = 4 ∧ 0 ≤ N ∧ N ≤ T ∧ T ≤ ls.length
      · obtain ⟨h4, hn0, hn1, hn2⟩ := hall
        obtain ⟨m, rfl⟩ : ∃ m : Nat, N = m := ⟨N.toNat, by omega⟩
        obtain ⟨q, rfl⟩ : ∃ q : Nat, T = q := ⟨T.toNat, by omega⟩
        have hmq : m ≤ q := by omega
        have hql : q ≤ ls.length := by omega
        have HZ0 : Hid (getS ⟨5, m, q, .mk k9 n9 t9 fs9 r9 ls9 ps9⟩ (.mk k n t fs r ls ps) = (listV ((ls.take q).drop m), true)) := by
          show _ = _
          rw [getS_5 (v := .mk k n t fs r ls ps) ⟨h4, by omega, by omega, by simp only [V.ls]; omega⟩]
          simp only [V.ls, Int.toNat_natCast]
        obtain rfl : true = kb := by rw [← hkb, h4]; rfl
        obtain rfl : true = nb := by rw [← hnb]; exact (decide_eq_true (by omega)).symm
        obtain rfl : true = lb := by rw [← hlb]; exact (decide_eq_true (by omega)).symm
        obtain rfl : true = mb := by rw [← hmb]; exact (decide_eq_true (by omega)).symm
        by_cases hlt : m < q
        · have tl : decide ((m : Int) < (q : Int)) = true := decide_eq_true (by omega)
          have tl2 : decide (m < q) = true := decide_eq_true hlt
          obtain ⟨zl, hzl, hrow, hrl, hos⟩ := (HR4.out W4 HBW.out).listRowL
          have hqc : q ≤ lc := by
            rw [hzl, List.length_map] at hrow hql
            rcases hrow.capS with h | h
            · omega
            · rw [h] at hql; simp at hql; omega
          have hlen : zl.length = ls.length := by rw [hzl, List.length_map]
          have hr2 : RowS vC W4 (slcS 7 la lc m q) ((zl.take q).drop m) := by
            have h1 := RowS.upto (a := la) (c := lc) (xs := zl) (by rw [hlen]; exact hrow) q (by omega)
            have hl2 : (zl.take q).length = q := by rw [List.length_take]; omega
            have h2 := RowS.from vC_len (a := la) (c := lc) (xs := zl.take q) (by rw [hl2]; exact h1) m (by omega)
            rw [hl2] at h2
            exact h2
          have hl3 : ((zl.take q).drop m).length = q - m := by rw [List.length_drop, List.length_take]; omega
          obtain ⟨A', hA'⟩ : ∃ A', A' = (if lc = m then la else la.map fun x => x.add (m * 7)) := ⟨_, rfl⟩
          have hsv : slcS 7 la lc m q = .slice A' (q - m) (lc - m) := by unfold slcS; rw [hA']
          have hso : ∀ k, (Value.slice A' (q - m) (lc - m)).ownBlock = some k → S k ∧ k < w.heap.size := fun k hk => by
            refine hos (by intro h; rw [h] at hql; simp at hql; omega) k ?_
            rw [hA'] at hk
            split at hk
            · cases hla : la with
              | none => rw [hla] at hk; simp [Value.ownBlock] at hk
              | some x => rw [hla] at hk; exact hk
            · cases hla : la with
              | none => rw [hla] at hk; simp [Value.ownBlock] at hk
              | some x =>
                rw [hla] at hk
                simp only [Value.ownBlock, Addr.add, Option.map_some] at hk ⊢
                split at hk <;> exact hk
          have hsl : ∀ W, (Instr.slice 44 (.slice la ls.length lc) (some (.int .i64 (m : Int))) (some (.int .i64 (q : Int))) none).run Tryz.prog W = .ok (.slice A' (q - m) (lc - m)) W := fun W => by
            rw [← hsv]; exact slcS_lh Tryz.underlying44 infoRVL la ls.length lc m q .i64 .i64 hmq hqc W
          have hsl2 : ∀ W, (Instr.sliceAt 44 (.slice la ls.length lc) (some (.int .i64 (m : Int))) (some (.int .i64 (q : Int))) none).run Tryz.prog W = .ok (.slice A' (q - m) (lc - m)) W := fun W => by
            rw [run_sliceAt_slice W _ _ _ _ _ (by rw [elem_of Tryz.underlying44]; exact Tryz.underlying44)]; exact hsl W
          rw [hsv, ← hl3] at hr2
          rw [← hl3] at hso hsl hsl2
          have HZs : Hid (getS ⟨5, m, q, .mk k9 n9 t9 fs9 r9 ls9 ps9⟩ (.mk k n t fs r ls ps) = (.mk 4 0 [] [] [] (((zl.take q).drop m).map Prod.fst) [], true)) := by
            show _ = _
            rw [HZ0.out, hzl]
            unfold listV
            rw [if_neg (by
              intro h
              have := congrArg List.length h
              rw [List.length_drop, List.length_take, List.length_map, hlen] at this
              simp at this; omega), List.map_drop, List.map_take]
          have HRW : Hid (∀ w9, W4.grownBy w9 (some (gs + 1)) → Rep (fun k => (S k ∧ k < w.heap.size) ∨ W4.heap.size ≤ k) w9 (.mk 4 0 [] [] [] (((zl.take q).drop m).map Prod.fst) []) ⟨none, 0, A', lc - m, none, 0⟩) := fun w9 hg9 => by
            have hne : ∀ k, (S k ∧ k < w.heap.size) → k ∉ [gs + 1] := fun k hk hm => by
              rw [show k = gs + 1 from by simpa using hm] at hk; have := hk.2; have := HGL.out; omega
            exact (rep_list (SS := fun k => S k ∧ k < w.heap.size) ((Grew.ofGrown hg9).row hr2 (fun k hk => hne k (hso k hk))) hso (fun p hp => (hrl p (List.mem_of_mem_take (List.mem_of_mem_drop hp))).grew (Grew.ofGrown hg9) hne)).mono (fun k hk => .inl hk)
          generalize hXL : (zl.take q).drop m = XL at hr2 hso hsl hsl2 HZs HRW
          clear hzl hrow hrl hos hqc hlen hr2 hl3 hA' hsv hso HZ0 HR4 h4 hn0 hn1 hXL
          have hmq2 : (m : Int) ≤ (q : Int) := by omega
          have hoA : (listA (.slice A' XL.length (lc - m))).all (·.oneCell') = true := by simp [listA, Value.oneCell']
          have hsA : (listA (.slice A' XL.length (lc - m))).size = 7 := rfl
          go_wp2_with (refine wpList_storeW rfl 47 _ _ rfl (gs + 1) (by rfl) (listA (.slice A' XL.length (lc - m))) (by rfl) 47 _ (hcn) rfl (by rw [hsA]; exact sizeRVL) hoA ?_; intro w9 hc9 hg9)
          go_meet
          rw [HZs.out]
          exact ⟨⟨none, 0, A', lc - m, none, 0⟩, rfl, (by
            show CellsAt w9 (gs + 1) _ #[.int .i64 4, .int .u64 ((0 : Nat) : Int), .string (strB []), .slice none 0 0, .string (strB []), .slice A' (List.map Prod.fst XL).length (lc - m), .slice none 0 0]
            rw [List.length_map]
            exact hc9), HRW.out w9 hg9, Grew.ofGrown hg9⟩
        · have tl : decide ((m : Int) < (q : Int)) = false := decide_eq_false (by omega)
          have tl2 : decide (m < q) = false := decide_eq_false hlt
          have HZs : Hid (getS ⟨5, m, q, .mk k9 n9 t9 fs9 r9 ls9 ps9⟩ (.mk k n t fs r ls ps) = (V.none, true)) := by
            show _ = _
            rw [HZ0.out]
            unfold listV
            rw [if_pos (by rw [List.drop_of_length_le]; rw [List.length_take]; omega)]
          clear HZ0 HR4 h4 hn0 hn1 hlt
          go_wp2_with fail
          go_meet
          rw [HZs.out]
          exact ⟨A3.nil, rfl, hcn, rep_none, Grew.refl _ _⟩
      · have HZs : Hid (getS ⟨5, N, T, .mk k9 n9 t9 fs9 r9 ls9 ps9⟩ (.mk k n t fs r ls ps) = (V.none, false)) := getS_5n hall
        clear HR4
        cases kb with
        | false =>
          clear hall hnb hlb hmb
          go_wp2_with fail
          go_meet
          rw [HZs.out]
          exact ⟨A3.nil, rfl, hcn, rep_none, Grew.refl _ _⟩
        | true =>
          cases nb with
          | false =>
            clear hall hlb hmb
            go_wp2_with fail
            go_meet
            rw [HZs.out]
            exact ⟨A3.nil, rfl, hcn, rep_none, Grew.refl _ _⟩
          | true =>
            cases lb with
            | false =>
              clear hall hmb
              go_wp2_with fail
              go_meet
              rw [HZs.out]
              exact ⟨A3.nil, rfl, hcn, rep_none, Grew.refl _ _⟩
            | true =>
              obtain rfl : false = mb := by rw [← hmb]; exact (decide_eq_false (fun h => hall ⟨by simpa using hkb, of_decide_eq_true hnb, of_decide_eq_true hlb, h⟩)).symm
              clear hall
              go_wp2_with fail
              go_meet
              rw [HZs.out]
              exact ⟨A3.nil, rfl, hcn, rep_none, Grew.refl _ _⟩
    have k5 : (K == 5) = false := by simpa using h5
    have HZs : Hid (getS ⟨K, N, T, .mk k9 n9 t9 fs9 r9 ls9 ps9⟩ (.mk k n t fs r ls ps) = (V.none, false)) := getS_o h1 h2 h3 h4 h5
    clear HR4 h1 h2 h3 h4 h5
    go_wp2_with fail
    go_meet
    rw [HZs.out]
    exact ⟨A3.nil, rfl, hcn, rep_none, Grew.refl _ _⟩
  case rest =>
    obtain ⟨⟨fa8, fc8, la8, lc8, pa8, pc8⟩, hu8, hc8, hr8, hg8⟩ := hcut
    have hgs8 := getS_w ⟨K, N, T, .mk k9 n9 t9 fs9 r9 ls9 ps9⟩ (.mk k n t fs r ls ps)
    generalize getS ⟨K, N, T, .mk k9 n9 t9 fs9 r9 ls9 ps9⟩ (.mk k n t fs r ls ps) = ob at hu8 hc8 hr8 HZZ hgs8
    obtain ⟨⟨k8, n8, t8, fs8, r8, ls8, ps8⟩, bb⟩ := ob
    subst hu8
    replace hc8 : CellsAt wc (gs + 1) 47 #[.int .i64 k8, .int .u64 (n8 : Int), .string (strB t8), .slice fa8 fs8.length fc8, .string (strB r8), .slice la8 ls8.length lc8, .slice pa8 ps8.length pc8] := hc8
    obtain ⟨hcv, hcr, hcs, hcn, hbw4⟩ := HX4.out
    have hcr8 := hcr.grew hg8 (by have := HGL.out; simp; omega)
    have HBX : Hid (Below w.heap.size w wc) := hg8.below hbw4 (fun i hi => by rw [show i = gs + 1 from by simpa using hi]; have := HGL.out; omega) hbw4.size
    have HW8 : Hid (wV (.mk k8 n8 t8 fs8 r8 ls8 ps8) ≤ 1000000) := Nat.le_trans hgs8 HWV.out
    have HW4 := Lib.hid hbw4.size
    have HC8L := Lib.hid hcr.lt
    have HWC := Lib.hid hg8.size
    clear hcv hcr hcs hcn hbw4 HX4 hg8 hgs8 HR4 HR9 HI64
    cases bb with
    | false =>
      have HZR : Hid (RES = (V.none, false)) := HZZ.out
      clear HZZ hc8 hr8 HP ih hsl
      have hoA : (noneA).all (·.oneCell') = true := by simp [noneA, Value.oneCell']
      have hsA : (noneA).size = 7 := rfl
      go_wp2_with (first
        | (refine wpList_storeW rfl 47 _ _ rfl (g + 1) (by rfl) (noneA) (by rfl) 47 _ (hcr8) rfl (by rw [hsA]; exact sizeRVL) hoA ?_; intro w9 hc9 hg9))
      have hb9 := HBX.out.grown hg9 HBX.out.size (fun k hk => by cases hk; exact HGL.out.1)
      refine bodyPost_ret (v := .tuple #[.agg (noneA), .bool false]) (results_row_tmp rfl _ w9 (g + 1) 47 (noneA) (0, 0) _ (.bool false) rfl rfl hc9 Tryz.underlying47 rfl (by rw [hsA]; exact sizeRVL)) rfl ?_
      rw [HZR.out]
      exact GetP.none hb9
    | true =>
      by_cases hp0 : p = []
      · subst hp0
        have HZR : Hid (RES = (.mk k8 n8 t8 fs8 r8 ls8 ps8, true)) := HZZ.out
        have HRX := Lib.hid hr8
        clear HZZ hr8 HP ih hsl
        have hoA : (#[.int .i64 k8, .int .u64 (n8 : Int), .string (strB t8), .slice fa8 fs8.length fc8, .string (strB r8), .slice la8 ls8.length lc8, .slice pa8 ps8.length pc8] : Array Value).all (·.oneCell') = true := by simp [Value.oneCell']
        have hsA : (#[.int .i64 k8, .int .u64 (n8 : Int), .string (strB t8), .slice fa8 fs8.length fc8, .string (strB r8), .slice la8 ls8.length lc8, .slice pa8 ps8.length pc8] : Array Value).size = 7 := rfl
        go_wp2_with (first
          | (refine wpList_storeW rfl 47 _ _ rfl (g + 1) (by rfl) (#[.int .i64 k8, .int .u64 (n8 : Int), .string (strB t8), .slice fa8 fs8.length fc8, .string (strB r8), .slice la8 ls8.length lc8, .slice pa8 ps8.length pc8] : Array Value) (by rfl) 47 _ (hcr8) rfl (by rw [hsA]; exact sizeRVL) hoA ?_; intro w9 hc9 hg9)
          | (refine wpList_loadW rfl 47 _ rfl (gs + 1) (by rfl) 47 _ hc8 _ Tryz.underlying47 rfl (by rw [hsA]; exact sizeRVL) ?_))
        have hb9 := HBX.out.grown hg9 HBX.out.size (fun k hk => by cases hk; exact HGL.out.1)
        refine bodyPost_ret (v := .tuple #[.agg (#[.int .i64 k8, .int .u64 (n8 : Int), .string (strB t8), .slice fa8 fs8.length fc8, .string (strB r8), .slice la8 ls8.length lc8, .slice pa8 ps8.length pc8] : Array Value), .bool true]) (results_row_tmp rfl _ w9 (g + 1) 47 (#[.int .i64 k8, .int .u64 (n8 : Int), .string (strB t8), .slice fa8 fs8.length fc8, .string (strB r8), .slice la8 ls8.length lc8, .slice pa8 ps8.length pc8] : Array Value) (0, 0) _ (.bool true) rfl rfl hc9 Tryz.underlying47 rfl (by rw [hsA]; exact sizeRVL)) rfl ?_
        rw [HZR.out]
        exact GetP.val ((HRX.out.grew (Grew.ofGrown hg9) (fun k hk hm => by
          rw [show k = g + 1 from by simpa using hm] at hk
          have := HGL.out
          have := HW4.out
          have := HC8L.out
          rcases hk with hk | hk
          · have := hk.2; omega
          · omega)).mono (fun k hk => by
          rcases hk with hk | hk
          · exact .inl hk.1
          · exact .inr (Nat.le_trans HW4.out hk))) hb9
      · have hpl0 : 0 < p.length := List.length_pos_iff.2 hp0
        have tp : ((p.length : Int) + 1 == 1) = false := by simp; omega
        have hpm : p.map Prod.fst ≠ [] := by simpa using hp0
        have n0 := hc8.cell 0 (v := .int .i64 k8) rfl
        by_cases h0 : k8 = 0
        · have HZR : Hid (RES = (V.none, false)) := by
            show _ = _
            rw [HZZ.out]
            simp only [if_true]
            rw [if_neg hpm, if_pos (show (V.mk k8 n8 t8 fs8 r8 ls8 ps8).k = 0 from h0)]
          subst h0
          clear HZZ hr8 HP ih hsl hpm hp0
          have hoA : (noneA).all (·.oneCell') = true := by simp [noneA, Value.oneCell']
          have hsA : (noneA).size = 7 := rfl
          go_wp2_with (first
            | (refine wpList_storeW rfl 47 _ _ rfl (g + 1) (by rfl) (noneA) (by rfl) 47 _ (hcr8) rfl (by rw [hsA]; exact sizeRVL) hoA ?_; intro w9 hc9 hg9))
          have hb9 := HBX.out.grown hg9 HBX.out.size (fun k hk => by cases hk; exact HGL.out.1)
          refine bodyPost_ret (v := .tuple #[.agg (noneA), .bool false]) (results_row_tmp rfl _ w9 (g + 1) 47 (noneA) (0, 0) _ (.bool false) rfl rfl hc9 Tryz.underlying47 rfl (by rw [hsA]; exact sizeRVL)) rfl ?_
          rw [HZR.out]
          exact GetP.none hb9
        · have HZR : Hid (RES = getR (.mk k8 n8 t8 fs8 r8 ls8 ps8) (p.map Prod.fst)) := by
            show _ = _
            rw [HZZ.out]
            simp only [if_true]
            rw [if_neg hpm, if_neg (show ¬(V.mk k8 n8 t8 fs8 r8 ls8 ps8).k = 0 from h0)]
          have tk8 : (k8 == 0) = false := by simpa using h0
          obtain ⟨A', hA'⟩ : ∃ A', slcS 10 (some ⟨bq, oq, none⟩) c 1 (p.length + 1) = .slice A' p.length (c - 1) := ⟨_, rfl⟩
          rw [hA'] at hsl HP
          have hsl2 : ∀ W, (Instr.sliceAt 51 (.slice (some ⟨bq, oq, none⟩) (p.length + 1) c) (some (.int .i64 1)) none none).run Tryz.prog W = .ok (.slice A' p.length (c - 1)) W := fun W => by
            rw [run_sliceAt_slice W _ _ _ _ _ (by rw [elem_of Tryz.underlying51]; exact Tryz.underlying51)]; exact hsl W
          have HC : Hid (∀ W, Below wc.heap.size wc W → Calls _ _ _ W _) := fun W h => RGetC.lit ih (hr8.stays h) (HP.out W (HBX.out.trans (h.mono HBX.out.size))) HW8.out
          have HS : Hid (∀ W, Below wc.heap.size wc W → CellsAt W (gs + 1) 47 #[.int .i64 k8, .int .u64 (n8 : Int), .string (strB t8), .slice fa8 fs8.length fc8, .string (strB r8), .slice la8 ls8.length lc8, .slice pa8 ps8.length pc8] ∧ CellsAt W (g + 1) 47 noneA) := fun W h => ⟨hc8.stays h, hcr8.stays h⟩
          have HSC : Hid (∀ W, CellsAt W (gs + 1) 47 #[.int .i64 k8, .int .u64 (n8 : Int), .string (strB t8), .slice fa8 fs8.length fc8, .string (strB r8), .slice la8 ls8.length lc8, .slice pa8 ps8.length pc8] → W.cell? ⟨gs + 1, 0, none⟩ = some (.int .i64 k8) ∧ W.cell? ⟨gs + 1, 1, none⟩ = some (.int .u64 (n8 : Int)) ∧ W.cell? ⟨gs + 1, 2, none⟩ = some (.string (strB t8)) ∧ W.cell? ⟨gs + 1, 3, none⟩ = some (.slice fa8 fs8.length fc8) ∧ W.cell? ⟨gs + 1, 4, none⟩ = some (.string (strB r8)) ∧ W.cell? ⟨gs + 1, 5, none⟩ = some (.slice la8 ls8.length lc8) ∧ W.cell? ⟨gs + 1, 6, none⟩ = some (.slice pa8 ps8.length pc8)) := fun W h => ⟨h.cell 0 (v := .int .i64 k8) rfl, h.cell 1 (v := .int .u64 (n8 : Int)) rfl, h.cell 2 (v := .string (strB t8)) rfl, h.cell 3 (v := .slice fa8 fs8.length fc8) rfl, h.cell 4 (v := .string (strB r8)) rfl, h.cell 5 (v := .slice la8 ls8.length lc8) rfl, h.cell 6 (v := .slice pa8 ps8.length pc8) rfl⟩
          generalize getR (.mk k8 n8 t8 fs8 r8 ls8 ps8) (p.map Prod.fst) = RR at HC HZR
          obtain ⟨⟨k7, n7, t7, fs7, r7, ls7, ps7⟩, b7⟩ := RR
          clear HZZ hr8 HP ih hpm hp0 hcap hA' hc8 hcr8
          go_wp2_with fail
          clear n0
          have HNE : Hid (gs + 1 ≠ g + 1) := by show gs + 1 ≠ g + 1; have := HGL.out; omega
          have hd0 : Below wc.heap.size wc wc := Below.refl _ _
          have hd1 : Below wc.heap.size wc wc.drew := hd0.drew
          go_region_held3 (fun W => W.cell? ⟨gs + 1, 0, none⟩ = some (.int .i64 k8) ∧ W.cell? ⟨gs + 1, 1, none⟩ = some (.int .u64 (n8 : Int)) ∧ W.cell? ⟨gs + 1, 2, none⟩ = some (.string (strB t8)) ∧ W.cell? ⟨gs + 1, 3, none⟩ = some (.slice fa8 fs8.length fc8) ∧ W.cell? ⟨gs + 1, 4, none⟩ = some (.string (strB r8)) ∧ W.cell? ⟨gs + 1, 5, none⟩ = some (.slice la8 ls8.length lc8) ∧ W.cell? ⟨gs + 1, 6, none⟩ = some (.slice pa8 ps8.length pc8))
            (first | (with_reducible exact HSC.out _ (CellsAt.other7 (by assumption) HNE.out)) | (with_reducible exact HSC.out _ (HS.out _ (by assumption)).1) | (with_reducible exact HSC.out _ (by assumption)))
            (first | (go_at_call 15; (with_reducible refine (HC.out _ (by assumption)).mono ?_); rintro e w6 hv; obtain ⟨fa7, la7, pa7, fc7, lc7, pc7, rfl, hr7, hb6⟩ := hv.lit; have hb7 := hd1.trans (hb6.mono hd1.size); obtain ⟨hcg6, hcz6⟩ := HS.out w6 hb7; have z0 := hcz6.cell 0 (v := .int .i64 0) rfl; have z1 := hcz6.cell 1 (v := .int .u64 0) rfl; have z2 := hcz6.cell 2 (v := .string ⟨#[]⟩) rfl; have z3 := hcz6.cell 3 (v := .slice none 0 0) rfl; have z4 := hcz6.cell 4 (v := .string ⟨#[]⟩) rfl; have z5 := hcz6.cell 5 (v := .slice none 0 0) rfl; have z6 := hcz6.cell 6 (v := .slice none 0 0) rfl; have f0 := hcz6.free 0; have f1 := hcz6.free 1; have f2 := hcz6.free 2; have f3 := hcz6.free 3; have f4 := hcz6.free 4; have f5 := hcz6.free 5; have f6 := hcz6.free 6))
          have hbb : Below w.heap.size w w6 := HBX.out.trans (hb7.mono HBX.out.size)
          have hgg := HGL.out
          have hb9 := below_set7 hbb (show w.heap.size ≤ g + 1 from hgg.1) (.int .i64 k7) (.int .u64 (n7 : Int)) (.string (strB t7)) (.slice fa7 fs7.length fc7) (.string (strB r7)) (.slice la7 ls7.length lc7) (.slice pa7 ps7.length pc7)
          have hr9 := Rep.setC7 (v0 := .int .i64 k7) (v1 := .int .u64 (n7 : Int)) (v2 := .string (strB t7)) (v3 := .slice fa7 fs7.length fc7) (v4 := .string (strB r7)) (v5 := .slice la7 ls7.length lc7) (v6 := .slice pa7 ps7.length pc7) hr7 (b := g + 1) (fun k hk e => by
            have := HC8L.out
            have := HWC.out
            have h3 : wc.heap.size ≤ wc.drew.heap.size := hd1.size
            rcases hk with (hk | hk) | hk
            · have := hk.2; omega
            · omega
            · omega)
          go_wp2_with fail
          refine bodyPost_ret (v := .tuple #[.agg #[.int .i64 k7, .int .u64 (n7 : Int), .string (strB t7), .slice fa7 fs7.length fc7, .string (strB r7), .slice la7 ls7.length lc7, .slice pa7 ps7.length pc7], .bool b7]) (by simp [results, Tryz.results15, go_sem, z0, z1, z2, z3, z4, z5, z6]) rfl ?_
          rw [HZR.out]
          exact GetP.val (hr9.mono (fun k hk => by
            have := HW4.out
            have h2 := HBX.out.size
            have h3 : wc.heap.size ≤ wc.drew.heap.size := hd1.size
            rcases hk with (hk | hk) | hk
            · exact .inl hk.1
            · exact .inr (by omega)
            · exact .inr (by omega))) hb9
end Go.Proofs.YtcjflglpkpkflaaGreatDoor
namespace Go.Proofs.YtcjflglpkpkflaaGreatDoor
open Go Go.RowKit
set_option linter.unusedVariables false
theorem rget17_any : ∀ p : List SQ, RGetC p
  | [] => rget_nil
  | q :: p => rget_cons q p (rget17_any p)
theorem getR_w : ∀ (p : List PS) (v : V), wV v ≤ 1000000 → wV (getR v p).1 ≤ 1000000
  | [], v, h => by rw [getR]; exact h
  | s :: p, v, h => by
    have hs : wV (getS s v).1 ≤ 1000000 := Nat.le_trans (getS_w s v) h
    rw [getR_cons]
    split
    · split
      · exact hs
      · split
        · decide
        · exact getR_w p _ hs
    · decide
theorem OfR.path {B : Nat} {w : World} {v : Value} {q : List SQ} (h : OfR 84 10 sC RQ B w v q) : PathR (fun k => B ≤ k ∧ v.ownBlock ≠ some k) w v q := ⟨OfR.row h, h.2⟩
set_option maxRecDepth 100000 in
set_option maxHeartbeats 32000000 in
theorem walkPathGets (w : World) (va : V) (aa : A3) (hra : Rep (fun _ => True) w va aa) (vp : Value) (p : List SQ) (hrp : RowS sC w vp p) (hgp : ∀ q ∈ p, RQ (fun _ => True) w q) {aF : Addr} (hE : ErrsN w) (hF : ErrAt w 0 aF) (hP : PowU w) :
    Calls Tryz.prog 4 #[vG (va, aa), vp] w fun e w' => e = .returned (.bool true) ∧ Below w.heap.size w w' := by
  obtain ⟨k, n, t, fs, r, ls, ps⟩ := va
  obtain ⟨fa, fc, la, lc, pa, pc⟩ := aa
  rw [vG_lit]
  obtain ⟨a, c, rfl, -, -⟩ := hrp.shape sC_len
  have hr : PathR (fun _ => True) w (.slice a p.length c) p := ⟨hrp, hgp⟩
  obtain ⟨W0, hW0⟩ : ∃ W0, W0 = w.alloc (.cells #[.int .i64 k, .int .u64 (n : Int), .string (strB t), .slice fa fs.length fc, .string (strB r), .slice la ls.length lc, .slice pa ps.length pc] 38) := ⟨_, rfl⟩
  obtain ⟨g, hg⟩ : ∃ g, g = w.heap.size := ⟨_, rfl⟩
  have hb0 : Below w.heap.size w W0 := by rw [hW0]; exact (Below.refl _ _).alloc (Nat.le_refl _) _
  have hcx : CellsAt W0 g 38 #[.int .i64 k, .int .u64 (n : Int), .string (strB t), .slice fa fs.length fc, .string (strB r), .slice la ls.length lc, .slice pa ps.length pc] := by rw [hW0, hg]; exact CellsAt.new w _ _
  have HF : Hid (∀ W, Below W0.heap.size W0 W → Below w.heap.size w W) := fun W hb => hb0.trans (hb.mono hb0.size)
  have HX : Hid (∀ W, Below W0.heap.size W0 W → CellsAt W g 38 #[.int .i64 k, .int .u64 (n : Int), .string (strB t), .slice fa fs.length fc, .string (strB r), .slice la ls.length lc, .slice pa ps.length pc]) := fun W hb => hcx.stays hb
  have HAL := Lib.hid (alive17 (hE.stays hb0) (hF.stays hb0) (hP.stays hb0))
  have HA : Hid (∀ W, Below W0.heap.size W0 W → Rep (fun _ => True) W (.mk k n t fs r ls ps) ⟨fa, fc, la, lc, pa, pc⟩) := fun W hb => hra.stays (HF.out W hb)
  have HR : Hid (∀ W, Below W0.heap.size W0 W → PathR (fun _ => True) W (.slice a p.length c) p) := fun W hb => hr.stays (HF.out W hb)
  have HW := Lib.hid hW0
  have HG := Lib.hid hg
  clear hE hF hP hrp hgp hr hra hcx hW0 hg hb0
  go_enter Tryz.func4, Tryz.ntmps4
  go_wp2_with fail
  have hW0 := HW.out
  have hg := HG.out
  rw [← hW0, ← hg]
  clear hW0 hg HW HG
  refine HAL.out.mono ?_
  rintro e w1 ⟨rfl, hb1⟩
  clear HAL
  obtain ⟨x0, x1, x2, x3, x4, x5, x6⟩ := box7 (HX.out w1 hb1)
  go_wp2_with fail
  refine (Great_any (by omega) (by omega) (HA.out w1 hb1)).mono ?_
  rintro e w2 ⟨rfl, hb2⟩
  replace hb2 := hb1.trans (hb2.mono hb1.size)
  clear hb1 x0 x1 x2 x3 x4 x5 x6
  by_cases hga : greatV (.mk k n t fs r ls ps) 100 30 < 0
  · have HF2 := Lib.hid (HF.out w2 hb2)
    go_wp2_with fail
    go_ret
    exact ⟨rfl, HF2.out⟩
  have HWA := Lib.hid (great_w2 hga)
  have e1 : decide (greatV (.mk k n t fs r ls ps) 100 30 < 0) = false := decide_eq_false hga
  generalize decide (greatV (.mk k n t fs r ls ps) 100 30 < 0) = b1 at e1 ⊢
  subst e1
  clear hga
  have HLo := Lib.hid (long17_any (HR.out w2 hb2))
  have HB2 := Lib.hid hb2
  clear hb2
  go_wp2_with fail
  refine HLo.out.mono ?_
  rintro e w3 ⟨rfl, hb3⟩
  replace hb3 := HB2.out.trans (hb3.mono HB2.out.size)
  clear HLo HB2
  cases hlq : longQ p with
  | true =>
    have HF3 := Lib.hid (HF.out w3 hb3)
    clear hlq hb3
    go_wp2_with fail
    go_ret
    exact ⟨rfl, HF3.out⟩
  | false =>
  obtain ⟨h20, hwv⟩ := long_wV hlq
  have HWV : Hid (∀ q ∈ p, wV q.1.v ≤ 1000000) := fun q hq => by have := hwv q hq; omega
  have H20 : Hid (p.length ≤ 1000000) := by show p.length ≤ 1000000; omega
  clear hlq h20 hwv
  obtain ⟨x0, x1, x2, x3, x4, x5, x6⟩ := box7 (HX.out w3 hb3)
  have HB3 := Lib.hid hb3
  clear hb3
  go_wp2_with fail
  refine (right_lit (HA.out w3 HB3.out)).mono ?_
  rintro e w4 ⟨rfl, hb4⟩
  replace hb4 := HB3.out.trans (hb4.mono HB3.out.size)
  clear HB3 x0 x1 x2 x3 x4 x5 x6
  cases hRA : rightV (.mk k n t fs r ls ps) with
  | false =>
    have HF4 := Lib.hid (HF.out w4 hb4)
    clear hRA hb4
    go_wp2_with fail
    go_ret
    exact ⟨rfl, HF4.out⟩
  | true =>
  have hw6 : wV (.mk k n t fs r ls ps) ≤ 1000000 := by have := HWA.out; omega
  have HPG : Hid (∀ W, Below W0.heap.size W0 W → Calls _ _ _ W _) := fun W hb => pget_any (HA.out W hb) (HR.out W hb) hRA hw6
  have HOV : Hid (∀ W, Below W0.heap.size W0 W → Calls _ _ _ W _) := fun W hb => OfC.lit (of_any _) (HA.out W hb) hw6
  have HOP : Hid (∀ W, Below W0.heap.size W0 W → Calls _ _ _ W _) := fun W hb => ofpath_any (HR.out W hb) H20.out HWV.out
  have HPR : Hid (∀ W, Below W0.heap.size W0 W → Calls _ _ _ W _) := fun W hb => pright_any (HR.out W hb)
  have HRG : Hid (∀ (W : World) (fa7 la7 pa7 : Option Addr) (fc7 lc7 pc7 : Nat) (S S2 : Nat → Prop) (q : List SQ) (a7 : Option Addr) (c7 : Nat), Rep S W (.mk k n t fs r ls ps) ⟨fa7, fc7, la7, lc7, pa7, pc7⟩ → PathR S2 W (.slice a7 q.length c7) q → q.map Prod.fst = p.map Prod.fst → Calls Tryz.prog 15 #[.agg #[.int .i64 k, .int .u64 (n : Int), .string (strB t), .slice fa7 fs.length fc7, .string (strB r), .slice la7 ls.length lc7, .slice pa7 ps.length pc7], .slice a7 q.length c7] W (GetP (fun _ => True) (getP (.mk k n t fs r ls ps) (p.map Prod.fst)) W)) := fun W fa7 la7 pa7 fc7 lc7 pc7 S S2 q a7 c7 hr hp hm => by
    have := RGetC.lit (rget17_any q) hr hp hw6
    rw [hm, getR_getP] at this
    exact this.mono fun e w' h => by obtain ⟨a, h1, h2, h3⟩ := h; exact ⟨a, h1, h2.any, h3⟩
  have HRR : Hid (∀ (W : World) (S2 : Nat → Prop) (q : List SQ) (a7 : Option Addr) (c7 : Nat), PathR S2 W (.slice a7 q.length c7) q → q.map Prod.fst = p.map Prod.fst → Calls Tryz.prog 19 #[.slice a7 q.length c7] W fun e w' => e = .returned (.bool (pathQ p)) ∧ Below W.heap.size W w') := fun W S2 q a7 c7 hp hm => by
    have hq : ∀ x ∈ q, wV x.1.v ≤ 1000000 := fun x hx => by
      have hx2 : x.1 ∈ p.map Prod.fst := by rw [← hm]; exact List.mem_map_of_mem hx
      obtain ⟨y, hy, e⟩ := List.mem_map.1 hx2
      rw [← e]; exact HWV.out y hy
    have := rpright_any hp hq
    rw [pathQ_map, hm, ← pathQ_map] at this
    exact this
  have hw8 : wV (getP (.mk k n t fs r ls ps) (p.map Prod.fst)).1 ≤ 1000000 := by rw [← getR_getP]; exact getR_w _ _ hw6
  generalize getP (.mk k n t fs r ls ps) (p.map Prod.fst) = X at HPG HRG hw8
  generalize pathQ p = BQ at HPR HRR
  obtain ⟨⟨k8, n8, t8, fs8, r8, ls8, ps8⟩, bb⟩ := X
  have HO8 : Hid (∀ (W : World) (fa8 la8 pa8 : Option Addr) (fc8 lc8 pc8 : Nat) (S : Nat → Prop), Rep S W (.mk k8 n8 t8 fs8 r8 ls8 ps8) ⟨fa8, fc8, la8, lc8, pa8, pc8⟩ → Calls _ _ _ W _) := fun W fa8 la8 pa8 fc8 lc8 pc8 S hr => OfC.lit (w := W) (of_any _) hr hw8
  obtain ⟨x0, x1, x2, x3, x4, x5, x6⟩ := box7 (HX.out w4 hb4)
  have HB4 := Lib.hid hb4
  clear hw6 hw8 hRA hb4 HWA HWV H20 HA HR
  go_wp2_with fail
  refine (HPG.out _ HB4.out).mono ?_
  intro e w5 hv
  obtain ⟨fa8, la8, pa8, fc8, lc8, pc8, rfl, hr8, hb5⟩ := hv.lit
  replace hb5 := HB4.out.trans (hb5.mono HB4.out.size)
  have HB5 := Lib.hid hb5
  have HR8 := Lib.hid hr8
  clear hv hb5 HPG HB4 hr8 x0 x1 x2 x3 x4 x5 x6
  have hoA : (#[.int .i64 k8, .int .u64 (n8 : Int), .string (strB t8), .slice fa8 fs8.length fc8, .string (strB r8), .slice la8 ls8.length lc8, .slice pa8 ps8.length pc8] : Array Value).all (·.oneCell') = true := by simp [Value.oneCell']
  have hsA : (#[.int .i64 k8, .int .u64 (n8 : Int), .string (strB t8), .slice fa8 fs8.length fc8, .string (strB r8), .slice la8 ls8.length lc8, .slice pa8 ps8.length pc8] : Array Value).size = 7 := rfl
  go_wp2_with (refine wpList_storeW rfl 38 _ _ rfl (w5.heap.size) (by rfl) (#[.int .i64 k8, .int .u64 (n8 : Int), .string (strB t8), .slice fa8 fs8.length fc8, .string (strB r8), .slice la8 ls8.length lc8, .slice pa8 ps8.length pc8] : Array Value) (by rfl) 38 _ (CellsAt.new w5 noneA 38) rfl (by rw [hsA]; exact sizeVL) hoA ?_; intro w6 hc6 hg6; have hb6 : Below w5.heap.size w5 w6 := (Grew.ofGrown hg6).below ((Below.refl _ _).alloc (Nat.le_refl _) _) (fun i hi => by rw [show i = w5.heap.size from by simpa using hi]; exact Nat.le_refl _) (by simp); have HB6 := Lib.hid (HB5.out.trans (hb6.mono HB5.out.size)); have HC6 := Lib.hid hc6; have HR6 := Lib.hid (HR8.out.stays hb6); have hk6 := HC6.out.lt; have HL6 := Lib.hid hk6; clear hc6 hg6 hb6 hk6 hoA hsA; obtain ⟨x0, x1, x2, x3, x4, x5, x6⟩ := box7 (HX.out w6 HB6.out))
  refine (HOV.out w6 HB6.out).mono ?_
  rintro e w7 ⟨fa7, la7, pa7, fc7, lc7, pc7, rfl, hr7, hb7⟩
  have hb67 := HB6.out.trans (hb7.mono HB6.out.size)
  have HB7 := Lib.hid hb67
  have hb7' := hb7
  have HC7 := Lib.hid (HC6.out.stays hb7)
  have HR67 := Lib.hid (HR6.out.stays hb7)
  have HL7 := Lib.hid (Nat.lt_of_lt_of_le HL6.out hb7.size)
  have HR7 := Lib.hid hr7
  clear hb7 hb67 hb7' hr7 HB6 HC6 HR6 HL6 HOV x0 x1 x2 x3 x4 x5 x6
  go_wp2_with fail
  refine (HOP.out w7 HB7.out).mono ?_
  rintro e w8 ⟨a9, c9, q, rfl, hqm, hO, hb8⟩
  have HG9 := Lib.hid (HRG.out w8 _ _ _ _ _ _ _ _ q a9 c9 (HR7.out.stays hb8) (OfR.path hO) hqm)
  have HB8 := Lib.hid (HB7.out.trans (hb8.mono HB7.out.size))
  have HC8 := Lib.hid (HC7.out.stays hb8)
  have HR68 := Lib.hid (HR67.out.stays hb8)
  have HL8 := Lib.hid (Nat.lt_of_lt_of_le HL7.out hb8.size)
  clear hqm hO hb8 HB7 HC7 HR67 HL7 HR7
  go_wp2_with fail
  refine HG9.out.mono ?_
  intro e w9 hv
  obtain ⟨fa9, la9, pa9, fc9, lc9, pc9, rfl, hr9, hb9⟩ := hv.lit
  have HB9 := Lib.hid (HB8.out.trans (hb9.mono HB8.out.size))
  have HC9 := Lib.hid (HC8.out.stays hb9)
  have HR69 := Lib.hid (HR68.out.stays hb9)
  have HL9 := Lib.hid (Nat.lt_of_lt_of_le HL8.out hb9.size)
  have HR9 := Lib.hid hr9
  clear hv hr9 hb9 HB8 HC8 HR68 HL8 HG9 HRG
  have hoA : (#[.int .i64 k8, .int .u64 (n8 : Int), .string (strB t8), .slice fa9 fs8.length fc9, .string (strB r8), .slice la9 ls8.length lc9, .slice pa9 ps8.length pc9] : Array Value).all (·.oneCell') = true := by simp [Value.oneCell']
  have hsA : (#[.int .i64 k8, .int .u64 (n8 : Int), .string (strB t8), .slice fa9 fs8.length fc9, .string (strB r8), .slice la9 ls8.length lc9, .slice pa9 ps8.length pc9] : Array Value).size = 7 := rfl
  go_upto_region 7 with (refine wpList_storeW rfl 47 _ _ rfl (w9.heap.size) (by rfl) (#[.int .i64 k8, .int .u64 (n8 : Int), .string (strB t8), .slice fa9 fs8.length fc9, .string (strB r8), .slice la9 ls8.length lc9, .slice pa9 ps8.length pc9] : Array Value) (by rfl) 47 _ (CellsAt.new w9 noneA 47) rfl (by rw [hsA]; exact sizeRVL) hoA ?_; intro wa hca hga; have hba : Below w9.heap.size w9 wa := (Grew.ofGrown hga).below ((Below.refl _ _).alloc (Nat.le_refl _) _) (fun i hi => by rw [show i = w9.heap.size from by simpa using hi]; exact Nat.le_refl _) (by simp); have HBa := Lib.hid (HB9.out.trans (hba.mono HB9.out.size)); have HCa := Lib.hid hca; have HCb := Lib.hid (HC9.out.stays hba); have HRa := Lib.hid (HR9.out.stays hba); have HRb := Lib.hid (HR69.out.stays hba); clear hca hga hba hoA hsA)
  have HSa : Hid (∀ W, Below wa.heap.size wa W → W.cell? ⟨w5.heap.size, 0, none⟩ = some (.int .i64 k8) ∧ W.cell? ⟨w5.heap.size, 1, none⟩ = some (.int .u64 (n8 : Int)) ∧ W.cell? ⟨w5.heap.size, 2, none⟩ = some (.string (strB t8)) ∧ W.cell? ⟨w5.heap.size, 3, none⟩ = some (.slice fa8 fs8.length fc8) ∧ W.cell? ⟨w5.heap.size, 4, none⟩ = some (.string (strB r8)) ∧ W.cell? ⟨w5.heap.size, 5, none⟩ = some (.slice la8 ls8.length lc8) ∧ W.cell? ⟨w5.heap.size, 6, none⟩ = some (.slice pa8 ps8.length pc8) ∧ W.cell? ⟨w9.heap.size, 0, none⟩ = some (.int .i64 k8) ∧ W.cell? ⟨w9.heap.size, 1, none⟩ = some (.int .u64 (n8 : Int)) ∧ W.cell? ⟨w9.heap.size, 2, none⟩ = some (.string (strB t8)) ∧ W.cell? ⟨w9.heap.size, 3, none⟩ = some (.slice fa9 fs8.length fc9) ∧ W.cell? ⟨w9.heap.size, 4, none⟩ = some (.string (strB r8)) ∧ W.cell? ⟨w9.heap.size, 5, none⟩ = some (.slice la9 ls8.length lc9) ∧ W.cell? ⟨w9.heap.size, 6, none⟩ = some (.slice pa9 ps8.length pc9)) := fun W hb => by
    obtain ⟨a0, a1, a2, a3, a4, a5, a6⟩ := box7 (HCb.out.stays hb)
    obtain ⟨b0, b1, b2, b3, b4, b5, b6⟩ := box7 (HCa.out.stays hb)
    exact ⟨a0, a1, a2, a3, a4, a5, a6, b0, b1, b2, b3, b4, b5, b6⟩
  have HO1 : Hid (∀ W, Below wa.heap.size wa W → Calls _ _ _ W _) := fun W hb => HO8.out W _ _ _ _ _ _ _ (HRb.out.stays hb)
  have HE1 : Hid (∀ (W : World) (fa12 la12 pa12 : Option Addr) (fc12 lc12 pc12 : Nat) (S : Nat → Prop), Rep S W (.mk k8 n8 t8 fs8 r8 ls8 ps8) ⟨fa12, fc12, la12, lc12, pa12, pc12⟩ → Below wa.heap.size wa W → Calls Tryz.prog 18 #[.agg #[.int .i64 k8, .int .u64 (n8 : Int), .string (strB t8), .slice fa12 fs8.length fc12, .string (strB r8), .slice la12 ls8.length lc12, .slice pa12 ps8.length pc12], .agg #[.int .i64 k8, .int .u64 (n8 : Int), .string (strB t8), .slice fa9 fs8.length fc9, .string (strB r8), .slice la9 ls8.length lc9, .slice pa9 ps8.length pc9]] W fun e w' => e = .returned (.bool true) ∧ Below W.heap.size W w') := fun W fa12 la12 pa12 fc12 lc12 pc12 S hr hb => (rsame_lit hr (HRa.out.stays hb)).mono fun e w' h => by rw [cmpV_self] at h; exact h
  have HP1 : Hid (∀ W, Below wa.heap.size wa W → Calls _ _ _ W _) := fun W hb => HPR.out W (HBa.out.trans (hb.mono HBa.out.size))
  have HQ1 : Hid (∀ W, Below wa.heap.size wa W → Calls _ _ _ W _) := fun W hb => HOP.out W (HBa.out.trans (hb.mono HBa.out.size))
  have HFF : Hid (∀ W, Below wa.heap.size wa W → Below w.heap.size w W) := fun W hb => HF.out W (HBa.out.trans (hb.mono HBa.out.size))
  have ht0 : Below wa.heap.size wa wa := Below.refl _ _
  have ht1 : Below wa.heap.size wa wa.drew := ht0.drew
  have heq : (BQ == BQ) = true := by simp
  clear HB9 HC9 HR69 HL9 HR9 HBa HCa HCb HRa HRb HO8 HOP HPR HF HX HB5 HR8
  have heb : (bb == bb) = true := by simp
  go_region_held3 (fun W => W.cell? ⟨w5.heap.size, 0, none⟩ = some (.int .i64 k8) ∧ W.cell? ⟨w5.heap.size, 1, none⟩ = some (.int .u64 (n8 : Int)) ∧ W.cell? ⟨w5.heap.size, 2, none⟩ = some (.string (strB t8)) ∧ W.cell? ⟨w5.heap.size, 3, none⟩ = some (.slice fa8 fs8.length fc8) ∧ W.cell? ⟨w5.heap.size, 4, none⟩ = some (.string (strB r8)) ∧ W.cell? ⟨w5.heap.size, 5, none⟩ = some (.slice la8 ls8.length lc8) ∧ W.cell? ⟨w5.heap.size, 6, none⟩ = some (.slice pa8 ps8.length pc8) ∧ W.cell? ⟨w9.heap.size, 0, none⟩ = some (.int .i64 k8) ∧ W.cell? ⟨w9.heap.size, 1, none⟩ = some (.int .u64 (n8 : Int)) ∧ W.cell? ⟨w9.heap.size, 2, none⟩ = some (.string (strB t8)) ∧ W.cell? ⟨w9.heap.size, 3, none⟩ = some (.slice fa9 fs8.length fc9) ∧ W.cell? ⟨w9.heap.size, 4, none⟩ = some (.string (strB r8)) ∧ W.cell? ⟨w9.heap.size, 5, none⟩ = some (.slice la9 ls8.length lc9) ∧ W.cell? ⟨w9.heap.size, 6, none⟩ = some (.slice pa9 ps8.length pc9))
    (exact HSa.out _ (by assumption))
    ((first
      | (go_at_call 16; (with_reducible refine (HO1.out _ (by assumption)).mono ?_); rintro e w12 ⟨fa12, la12, pa12, fc12, lc12, pc12, rfl, hr12, hb12⟩; have ht12 : Below wa.heap.size wa w12 := below_call hb12 ht1)
      | (go_at_call 18; (with_reducible refine (HE1.out _ _ _ _ _ _ _ _ hr12 (by assumption)).mono ?_); rintro e w13 ⟨rfl, hb13⟩; have ht13 : Below wa.heap.size wa w13 := below_call hb13 ht12)
      | (go_at_call 8; (with_reducible refine (HP1.out _ (by assumption)).mono ?_); rintro e w14 ⟨rfl, hb14⟩; have ht14 : Below wa.heap.size wa w14 := below_call hb14 (by assumption))
      | (go_at_call 17; (with_reducible refine (HQ1.out _ (by assumption)).mono ?_); rintro e w15 ⟨a15, c15, q15, rfl, hq15, hO15, hb15⟩; have ht15 : Below wa.heap.size wa w15 := below_call hb15 (by assumption); have hP15 := OfR.path hO15)
      | (go_at_call 19; (with_reducible refine (HRR.out _ _ _ _ _ (by first | with_reducible exact hP15 | with_reducible exact PathR.stays hP15 hb14) hq15).mono ?_); rintro e w16 ⟨rfl, hb16⟩; have ht16 : Below wa.heap.size wa w16 := below_call hb16 (by assumption))))
  all_goals go_wp2_with fail
  all_goals go_ret
  all_goals exact ⟨rfl, HFF.out _ (by assumption)⟩
end Go.Proofs.YtcjflglpkpkflaaGreatDoor
