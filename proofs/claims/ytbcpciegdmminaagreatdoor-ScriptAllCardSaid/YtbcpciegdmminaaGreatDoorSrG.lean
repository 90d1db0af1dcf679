/- Scripts: an act as of the document. -/
import Derived.Test.YtbcpciegdmminaaGreatDoorSrF
import Derived.Test.YtbcpciegdmminaaGreatDoorScX
namespace Go.Proofs.YtbcpciegdmminaaGreatDoor
open Go Go.RowKit
set_option linter.unusedVariables false
theorem infoRT : (Tryz.prog.info? 59).map (fun i => (i.zero, i.size, i.bytes)) = some (some (.agg #[.int .i64 0, .string ⟨#[]⟩]), 2, 24) := by kernel_rfl
theorem rcells_set8 {W : World} {g : Nat} {T : TypeId} (h : CellsAt W g T (rCells 0 0 0 0 0 [] nilS nilS)) (k a b c n : Int) (bs : Bs) (vk vt : Value) :
    CellsAt ((((((((W.setCell ⟨g, 0, none⟩ (.int .i64 k)).setCell ⟨g, 1, none⟩ (.int .i64 a)).setCell ⟨g, 2, none⟩ (.int .i64 b)).setCell ⟨g, 3, none⟩ (.int .i64 c)).setCell ⟨g, 4, none⟩ (.int .i64 n)).setCell ⟨g, 5, none⟩ (.string (strB bs))).setCell ⟨g, 6, none⟩ vk).setCell ⟨g, 7, none⟩ vt) g T (rCells k a b c n bs vk vt) := by
  have h0 := h.set 0 (.int .i64 k)
  have h1 := h0.set 1 (.int .i64 a)
  have h2 := h1.set 2 (.int .i64 b)
  have h3 := h2.set 3 (.int .i64 c)
  have h4 := h3.set 4 (.int .i64 n)
  have h5 := h4.set 5 (.string (strB bs))
  have h6 := h5.set 6 vk
  have h7 := h6.set 7 vt
  have e : ((((((((rCells 0 0 0 0 0 [] nilS nilS).setIfInBounds 0 (.int .i64 k)).setIfInBounds 1 (.int .i64 a)).setIfInBounds 2 (.int .i64 b)).setIfInBounds 3 (.int .i64 c)).setIfInBounds 4 (.int .i64 n)).setIfInBounds 5 (.string (strB bs))).setIfInBounds 6 vk).setIfInBounds 7 vt = rCells k a b c n bs vk vt := by
    simp [rCells]
  rw [e] at h7
  exact h7
set_option maxRecDepth 100000 in
set_option maxHeartbeats 4000000 in
theorem of_any {w : World} {k a b c n : Int} {vb vk vt : Value} {bs : Bs} {keep : List Int} {torn : List (Int × Bs)} (hA : ActI w vb vk vt bs keep torn) (htl : torn.length ≤ 1000000) :
    Calls Tryz.prog 8 #[.agg (acCells k a b c n vb vk vt)] w fun e w' => ∃ vt', e = .returned (.agg (rCells k a b c n bs vk vt')) ∧ RActI w' vk vt' keep torn ∧ (∀ q, vt'.ownBlock = some q → w.heap.size ≤ q ∧ q < w'.heap.size) ∧ Below w.heap.size w w' := by
  obtain ⟨q1, q2, acc, q3, q4, q5⟩ := hA
  have hal : acc.length ≤ 1000000 := by rw [← q5, List.length_map] at htl; exact htl
  obtain ⟨ab, cb, rfl, -, -⟩ := q1.gen.shape
  obtain ⟨ak, ck, rfl, -, -⟩ := q2.shape
  obtain ⟨at', ct, rfl, -, -⟩ := q3.shape tqC_len
  have HROW : Hid (∀ W, Below w.heap.size w W → RowB W (.slice ab bs.length cb) bs ∧ RowL IV W (.slice ak keep.length ck) keep ∧ RowS tqC W (.slice at' acc.length ct) acc ∧ ∀ y ∈ acc, RowB W (tqV y) y.1.2) := fun W h => ⟨Row.stays q1 h, Row.stays q2 h, RowS.stays q3 h, fun y hy => Row.stays (q4 y hy) h⟩
  have HT : Hid (acc.map Prod.fst = torn) := q5
  obtain ⟨W0, hW0⟩ : ∃ W0, W0 = w.alloc (.cells (acCells k a b c n (.slice ab bs.length cb) (.slice ak keep.length ck) (.slice at' acc.length ct)) 26) := ⟨_, rfl⟩
  obtain ⟨g, hg⟩ : ∃ g, g = w.heap.size := ⟨_, rfl⟩
  have hb0 : Below w.heap.size w W0 := by rw [hW0]; exact (Below.refl _ _).alloc (Nat.le_refl _) _
  have hc0 : CellsAt W0 g 26 (acCells k a b c n (.slice ab bs.length cb) (.slice ak keep.length ck) (.slice at' acc.length ct)) := by rw [hW0, hg]; exact CellsAt.new w _ _
  obtain ⟨W1, hW1⟩ : ∃ W1, W1 = W0.alloc (.cells (rCells 0 0 0 0 0 [] nilS nilS) 31) := ⟨_, rfl⟩
  obtain ⟨r, hr⟩ : ∃ r, r = W0.heap.size := ⟨_, rfl⟩
  have hc1 : CellsAt W1 r 31 (rCells 0 0 0 0 0 [] nilS nilS) := by rw [hW1, hr]; exact CellsAt.new W0 _ _
  have h01 : Below W0.heap.size W0 W1 := by rw [hW1]; exact (Below.refl _ _).alloc (Nat.le_refl _) _
  have hb1 : Below w.heap.size w W1 := hb0.trans (h01.mono hb0.size)
  have hcb : CellsAt W1 g 26 (acCells k a b c n (.slice ab bs.length cb) (.slice ak keep.length ck) (.slice at' acc.length ct)) := hc0.stays h01
  have hs1 : W1.heap.size = W0.heap.size + 1 := by rw [hW1]; simp
  have c0 := hcb.cell 0 (v := .int .i64 k) rfl
  have c1 := hcb.cell 1 (v := .int .i64 a) rfl
  have c2 := hcb.cell 2 (v := .int .i64 b) rfl
  have c3 := hcb.cell 3 (v := .int .i64 c) rfl
  have c4 := hcb.cell 4 (v := .int .i64 n) rfl
  have c5 := hcb.cell 5 (v := .slice ab bs.length cb) rfl
  have c6 := hcb.cell 6 (v := .slice ak keep.length ck) rfl
  have c7 := hcb.cell 7 (v := .slice at' acc.length ct) rfl
  have hcv := convert_str (HROW.out W1 hb1).1
  have HW0 := Lib.hid hW0
  have HW1 := Lib.hid hW1
  have HG := Lib.hid hg
  have HR := Lib.hid hr
  have HB1 := Lib.hid hb1
  have HC1 := Lib.hid hc1
  have HCB := Lib.hid hcb
  have HS1 := Lib.hid hs1
  clear hW0 hW1 hg hr hb0 hc0 hc1 h01 hb1 hcb hs1 q1 q2 q3 q4 q5 htl
  go_enter Tryz.func8, Tryz.ntmps8
  go_upto_region 1 with fail
  rw [← HW0.out, ← HG.out]
  rw [show (Value.string { data := #[] }) = Value.string (strB []) from rfl]
  have HX : Hid (W1 = W0.alloc (.cells #[.int .i64 0, .int .i64 0, .int .i64 0, .int .i64 0, .int .i64 0, .string (strB []), .slice none 0 0, .slice none 0 0] 31)) := HW1.out
  rw [← HX.out]
  obtain ⟨o, ho⟩ : ∃ o, o = W1.heap.size := ⟨_, rfl⟩
  have hog : o = g + 2 := by rw [ho, HS1.out, HW0.out, HG.out]; simp
  have HO := Lib.hid ho
  have HOG := Lib.hid hog
  obtain ⟨W2, hW2⟩ : ∃ W2, W2 = W1.alloc (.cells #[.int .i64 0, .int .i64 0, .int .i64 0, .int .i64 0, .int .i64 0, .string ⟨#[]⟩, .slice none 0 0, .slice none 0 0] 31) := ⟨_, rfl⟩
  have HW2 := Lib.hid hW2
  have hc2 : CellsAt W2 o 31 (rCells 0 0 0 0 0 [] nilS nilS) := by rw [hW2, ho]; exact CellsAt.new W1 _ _
  have h12 : Below W1.heap.size W1 W2 := by rw [hW2]; exact (Below.refl _ _).alloc (Nat.le_refl _) _
  have f0 := hc2.free 0
  have f1 := hc2.free 1
  have f2 := hc2.free 2
  have f3 := hc2.free 3
  have f4 := hc2.free 4
  have f5 := hc2.free 5
  have f6 := hc2.free 6
  have f7 := hc2.free 7
  have e0 := hc2.cell 0 (v := .int .i64 0) rfl
  have e1 := hc2.cell 1 (v := .int .i64 0) rfl
  have e2 := hc2.cell 2 (v := .int .i64 0) rfl
  have e3 := hc2.cell 3 (v := .int .i64 0) rfl
  have e4 := hc2.cell 4 (v := .int .i64 0) rfl
  have e5 := hc2.cell 5 (v := .string ⟨#[]⟩) rfl
  have e6 := hc2.cell 6 (v := .slice none 0 0) rfl
  have e7 := hc2.cell 7 (v := .slice none 0 0) rfl
  have HC2 := Lib.hid hc2
  have H12 := Lib.hid h12
  clear ho hog hW2 hc2 h12
  go_upto_region 2 with (first | (rw [← HW2.out, ← HO.out]) | fail)
  have hc3 := rcells_set8 HC2.out k a b c n bs (.slice ak keep.length ck) (.slice none 0 0)
  have hg3 := grown_set8 (W := W2) (g := o) (.int .i64 k) (.int .i64 a) (.int .i64 b) (.int .i64 c) (.int .i64 n) (.string (strB bs)) (.slice ak keep.length ck) (.slice none 0 0)
  have hb2 : Below w.heap.size w W2 := HB1.out.trans (H12.out.mono HB1.out.size)
  have hgo : g < o := by have := HOG.out; omega
  have hb3 := hb2.grown hg3 hb2.size (fun k hk => by cases hk; have := HG.out; omega)
  have hcb3 := (HCB.out.stays H12.out).grown hg3 (fun e => by cases e; omega)
  have hrg : r = g + 1 := by rw [HR.out, HW0.out, HG.out]; simp
  have hc13 := (HC1.out.stays H12.out).grown hg3 (fun e => by have h1 := Option.some.inj e; have := HOG.out; omega)
  rw [hrg] at hc13
  have hol := hc3.lt
  clear c0 c1 c2 c3 c4 c5 c6 c7 e0 e1 e2 e3 e4 e5 e6 e7 f0 f1 f2 f3 f4 f5 f6 f7 hg3 hb2 hcv HC2 HB1 HC1 HCB H12 HW2 HX HW0 HW1 HR HS1 HO
  generalize ((((((((W2.setCell ⟨o, 0, none⟩ (.int .i64 k)).setCell ⟨o, 1, none⟩ (.int .i64 a)).setCell ⟨o, 2, none⟩ (.int .i64 b)).setCell ⟨o, 3, none⟩ (.int .i64 c)).setCell ⟨o, 4, none⟩ (.int .i64 n)).setCell ⟨o, 5, none⟩ (.string (strB bs))).setCell ⟨o, 6, none⟩ (.slice ak keep.length ck)).setCell ⟨o, 7, none⟩ (.slice none 0 0)) = W3 at hc3 hb3 hcb3 hc13 hol ⊢
  have c7 := hcb3.cell 7 (v := .slice at' acc.length ct) rfl
  have HOL := Lib.hid hol
  have HC3 := Lib.hid hc3
  have HC13 := Lib.hid hc13
  have HB3 := Lib.hid hb3
  clear hol hc3 hc13 hb3 hcb3 hrg
  go_upto_region 3 with fail
  clear c7
  go_loopw [25] (fun i wr => ∃ (m : Nat) (v : Value), m ≤ acc.length ∧ i = .int .i64 m ∧ OwnS 59 2 rtC W3.heap.size wr v ((acc.take m).map Prod.fst) ∧ Hid (CellsAt wr o 31 (rCells k a b c n bs (.slice ak keep.length ck) v)) ∧ Hid (CellsAt wr (g + 1) 31 (rCells 0 0 0 0 0 [] nilS nilS)) ∧ Hid (Below w.heap.size w wr) ∧ Hid (W3.heap.size ≤ wr.heap.size)) (fun i _ => acc.length - (intOf i).toNat)
  case atStart => exact ⟨0, _, Nat.zero_le _, rfl, OwnS.nil _ _, HC3.out, HC13.out, HB3.out, Nat.le_refl _⟩
  case round =>
    obtain ⟨m, v, hm, rfl, how, HC, HC1', HB, HSZ⟩ := hrel
    have HOW := Lib.hid how
    clear how
    by_cases h1 : m < acc.length
    · obtain ⟨⟨⟨z, bz⟩, ⟨ay, cy⟩⟩, hx⟩ : ∃ x, acc[m]? = some x := ⟨_, List.getElem?_eq_getElem h1⟩
      obtain ⟨-, -, hrt, hrb⟩ := HROW.out wr HB.out
      obtain ⟨aq, cq, hv, -, hcl⟩ := hrt.shape tqC_len
      cases hv
      obtain ⟨b', o', rfl, hc⟩ := hcl m _ hx
      have c0 := hc 0 _ rfl
      have c1 := hc 1 _ rfl
      have hrb1 := hrb _ (List.mem_of_getElem? hx)
      replace c0 : wr.cell? ⟨b', o' + m * 2, none⟩ = some (.int .i64 z) := c0
      replace c1 : wr.cell? ⟨b', o' + m * 2 + 1, none⟩ = some (.slice ay bz.length cy) := c1
      replace hrb1 : RowB wr (.slice ay bz.length cy) bz := hrb1
      have HTK : Hid ((acc.take (m + 1)).map Prod.fst = (acc.take m).map Prod.fst ++ [(z, bz)]) := by show _ = _; rw [List.take_add_one, hx]; simp
      have HLE : Hid (((acc.take m).map Prod.fst).length ≤ 1000000) := by show _ ≤ _; rw [List.length_map, List.length_take]; omega
      obtain ⟨w4, hw4⟩ : ∃ w4, w4 = wr.alloc (.cells #[.int .i64 0, .slice none 0 0] 57) := ⟨_, rfl⟩
      obtain ⟨p, hp⟩ : ∃ p, p = wr.heap.size := ⟨_, rfl⟩
      have hc4 : CellsAt w4 p 57 #[.int .i64 0, .slice none 0 0] := by rw [hw4, hp]; exact CellsAt.new wr _ _
      have h4 : Below wr.heap.size wr w4 := by rw [hw4]; exact (Below.refl _ _).alloc (Nat.le_refl _) _
      have e0 := hc4.cell 0 (v := .int .i64 0) rfl
      have e1 := hc4.cell 1 (v := .slice none 0 0) rfl
      have f0 := hc4.free 0
      have f1 := hc4.free 1
      have HW4 := Lib.hid hw4
      have HP := Lib.hid hp
      have HC4 := Lib.hid hc4
      have H4 := Lib.hid h4
      have HRB := Lib.hid hrb1
      clear hw4 hp hc4 h4 hrb1 hx hc hcl hrt hrb
      go_upto_region 5 with (first | (rw [← HW4.out, ← HP.out]) | fail)
      have hg5 : w4.grownBy ((w4.setCell ⟨p, 0, none⟩ (.int .i64 z)).setCell ⟨p, 1, none⟩ (.slice ay bz.length cy)) (some p) := grownBy_setCell (grownBy_setCell (grownBy_refl _ _) ⟨p, 0, none⟩ (.inl rfl) _) ⟨p, 1, none⟩ (.inl rfl) _
      have hc5 : CellsAt ((w4.setCell ⟨p, 0, none⟩ (.int .i64 z)).setCell ⟨p, 1, none⟩ (.slice ay bz.length cy)) p 57 #[.int .i64 z, .slice ay bz.length cy] := (HC4.out.set 0 (.int .i64 z)).set 1 (.slice ay bz.length cy)
      clear c0 c1 e0 e1 f0 f1
      generalize ((w4.setCell ⟨p, 0, none⟩ (.int .i64 z)).setCell ⟨p, 1, none⟩ (.slice ay bz.length cy)) = w5 at hg5 hc5 ⊢
      have h5 : Below wr.heap.size wr w5 := H4.out.grown hg5 H4.out.size (fun k hk => by cases hk; exact Nat.le_of_eq HP.out.symm)
      have how5 := HOW.out.stays h5
      have hco5 := HC.out.stays h5
      have HC15 := Lib.hid (HC1'.out.stays h5)
      have HB5 := Lib.hid (HB.out.trans (h5.mono HB.out.size))
      have HSZ5 : Hid (W3.heap.size ≤ w5.heap.size) := Nat.le_trans HSZ.out h5.size
      have hcv := convert_str (HRB.out.stays h5)
      have d7 := hco5.cell 7 (v := v) rfl
      have e0 := hc5.cell 0 (v := .int .i64 z) rfl
      have e1 := hc5.cell 1 (v := .slice ay bz.length cy) rfl
      have HOW5 := Lib.hid how5
      have HCO5 := Lib.hid hco5
      clear hg5 hc5 h5 how5 hco5 HC HC1' HB HSZ HC4 H4 HW4 HRB HOW
      go_wp2_with (at_builtin; go_must (refine wpList_pushS rtC_len rtC_one Tryz.underlying29 infoRT rfl (by decide) HOW5.out ((z, bz) : Int × Bs) (by have := HLE.out; omega) HSZ5.out rfl _ _ rfl (by rfl) _ _ _ (by rfl) (by rfl) ?_))
      intro v6 w6 ho6 hg6 hn6
      have hq : ∀ q, v.ownBlock = some q → W3.heap.size ≤ q := fun q hq => (World.ownsRow.lt HOW5.out q hq).1
      have hol := HOL.out
      have hc6 := HCO5.out.grown hg6 (fun e => by have := hq _ e; omega)
      have hc16 := HC15.out.grown hg6 (fun e => by have := hq _ e; have := HOG.out; omega)
      have hb6 := OwnS.below (own_mono HOW5.out HB3.out.size) HB5.out hg6 HB5.out.size
      have d7 := hc6.cell 7 (v := v) rfl
      have f7 := hc6.free 7
      have HC6 := Lib.hid hc6
      have HC16 := Lib.hid hc16
      have HB6 := Lib.hid hb6
      have HO6 := Lib.hid ho6
      have HSZ6 : Hid (W3.heap.size ≤ w6.heap.size) := Nat.le_trans HSZ5.out hg6.size
      have HOL6 := Lib.hid hol
      obtain ⟨a6, N6, c6, rfl⟩ : ∃ a N c, v6 = .slice a N c := by
        obtain ⟨a6, c6, hv6, -, -⟩ := (OwnS.row ho6).shape rtC_len
        exact ⟨_, _, _, hv6⟩
      clear hc6 hc16 hb6 ho6 hg6 hn6 hq hol e0 e1 hcv HCO5 HC15 HB5 HSZ5 HOW5
      go_wp2_with fail
      go_roundw
      case rel =>
        have hgs : w6.grownBy (w6.setCell ⟨o, 7, none⟩ (.slice a6 N6 c6)) (some o) := grownBy_setCell (grownBy_refl _ _) ⟨o, 7, none⟩ (.inl rfl) _
        refine ⟨m + 1, _, h1, by go_num, ?_, HC6.out.set 7 _, HC16.out.grown hgs (fun e => by have h1 := Option.some.inj e; have := HOG.out; omega), HB6.out.grown hgs HB6.out.size (fun k hk => by cases hk; have := HG.out; have := HOG.out; omega), by show _ ≤ _; rw [World.size_setCell]; exact HSZ6.out⟩
        have hown := own_grownS HO6.out hgs (fun q hq e => by have h1 := (World.ownsRow.lt HO6.out q hq).1; have h2 := Option.some.inj e; have := HOL6.out; omega)
        rw [HTK.out]
        rw [List.map_take]
        exact hown
      case measure => simp only [intOf]; omega
    · obtain rfl : m = acc.length := by omega
      obtain ⟨av, Nv, cv, rfl⟩ : ∃ a N c, v = .slice a N c := by
        obtain ⟨av, cv, hv, -, -⟩ := (OwnS.row HOW.out).shape rtC_len
        exact ⟨_, _, _, hv⟩
      have hcr := HC1'.out
      have hco := HC.out
      have e0 := hcr.cell 0 (v := .int .i64 0) rfl
      have e1 := hcr.cell 1 (v := .int .i64 0) rfl
      have e2 := hcr.cell 2 (v := .int .i64 0) rfl
      have e3 := hcr.cell 3 (v := .int .i64 0) rfl
      have e4 := hcr.cell 4 (v := .int .i64 0) rfl
      have e5 := hcr.cell 5 (v := .string (strB [])) rfl
      have e6 := hcr.cell 6 (v := nilS) rfl
      have e7 := hcr.cell 7 (v := nilS) rfl
      have f0 := hcr.free 0
      have f1 := hcr.free 1
      have f2 := hcr.free 2
      have f3 := hcr.free 3
      have f4 := hcr.free 4
      have f5 := hcr.free 5
      have f6 := hcr.free 6
      have f7 := hcr.free 7
      have d0 := hco.cell 0 (v := .int .i64 k) rfl
      have d1 := hco.cell 1 (v := .int .i64 a) rfl
      have d2 := hco.cell 2 (v := .int .i64 b) rfl
      have d3 := hco.cell 3 (v := .int .i64 c) rfl
      have d4 := hco.cell 4 (v := .int .i64 n) rfl
      have d5 := hco.cell 5 (v := .string (strB bs)) rfl
      have d6 := hco.cell 6 (v := .slice ak keep.length ck) rfl
      have d7 := hco.cell 7 (v := .slice av Nv cv) rfl
      rw [List.take_length, HT.out] at HOW
      clear hcr hco
      go_wp2_with fail
      have hgs := grown_set8 (W := wr) (g := g + 1) (.int .i64 k) (.int .i64 a) (.int .i64 b) (.int .i64 c) (.int .i64 n) (.string (strB bs)) (.slice ak keep.length ck) (.slice av Nv cv)
      have hcz := rcells_set8 HC1'.out k a b c n bs (.slice ak keep.length ck) (.slice av Nv cv)
      have hbz := HB.out.grown hgs HB.out.size (fun k hk => by cases hk; have := HG.out; omega)
      have how := own_grownS HOW.out hgs (fun q hq e => by have h1 := (World.ownsRow.lt HOW.out q hq).1; have h2 := Option.some.inj e; have := HOL.out; have := HOG.out; omega)
      clear e0 e1 e2 e3 e4 e5 e6 e7 f0 f1 f2 f3 f4 f5 f6 f7 d0 d1 d2 d3 d4 d5 d6 d7 hgs
      generalize ((((((((wr.setCell ⟨g + 1, 0, none⟩ (.int .i64 k)).setCell ⟨g + 1, 1, none⟩ (.int .i64 a)).setCell ⟨g + 1, 2, none⟩ (.int .i64 b)).setCell ⟨g + 1, 3, none⟩ (.int .i64 c)).setCell ⟨g + 1, 4, none⟩ (.int .i64 n)).setCell ⟨g + 1, 5, none⟩ (.string (strB bs))).setCell ⟨g + 1, 6, none⟩ (.slice ak keep.length ck)).setCell ⟨g + 1, 7, none⟩ (.slice av Nv cv)) = W9 at hcz hbz how ⊢
      exact bodyPost_ret (v := .agg (rCells k a b c n bs (.slice ak keep.length ck) (.slice av Nv cv))) (results_cell_row rfl _ W9 (g + 1) 31 (rCells k a b c n bs (.slice ak keep.length ck) (.slice av Nv cv)) (0, 0) _ rfl hcz Tryz.underlying31 rfl rfl) rfl ⟨_, rfl, ⟨(HROW.out W9 hbz).2.1, OwnS.row how⟩, fun q hq => ⟨Nat.le_trans HB3.out.size (World.ownsRow.lt how q hq).1, (World.ownsRow.lt how q hq).2⟩, hbz⟩
end Go.Proofs.YtbcpciegdmminaaGreatDoor
