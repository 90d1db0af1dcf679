/- The document's Find. -/
import Derived.Test.YthabjnppmhlomaaDoorPnR
namespace Go.Proofs.YthabjnppmhlomaaDoor
open Go Go.RowKit
set_option linter.unusedVariables false
/-- what the document's Find answers -/
def RFindP (L : List Eg) (tgt : Int) (w : World) (e : Ending) (w' : World) : Prop :=
  ∃ (x : WM) (k : Int), e = .returned (.tuple #[.agg #[.bool x.1.th, .int .i64 x.1.sum, .slice x.2.1 x.1.path.length x.2.2], .int .i64 k]) ∧ RowZ w' (.slice x.2.1 x.1.path.length x.2.2) x.1.path ∧ Below w.heap.size w w' ∧ (rightL L = false → x.1 = wy0 ∧ k = 9) ∧ (rightL L = true → ∃ C : Int → Option Tr, Least L C ∧ ((∃ t, C tgt = some t ∧ x.1 = wyOf (some t) ∧ k = 0) ∨ (C tgt = none ∧ x.1 = wy0 ∧ k = 14)))
theorem Least.range {L : List Eg} (hL : RightE L) {C : Int → Option Tr} (h : Least L C) {v : Int} (hv : v < 0 ∨ 399 < v) : C v = none := by
  cases hq : C v with
  | none => rfl
  | some t =>
    obtain ⟨h1, h2, h3⟩ := (h v).1 t hq
    have hb := h1.bd hL
    have := hb.2.2.2.2.2.2.1 h3
    omega
section
variable {w : World} {L : List Eg} {la : Option Addr} {lc : Nat}
set_option maxRecDepth 100000 in
set_option maxHeartbeats 1000000 in
theorem rfind_any (hlen : L.length ≤ 3000) (hr : RowS eC w (.slice la L.length lc) L) (tgt : Int) (hto : i64 tgt) (hex : rightL L = true → ∃ C, Least L C) :
    Calls Tryd.prog 11 #[.slice la L.length lc, .int .i64 tgt] w (RFindP L tgt w) := by
  obtain ⟨W0, hW0⟩ : ∃ W0, W0 = w.alloc (.cells #[.bool false, .int .i64 0, .slice none 0 0] 36) := ⟨_, rfl⟩
  have hb0 : Below w.heap.size w W0 := by rw [hW0]; exact (Below.refl _ _).alloc (Nat.le_refl _) _
  have hc0 : CellsAt W0 w.heap.size 36 #[.bool false, .int .i64 0, .slice none 0 0] := by rw [hW0]; exact CellsAt.new w _ _
  have HRI := Lib.hid (rright_any (hr.stays hb0) hlen)
  have HR : Hid (∀ W, Below W0.heap.size W0 W → RowS eC W (.slice la L.length lc) L) := fun W hb => (hr.stays hb0).stays hb
  obtain ⟨G, hG⟩ : ∃ G, G = w.heap.size := ⟨_, rfl⟩
  rw [← hG] at hc0
  have HW0 := Lib.hid hW0
  have HG := Lib.hid hG
  have HB0 := Lib.hid hb0
  have HC0 := Lib.hid hc0
  have HEX := Lib.hid hex
  clear hr hex hW0 hG hb0 hc0
  go_enter Tryd.func11, Tryd.ntmps11
  go_upto_region 1 with fail
  rw [← HW0.out, ← HG.out]
  go_wp2_with fail
  refine HRI.out.mono ?_
  rintro e w1 ⟨rfl, hb1⟩
  obtain ⟨R, hR⟩ : ∃ R, R = rightL L := ⟨_, rfl⟩
  rw [← hR]
  have HRR := Lib.hid hR
  have HB1 := Lib.hid hb1
  have hc1 := HC0.out.stays hb1
  clear hb1 hR HRI
  cases R with
  | false =>
    have c0 := hc1.cell 0 rfl
    have c1 := hc1.cell 1 rfl
    have c2 := hc1.cell 2 rfl
    have f0 := hc1.free 0
    have f1 := hc1.free 1
    have f2 := hc1.free 2
    have HC1 := Lib.hid hc1
    clear hc1
    go_wp2_with fail
    exact bodyPost_ret (v := .tuple #[.agg #[.bool false, .int .i64 0, .slice none 0 0], .int .i64 9]) (by simp [results, Tryd.results11, go_sem, c0, c1, c2]) rfl ⟨((wy0, none, 0) : WM), 9, rfl, RowL.nil _, (((HB0.out.trans (HB1.out.mono HB0.out.size)).setCell (p := ⟨G, 0, none⟩) (Nat.le_of_eq HG.out.symm) _).setCell (p := ⟨G, 1, none⟩) (Nat.le_of_eq HG.out.symm) _).setCell (p := ⟨G, 2, none⟩) (Nat.le_of_eq HG.out.symm) _, fun _ => ⟨rfl, rfl⟩, fun h => by rw [← HRR.out] at h; cases h⟩
  | true =>
    have hRE := (rightL_iff L).1 HRR.out.symm
    have c0 := hc1.cell 0 rfl
    have c1 := hc1.cell 1 rfl
    have c2 := hc1.cell 2 rfl
    have f0 := hc1.free 0
    have f1 := hc1.free 1
    have f2 := hc1.free 2
    have HC1 := Lib.hid hc1
    clear hc1
    by_cases h0 : tgt < 0
    · have HN : ∀ C : Int → Option Tr, Least L C → C tgt = none := fun C hC => hC.range hRE (.inl h0)
      have HNN := Lib.hid HN
      have HREE := Lib.hid hRE
      clear HN hRE
      go_wp2_with fail
      exact bodyPost_ret (v := .tuple #[.agg #[.bool false, .int .i64 0, .slice none 0 0], .int .i64 14]) (by simp [results, Tryd.results11, go_sem, c0, c1, c2]) rfl ⟨((wy0, none, 0) : WM), 14, rfl, RowL.nil _, (((HB0.out.trans (HB1.out.mono HB0.out.size)).setCell (p := ⟨G, 0, none⟩) (Nat.le_of_eq HG.out.symm) _).setCell (p := ⟨G, 1, none⟩) (Nat.le_of_eq HG.out.symm) _).setCell (p := ⟨G, 2, none⟩) (Nat.le_of_eq HG.out.symm) _, (fun h => by rw [← HRR.out] at h; cases h), (fun h => by obtain ⟨C, hC⟩ := HEX.out h; exact ⟨C, hC, .inr ⟨HNN.out C hC, rfl, rfl⟩⟩)⟩
    · by_cases h1 : tgt > 399
      · have HN : ∀ C : Int → Option Tr, Least L C → C tgt = none := fun C hC => hC.range hRE (.inr h1)
        have HNN := Lib.hid HN
        have HREE := Lib.hid hRE
        clear HN hRE
        go_wp2_with fail
        exact bodyPost_ret (v := .tuple #[.agg #[.bool false, .int .i64 0, .slice none 0 0], .int .i64 14]) (by simp [results, Tryd.results11, go_sem, c0, c1, c2]) rfl ⟨((wy0, none, 0) : WM), 14, rfl, RowL.nil _, (((HB0.out.trans (HB1.out.mono HB0.out.size)).setCell (p := ⟨G, 0, none⟩) (Nat.le_of_eq HG.out.symm) _).setCell (p := ⟨G, 1, none⟩) (Nat.le_of_eq HG.out.symm) _).setCell (p := ⟨G, 2, none⟩) (Nat.le_of_eq HG.out.symm) _, (fun h => by rw [← HRR.out] at h; cases h), (fun h => by obtain ⟨C, hC⟩ := HEX.out h; exact ⟨C, hC, .inr ⟨HNN.out C hC, rfl, rfl⟩⟩)⟩
      · have HWA : Hid (∀ W, Below w1.heap.size w1 W → Calls Tryd.prog 17 #[.slice la L.length lc] W fun e w' => ∃ (C : Int → Option Tr) (x : WM) (g : Nat), e = .returned (.slice (some ⟨g, 0, none⟩) 400 400) ∧ Least L C ∧ x.1 = wyOf (C tgt) ∧ RowZ w' (.slice x.2.1 x.1.path.length x.2.2) x.1.path ∧ w'.cell? ⟨g, tgt.toNat * 3, none⟩ = some (.bool x.1.th) ∧ w'.cell? ⟨g, tgt.toNat * 3 + 1, none⟩ = some (.int .i64 x.1.sum) ∧ w'.cell? ⟨g, tgt.toNat * 3 + 2, none⟩ = some (.slice x.2.1 x.1.path.length x.2.2) ∧ Below W.heap.size W w' ∧ Below w1.heap.size w1 w' ∧ ∀ k, (Value.slice x.2.1 x.1.path.length x.2.2).ownBlock = some k → w1.heap.size ≤ k) := fun W hW =>
          (ways_any hRE hlen (HR.out W (HB1.out.trans (hW.mono HB1.out.size)))).mono fun _ _ ⟨C, out, g, h1, h2, h3, h4, h5, h6⟩ => by
            obtain ⟨x, hx⟩ : ∃ x, out[tgt.toNat]? = some x := ⟨_, List.getElem?_eq_getElem (by omega)⟩
            obtain ⟨-, y0, y1, y2, -⟩ := wayCells h5 hx
            obtain ⟨k1, k2⟩ := h4 _ _ hx
            rw [show ((tgt.toNat : Nat) : Int) = tgt by omega] at k1
            exact ⟨C, x, g, h1, h2, k1, k2.1, y0, y1, y2, h6, hW.trans (h6.mono hW.size), fun k hk => Nat.le_trans hW.size (k2.2 k hk).2⟩
        have HREE := Lib.hid hRE
        have i0 : 0 ≤ tgt := by omega
        have i1 : tgt < 400 := by omega
        have hd0 : Below w1.heap.size w1 w1 := Below.refl _ _
        clear hRE h0 h1
        go_wp2_with fail
        refine (HWA.out _ hd0).mono ?_
        rintro e w5 ⟨C, ⟨⟨xt, xs, xp⟩, xa, xc⟩, g5, rfl, hLe, hx1, hx2, y0, y1, y2, hb5, -, hown⟩
        simp only at hx1 hx2 y0 y1 y2 hown
        have HLE := Lib.hid hLe
        have HX1 := Lib.hid hx1
        have HX2 := Lib.hid hx2
        have hc5 := HC1.out.stays hb5
        have HGO : Hid (∀ k, (Value.slice xa xp.length xc).ownBlock = some k → k ≠ G) := fun k hk e => by
          have h1 := hown k hk
          have h2 := HC1.out.lt
          omega
        have c0 := hc5.cell 0 rfl
        have c1 := hc5.cell 1 rfl
        have c2 := hc5.cell 2 rfl
        have f0 := hc5.free 0
        have f1 := hc5.free 1
        have f2 := hc5.free 2
        have HB5 := Lib.hid hb5
        have HG5 : Hid (G < w5.heap.size) := hc5.lt
        have hg5 : G < w5.heap.size := hc5.lt
        clear hLe hx1 hx2 hc5 hb5 hd0 HWA hown
        cases xt with
        | false =>
          have HN : Hid (C tgt = none) := by
            have h := HX1.out
            cases hq : C tgt with
            | none => rfl
            | some t => rw [hq] at h; cases h
          go_wp2_with fail
          exact bodyPost_ret (v := .tuple #[.agg #[.bool false, .int .i64 0, .slice none 0 0], .int .i64 14]) (by simp [results, Tryd.results11, go_sem, c0, c1, c2, hg5]) rfl ⟨((wy0, none, 0) : WM), 14, rfl, RowL.nil _, below_al ((((HB0.out.trans (HB1.out.mono HB0.out.size)).trans (HB5.out.mono (HB0.out.trans (HB1.out.mono HB0.out.size)).size)).setCell (p := ⟨G, 0, none⟩) (Nat.le_of_eq HG.out.symm) _).setCell (p := ⟨G, 1, none⟩) (Nat.le_of_eq HG.out.symm) _ |>.setCell (p := ⟨G, 2, none⟩) (Nat.le_of_eq HG.out.symm) _) _, (fun h => by rw [← HRR.out] at h; cases h), (fun _ => ⟨C, HLE.out, .inr ⟨HN.out, rfl, rfl⟩⟩)⟩
        | true =>
          have HN : Hid (∃ t, C tgt = some t ∧ (⟨true, xs, xp⟩ : Wy) = wyOf (some t)) := by
            have h := HX1.out
            cases hq : C tgt with
            | none => rw [hq] at h; cases h
            | some t => rw [hq] at h; exact ⟨t, rfl, h⟩
          go_wp2_with fail
          refine bodyPost_ret (v := .tuple #[.agg #[.bool true, .int .i64 xs, .slice xa xp.length xc], .int .i64 0]) (by simp [results, Tryd.results11, go_sem, c0, c1, c2, hg5]) rfl ⟨((⟨true, xs, xp⟩, xa, xc) : WM), 0, rfl, Row.stays ((Grew.ofGrown (grown_three (g := G) (a := 0) (b := 1) (d := 2) (grownBy_refl w5 (some G)))).row HX2.out (fun k hk hm => HGO.out k hk (List.mem_singleton.1 hm))) (below_al (Below.refl _ _) _), below_al ((((HB0.out.trans (HB1.out.mono HB0.out.size)).trans (HB5.out.mono (HB0.out.trans (HB1.out.mono HB0.out.size)).size)).setCell (p := ⟨G, 0, none⟩) (Nat.le_of_eq HG.out.symm) _).setCell (p := ⟨G, 1, none⟩) (Nat.le_of_eq HG.out.symm) _ |>.setCell (p := ⟨G, 2, none⟩) (Nat.le_of_eq HG.out.symm) _) _, (fun h => by rw [← HRR.out] at h; cases h), (fun _ => ?_)⟩
          obtain ⟨t, h1, h2⟩ := HN.out
          exact ⟨C, HLE.out, .inl ⟨t, h1, h2, rfl⟩⟩
end
end Go.Proofs.YthabjnppmhlomaaDoor
