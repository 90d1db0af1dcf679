/- Scripts: a torn sector of a word, walked. -/
import Derived.Test.YtbcpciegdmminaaGreatDoorScI
namespace Go.Proofs.YtbcpciegdmminaaGreatDoor
open Go Go.RowKit
set_option linter.unusedVariables false
theorem VarsS.grown {aS aR : Addr} {w w' : World} {r : Nat} {ws : List Bs} {bad : Bool} (h : VarsS aS aR w) (hd : RD w r ws bad) (hg : w.grownBy w' (some r)) : VarsS aS aR w' := by
  obtain ⟨wa, wc, hc, -, -⟩ := hd
  have h0 := hc.cell 0 (v := .slice wa ws.length wc) rfl
  obtain ⟨h1, h2, m, h3⟩ := h
  have keep : ∀ (g : Nat) (u : Value), w.cell? ⟨g, 0, none⟩ = some u → (∀ a n c, u ≠ .slice a n c) → w'.cell? ⟨g, 0, none⟩ = some u := fun g u hu hn => by
    have hlt := World.block_lt_of_cell? w ⟨g, 0, none⟩ hu
    refine (World.cell?_of_block (a := ⟨g, 0, none⟩) (hg.block _ hlt (fun e => ?_))).trans hu
    have e2 : g = r := (Option.some.inj e).symm ▸ rfl
    subst e2
    rw [h0] at hu
    exact hn _ _ _ (Option.some.inj hu).symm
  exact ⟨keep _ _ h1 (fun _ _ _ e => by cases e), keep _ _ h2 (fun _ _ _ e => by cases e), m, keep _ _ h3 (fun _ _ _ e => by cases e)⟩
theorem RD.grown {w w' : World} {r : Nat} {ws : List Bs} {bad b : Bool} (h : RD w r ws bad) (hg : w.grownBy w' (some r)) (hc : ∀ vw, CellsAt w r 73 #[vw, .bool bad] → CellsAt w' r 73 #[vw, .bool b]) : RD w' r ws b := by
  obtain ⟨wa, wc, h1, hr, hne⟩ := h
  exact ⟨wa, wc, hc _ h1, (Grew.ofGrown hg).row hr (fun k hk hm => Nat.ne_of_lt (hne k hk) (List.mem_singleton.1 hm)), hne⟩
theorem numberR {aS aR : Addr} {w : World} {r : Nat} {ws : List Bs} {bad : Bool} (h : RD w r ws bad) (hV : VarsS aS aR w) (s : Bs) (hs : s.length ≤ 1000000) :
    Calls Tryz.prog 58 #[.pointer (some ⟨r, 0, none⟩), .string (strB s)] w fun e w' => e = .returned (.int .i64 ((numO s).getD 0)) ∧ RD w' r ws (bad || (numO s).isNone) ∧ w.grownBy w' (some r) := by
  obtain ⟨wa, wc, hc, hr, hne⟩ := h
  refine (number_any hV.syn hV.rng hc s hs).mono ?_
  rintro e w' ⟨h1, h2, h3⟩
  exact ⟨h1, ⟨wa, wc, h2, (Grew.ofGrown h3).row hr (fun k hk hm => Nat.ne_of_lt (hne k hk) (List.mem_singleton.1 hm)), hne⟩, h3⟩
theorem set_other {w : World} {g r j : Nat} {T : TypeId} {cs : Array Value} {u : Value} (h : CellsAt w r T cs) (hne : r ≠ g) : CellsAt (w.setCell ⟨g, j, none⟩ u) r T cs := h.grown (grownBy_setCell (grownBy_refl w (some g)) ⟨g, j, none⟩ (.inl rfl) u) (fun e => hne (Option.some.inj e).symm)
theorem own_grownS {B : Nat} {w w' : World} {v : Value} {e : TypeId} {size n : Nat} {xs : List Value} {row : Option Nat} (h : w.ownsRow B e size v n xs) (hg : w.grownBy w' row) (hne : ∀ k, v.ownBlock = some k → row ≠ some k) : w'.ownsRow B e size v n xs :=
  ⟨h.1, h.2.imp id fun ⟨g, cap, cur, h1, h2, h3, h4⟩ => ⟨g, cap, cur, h1, h2, (hg.block g (lt_of_block h3) (fun e => hne g (by subst h1; rfl) e.symm)).trans h3, h4⟩⟩
theorem RD.other {w w' : World} {r g : Nat} {ws : List Bs} {bad : Bool} {T : TypeId} {c0 c1 : Value} (h : RD w r ws bad) (hc : CellsAt w g T #[c0, c1]) (h0 : ∀ s, c0 ≠ .string s) (h1 : ∀ s, c1 ≠ .string s) (hne : r ≠ g) (hg : w.grownBy w' (some g)) : RD w' r ws bad := by
  obtain ⟨wa, wc, hcr, hr, hnr⟩ := h
  refine ⟨wa, wc, hcr.grown hg (fun e => hne (Option.some.inj e).symm), ?_, hnr⟩
  cases ws with
  | nil => exact .inl ⟨rfl, rfl, _, _, rfl⟩
  | cons s t =>
    obtain ⟨aq, cq, hsl, -, hcl⟩ := hr.shape
    cases hsl
    obtain ⟨b, o, rfl, d0⟩ := hcl 0 s rfl
    refine (Grew.ofGrown hg).row hr (fun k hk hm => ?_)
    have hkb : b = k := by simpa [Value.ownBlock] using hk
    have hkg : k = g := List.mem_singleton.1 hm
    subst hkb
    rw [hkg] at d0
    have e := cell_of_row w g o _ _ _ hc
    rw [Nat.add_zero, e] at d0
    match o, d0 with
    | 0, d0 => exact h0 _ (Option.some.inj d0)
    | 1, d0 => exact h1 _ (Option.some.inj d0)
    | n + 2, d0 => simp at d0
/-- what is written elsewhere, behind the reader, leaves it -/
theorem RD.kept {w w' : World} {r : Nat} {ws : List Bs} {bad : Bool} {row : Option Nat} (h : RD w r ws bad) (hg : w.grownBy w' row) (hr : ∀ q, row = some q → r < q) : RD w' r ws bad := by
  obtain ⟨wa, wc, hc, hrw, hne⟩ := h
  have hn : ∀ q, row = some q → r ≠ q := fun q hq => Nat.ne_of_lt (hr q hq)
  refine ⟨wa, wc, hc.grown hg (fun e => hn r e rfl), ?_, hne⟩
  cases row with
  | none => exact Row.stays hrw ⟨hg.os, hg.tape, hg.output, hg.size, fun i hi => hg.block i hi (by simp)⟩
  | some q => exact (Grew.ofGrown hg).row hrw (fun k hk hm => by
      have h1 := hne k hk
      have h2 := hr q rfl
      have h3 := List.mem_singleton.1 hm
      omega)
theorem RD.lt {w : World} {r : Nat} {ws : List Bs} {bad : Bool} (h : RD w r ws bad) : r < w.heap.size := let ⟨_, _, hc, _, _⟩ := h; hc.lt
set_option maxRecDepth 100000 in
set_option maxHeartbeats 1000000 in
theorem torn_any {aS aR : Addr} {w : World} {r : Nat} {ws : List Bs} {bad : Bool} (h : RD w r ws bad) (hV : VarsS aS aR w) (s : Bs) (hs : s.length ≤ 1000000) :
    Calls Tryz.prog 63 #[.pointer (some ⟨r, 0, none⟩), .string (strB s)] w fun e w' => ∃ (n : Int) (v : Value) (bs : Bs), e = .returned (.agg #[.int .i64 n, v]) ∧ OwnB w.heap.size w' v bs ∧ (∀ t, getT s = some t → n = t.1 ∧ bs = t.2) ∧ RD w' r ws (bad || (getT s).isNone) ∧ w.grownBy w' (some r) := by
  obtain ⟨W0, hW0⟩ : ∃ W0, W0 = w.alloc (.cells #[.int .i64 0, .slice none 0 0] 57) := ⟨_, rfl⟩
  obtain ⟨g, hg⟩ : ∃ g, g = w.heap.size := ⟨_, rfl⟩
  have hb0 : Below w.heap.size w W0 := by rw [hW0]; exact (Below.refl _ _).alloc (Nat.le_refl _) _
  have hc0 : CellsAt W0 g 57 #[.int .i64 0, .slice none 0 0] := by rw [hW0, hg]; exact CellsAt.new w _ _
  have hlt := h.lt
  have HCUT := Lib.hid (cut58_any (hV.stays hb0) s hs)
  have hrg : r ≠ g := by omega
  have HRG := Lib.hid hrg
  have H := Lib.hid h
  have HD0 := Lib.hid (h.stays hb0)
  have HV0 := Lib.hid (hV.stays hb0)
  have HB0 := Lib.hid hb0
  have HC0 := Lib.hid hc0
  have HW := Lib.hid hW0
  have HG := Lib.hid hg
  clear h hV hW0 hg hb0 hc0 hlt hrg
  go_enter Tryz.func63, Tryz.ntmps63
  go_upto_region 1 with fail
  rw [← HW.out, ← HG.out]
  clear HW
  go_wp2_with fail
  refine HCUT.out.mono ?_
  rintro e w1 ⟨x, y, is, rfl, hcut, hb1⟩
  have hrg := HRG.out
  have hgr : g ≠ r := fun e => hrg e.symm
  have hrd := HD0.out.stays hb1
  have hv1 := HV0.out.stays hb1
  have hc1 := HC0.out.stays hb1
  have hb01 : Below w.heap.size w w1 := HB0.out.trans (hb1.mono HB0.out.size)
  clear HCUT HD0 HV0 HB0 HC0 hb1
  cases hq : cutAt 58 s with
  | none =>
    rw [hq] at hcut
    simp only at hcut
    subst hcut
    have HN : Hid (getT s = none) := by show _ = _; unfold getT; rw [hq]
    obtain ⟨c1, f1⟩ := hrd.cells
    have d0 := hc1.cell 0 (v := .int .i64 0) rfl
    have d1 := hc1.cell 1 (v := .slice none 0 0) rfl
    have k0 := hc1.free 0
    have k1 := hc1.free 1
    have HRD := Lib.hid hrd
    have HC1 := Lib.hid hc1
    have HB := Lib.hid hb01
    clear hrd hv1 hc1 hb01 hq
    go_wp2_with fail
    have hgw : w.heap.size ≤ g := Nat.le_of_eq HG.out.symm
    have hgF : w.grownBy (((w1.setCell ⟨r, 1, none⟩ (.bool true)).setCell ⟨g, 0, none⟩ (.int .i64 0)).setCell ⟨g, 1, none⟩ (.slice none 0 0)) (some r) := grownBy_setCell (grownBy_setCell (grownBy_setCell (grown_none HB.out) ⟨r, 1, none⟩ (.inl rfl) _) ⟨g, 0, none⟩ (.inr hgw) _) ⟨g, 1, none⟩ (.inr hgw) _
    refine bodyPost_ret (v := .agg #[.int .i64 0, .slice none 0 0]) (by simp [results, Tryz.results63, go_sem, d0, d1]) rfl ⟨0, .slice none 0 0, [], rfl, OwnB.nil _ _, fun t ht => (by rw [HN.out] at ht; cases ht), ?_, hgF⟩
    rw [HN.out]
    refine H.out.grown hgF (fun vw hc => ?_)
    have h2 : CellsAt (w1.setCell ⟨r, 1, none⟩ (.bool true)) r 73 #[vw, .bool true] := by simpa using (hc.stays HB.out).set 1 (.bool true)
    simpa using set_other (set_other h2 hrg) hrg
  | some p =>
    obtain ⟨p, q⟩ := p
    rw [hq] at hcut
    simp only at hcut
    obtain ⟨rfl, rfl, rfl⟩ := hcut
    have hsl := congrArg List.length (cut_some 58 s _ _ hq)
    rw [List.length_append, List.length_cons] at hsl
    have HT : Hid (getT s = match numO x, unB y with | some n, some b => some (n, b) | _, _ => none) := by
      show _ = _
      unfold getT
      rw [hq]
      cases h1 : numO x with
      | none => simp [h1]
      | some n => cases h2 : unB y <;> simp [h1, h2]
    have HNUM := Lib.hid (numberR hrd hv1 x (by omega))
    have HY : Hid (y.length ≤ 1000000) := by show _ ≤ _; omega
    have HC1 := Lib.hid hc1
    have HB := Lib.hid hb01
    clear hrd hv1 hc1 hb01 hq hsl
    go_wp2_with fail
    refine HNUM.out.mono ?_
    rintro e w2 ⟨rfl, hr2, hg2⟩
    have HBY := Lib.hid (bytes_any hr2 y HY.out)
    have HG2 := Lib.hid hg2
    clear HNUM hr2 hg2
    go_wp2_with fail
    refine HBY.out.mono ?_
    rintro e w3 ⟨v3, rfl, ho3, hr3, hg3⟩
    have hc3 : CellsAt w3 g 57 #[.int .i64 0, .slice none 0 0] := (HC1.out.grown HG2.out (fun e => hrg (Option.some.inj e))).grown hg3 (fun e => hrg (Option.some.inj e))
    obtain ⟨BS, hBS⟩ : ∃ BS, BS = (unB y).getD [] := ⟨_, rfl⟩
    rw [← hBS] at ho3
    obtain ⟨av, cv, rfl, -, -⟩ := ho3.row.gen.shape
    have d0 := hc3.cell 0 (v := .int .i64 0) rfl
    have d1 := hc3.cell 1 (v := .slice none 0 0) rfl
    have k0 := hc3.free 0
    have k1 := hc3.free 1
    obtain ⟨NN, hNN⟩ : ∃ NN, NN = (numO x).getD 0 := ⟨_, rfl⟩
    rw [← hNN]
    have hgw : w.heap.size ≤ g := Nat.le_of_eq HG.out.symm
    have hlt2 : g < w2.heap.size := ((HC1.out.grown HG2.out (fun e => hrg (Option.some.inj e)))).lt
    have hg13 : w.grownBy w3 (some r) := grownBy_trans (grownBy_trans (grown_none HB.out) HG2.out) hg3
    have hgF : w.grownBy ((w3.setCell ⟨g, 0, none⟩ (.int .i64 NN)).setCell ⟨g, 1, none⟩ (.slice av BS.length cv)) (some r) := grownBy_setCell (grownBy_setCell hg13 ⟨g, 0, none⟩ (.inr hgw) _) ⟨g, 1, none⟩ (.inr hgw) _
    have hgg : w3.grownBy ((w3.setCell ⟨g, 0, none⟩ (.int .i64 NN)).setCell ⟨g, 1, none⟩ (.slice av BS.length cv)) (some g) := grownBy_setCell (grownBy_setCell (grownBy_refl _ _) ⟨g, 0, none⟩ (.inl rfl) _) ⟨g, 1, none⟩ (.inl rfl) _
    have hoF : OwnB w.heap.size ((w3.setCell ⟨g, 0, none⟩ (.int .i64 NN)).setCell ⟨g, 1, none⟩ (.slice av BS.length cv)) (.slice av BS.length cv) BS := own_mono (own_grownS ho3 hgg (fun k hk e => by
      have h1 := (World.ownsRow.lt ho3 k hk).1
      have h2 := Option.some.inj e
      omega)) (by have := HB.out.size; have := HG2.out.size; omega)
    have hrF := hr3.other hc3 (fun s e => by cases e) (fun s e => by cases e) hrg hgg
    have HGF := Lib.hid hgF
    have HOF := Lib.hid hoF
    have HRF := Lib.hid hrF
    have HBS := Lib.hid hBS
    have HNN := Lib.hid hNN
    clear HBY ho3 hr3 hg3 hg13 hgF hgg hoF hrF hBS hNN
    go_wp2_with fail
    refine bodyPost_ret (v := .agg #[.int .i64 NN, .slice av BS.length cv]) (by simp [results, Tryz.results63, go_sem, d0, d1]) rfl ⟨NN, .slice av BS.length cv, BS, rfl, HOF.out, fun t ht => ?_, ?_, HGF.out⟩
    · rw [HT.out] at ht
      rw [HBS.out, HNN.out]
      cases h1 : numO x with
      | none => rw [h1] at ht; cases ht
      | some n =>
        cases h2 : unB y with
        | none => rw [h1, h2] at ht; cases ht
        | some b => rw [h1, h2] at ht; cases ht; exact ⟨rfl, rfl⟩
    · have h3 := HRF.out
      rw [HT.out]
      cases h1 : numO x with
      | none => rw [h1] at h3; simpa using h3
      | some n =>
        cases h2 : unB y with
        | none => rw [h1, h2] at h3; simpa using h3
        | some b => rw [h1, h2] at h3; simpa using h3
end Go.Proofs.YtbcpciegdmminaaGreatDoor
