/- The cheapest way tgt a version. -/
import Derived.Test.YthabjnppmhlomaaDoorPnK
namespace Go.Proofs.YthabjnppmhlomaaDoor
open Go Go.RowKit
set_option linter.unusedVariables false
/-- what Way answers of right edges -/
def WayP (L : List Eg) (tgt : Int) (ea : Nat → Addr) (w : World) (e : Ending) (w' : World) : Prop :=
  ∃ (B : Int → Option Tr) (v : Value) (xs : List Int) (s : Int) (k : Nat), e = .returned (.tuple #[v, .int .i64 s, EV ea k]) ∧ Least L B ∧ RowZ w' v xs ∧ Below w.heap.size w w' ∧ ((∃ t, B tgt = some t ∧ xs = t.path ∧ s = t.sum ∧ k = 0) ∨ (B tgt = none ∧ xs = [] ∧ s = 0 ∧ k = 14))
section
variable {w : World} {L : List Eg} {la : Option Addr} {lc : Nat}
set_option maxRecDepth 100000 in
theorem way_ok (hL : rightL L = true) (hlen : L.length ≤ 3000) (hr : RowS eC w (.slice la L.length lc) L) (tgt : Int) (hto : i64 tgt) (ea : Nat → Addr) (he14 : ErrAt w 1 (ea 14)) :
    Calls Tryd.prog 8 #[.slice la L.length lc, .int .i64 tgt] w (WayP L tgt ea w) := by
  have hRE := (rightL_iff L).1 hL
  have HRI := Lib.hid (right_any hr hlen)
  rw [hL] at HRI
  have HFD : Hid (∀ W, Below w.heap.size w W → Calls _ _ _ W _) := fun W hb => find_any hRE hlen (hr.stays hb)
  have HE14 := Lib.hid he14
  have HRE := Lib.hid hRE
  clear hr he14 hL hRE
  go_enter Tryd.func8, Tryd.ntmps8
  go_wp2_with fail
  refine HRI.out.mono ?_
  rintro e w1 ⟨rfl, hb1⟩
  have HFD1 := Lib.hid (HFD.out w1 hb1)
  have HB1 := Lib.hid hb1
  clear HRI HFD hb1
  go_wp2_with fail
  refine HFD1.out.mono ?_
  rintro e w2 ⟨B, F, mf, mb, fr, qv, Bm, nb, rfl, hFI, hLe, hb2⟩
  have k2 : w2.cell? ⟨F, 2, none⟩ = some (.map (some mb)) := hFI.q.1.1.cell 2 rfl
  have hbb : Below w.heap.size w w2 := HB1.out.trans (hb2.mono HB1.out.size)
  have hlk := lookI_run hFI.best Tryd.underlying3 Tryd.underlying59 (zeroT w2) tgt hto
  cases hq : Bm tgt with
  | none =>
    rw [hq] at hlk
    change _ = Result.ok (Value.tuple #[.agg #[.int .i64 0, .int .i64 0, .slice none 0 0], .bool false]) w2 at hlk
    have HQ : Hid (BT Bm tgt = none) := by show _ = _; unfold BT; rw [hq]; rfl
    have HLE := Lib.hid hLe
    have HBB := Lib.hid hbb
    have he := HE14.out.stays hbb
    have helt := he.lt
    unfold ErrAt at he
    clear hFI hLe hbb hb2 hq HFD1 HB1
    go_wp2_with fail
    go_quiet (fail)
    go_wp2_with fail
    go_ret3
    exact ⟨BT Bm, .slice none 0 0, [], 0, 14, rfl, HLE.out, RowL.nil _, HBB.out.trans (Below.mono (below_drewQ ((Below.refl _ _).alloc (Nat.le_refl _) _)) HBB.out.size), .inr ⟨HQ.out, rfl, rfl, rfl⟩⟩
  | some x =>
    obtain ⟨⟨xt, xsu, xp⟩, xa, xc⟩ := x
    rw [hq] at hlk
    change _ = Result.ok (Value.tuple #[.agg #[.int .i64 xt, .int .i64 xsu, .slice xa xp.length xc], .bool true]) w2 at hlk
    have HQ : Hid (BT Bm tgt = some ⟨xt, xsu, xp⟩) := by show _ = _; unfold BT; rw [hq]; rfl
    have hok := hFI.trips _ _ hq
    have HLE := Lib.hid hLe
    have HBB := Lib.hid hbb
    have HCL : Hid (∀ W, Below w2.heap.size w2 W → Calls Tryd.prog 22 #[.slice xa xp.length xc] W fun e w' => ∃ v', e = .returned v' ∧ OwnL 3 IV W.heap.size w' v' xp ∧ Below W.heap.size W w') := fun W hW => cloneZ_any _ xp W (Row.stays hok.2.2.2.1 hW) (by have := hok.2.2.1; simp only at this; omega)
    obtain ⟨W3, hW3⟩ : ∃ W3, W3 = w2.alloc (.cells #[.int .i64 xt, .int .i64 xsu, .slice xa xp.length xc] 56) := ⟨_, rfl⟩
    obtain ⟨g6, hg6⟩ : ∃ g6, g6 = w2.heap.size := ⟨_, rfl⟩
    have hb3 : Below w2.heap.size w2 W3 := by rw [hW3]; exact (Below.refl _ _).alloc (Nat.le_refl _) _
    have hc6 : CellsAt W3 g6 56 #[.int .i64 xt, .int .i64 xsu, .slice xa xp.length xc] := by rw [hW3, hg6]; exact CellsAt.new w2 _ _
    have HS : Hid (∀ W, Below W3.heap.size W3 W → Below W3.heap.size W3 W ∧ W.cell? ⟨g6, 1, none⟩ = some (.int .i64 xsu) ∧ W.cell? ⟨g6, 2, none⟩ = some (.slice xa xp.length xc)) := fun W hW => ⟨hW, (hc6.stays hW).cell 1 rfl, (hc6.stays hW).cell 2 rfl⟩
    have HCL3 : Hid (∀ W, Below W3.heap.size W3 W → Calls Tryd.prog 22 #[.slice xa xp.length xc] W fun e w' => ∃ v', e = .returned v' ∧ OwnL 3 IV W.heap.size w' v' xp ∧ Below W3.heap.size W3 w') := fun W hW =>
      (HCL.out W (hb3.trans (hW.mono hb3.size))).mono fun _ _ ⟨v', h1, h2, h3⟩ => ⟨v', h1, h2, hW.trans (h3.mono hW.size)⟩
    have HB3 : Hid (Below w.heap.size w W3) := hbb.trans (hb3.mono hbb.size)
    have HW3 := Lib.hid hW3
    have HG6 := Lib.hid hg6
    clear hFI hLe hbb hb2 hq HFD1 HB1 hok hb3 hc6 hW3 hg6 HCL
    go_upto_region 6 with fail
    rw [← HW3.out, ← HG6.out]
    clear hlk k2
    have hd0 : Below W3.heap.size W3 W3 := Below.refl _ _
    have hd1 : Below W3.heap.size W3 W3.drew := hd0.drew
    go_region_held3 (fun W => Below W3.heap.size W3 W ∧ W.cell? ⟨g6, 1, none⟩ = some (.int .i64 xsu) ∧ W.cell? ⟨g6, 2, none⟩ = some (.slice xa xp.length xc))
      (exact HS.out _ (by assumption))
      ((go_at_call 22; (with_reducible refine (HCL3.out _ hd1).mono ?_); rintro e5 w5 ⟨v5, rfl, ho5, hb5⟩; have HO5 := Lib.hid ho5; clear ho5))
    all_goals go_wp2_with fail
    all_goals go_ret3
    all_goals exact ⟨BT Bm, v5, xp, xsu, 0, rfl, HLE.out, HO5.out.row, HB3.out.trans (hb5.mono HB3.out.size), .inl ⟨_, HQ.out, rfl, rfl, rfl⟩⟩
theorem way_bad (hL : rightL L = false) (hlen : L.length ≤ 3000) (hr : RowS eC w (.slice la L.length lc) L) (tgt : Int) (ea : Nat → Addr) (he9 : ErrAt w 0 (ea 9)) :
    Calls Tryd.prog 8 #[.slice la L.length lc, .int .i64 tgt] w fun e w' => e = .returned (.tuple #[.slice none 0 0, .int .i64 0, EV ea 9]) ∧ Below w.heap.size w w' := by
  have HRI := Lib.hid (right_any hr hlen)
  rw [hL] at HRI
  have HE9 := Lib.hid he9
  clear hr he9 hL
  go_enter Tryd.func8, Tryd.ntmps8
  go_wp2_with fail
  refine HRI.out.mono ?_
  rintro e w1 ⟨rfl, hb1⟩
  have he := HE9.out.stays hb1
  have helt := he.lt
  unfold ErrAt at he
  have HB1 := Lib.hid hb1
  clear HRI hb1
  go_wp2_with fail
  go_quiet (fail)
  go_wp2_with fail
  go_ret3
  exact ⟨rfl, below_drewQ HB1.out⟩
end
end Go.Proofs.YthabjnppmhlomaaDoor
