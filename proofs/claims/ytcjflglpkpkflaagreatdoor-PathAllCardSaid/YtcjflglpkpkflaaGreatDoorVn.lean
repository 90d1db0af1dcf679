/- Where a field stands; Get, With, Num, count. -/
import Derived.Test.YtcjflglpkpkflaaGreatDoorVm
import Derived.Deep.RegionLaw
import Derived.Deep.DrawnRows
namespace Go.Proofs.YtcjflglpkpkflaaGreatDoor
open Go Go.RowKit
set_option linter.unusedVariables false
section
variable {k : Int} {n : Nat} {t r : List UInt8} {fs : List (Int × V)} {ls : List V} {ps : List (V × V)} {fa la pa : Option Addr} {fc lc pc : Nat} {S : Nat → Prop} {w : World}
set_option maxRecDepth 100000 in
set_option maxHeartbeats 2000000 in
theorem place1_any (num key : Int) : Calls Tryz.prog 100 #[.agg #[.int .i64 num, .int .i64 k, .int .u64 (n : Int), .string (strB t), .slice fa fs.length fc, .string (strB r), .slice la ls.length lc, .slice pa ps.length pc], .int .i64 key] w fun e w' => e = .returned (.int .i64 (sgnI num key)) ∧ Below w.heap.size w w' := by
  have HBA : Hid (Below w.heap.size w (w.alloc (.cells #[.int .i64 num, .int .i64 k, .int .u64 (n : Int), .string (strB t), .slice fa fs.length fc, .string (strB r), .slice la ls.length lc, .slice pa ps.length pc] 88))) := (Below.refl _ _).alloc (Nat.le_refl _) _
  go_enter Tryz.func100, Tryz.ntmps100
  go_wp2_with (first | (go_at_call 77; refine (cmpI_any _ _ _).mono ?_; rintro e w1 ⟨rfl, rfl⟩))
  go_ret
  exact ⟨rfl, HBA.out⟩
/-- what a search answers: a place, and whether it is there -/
def PlaceP {α : Type} (c : α → Int) (l : List α) (w : World) (e : Ending) (w' : World) : Prop := ∃ i : Nat, At c l i ∧ e = .returned (.tuple #[.int .i64 (i : Int), .bool (thereB c l i)]) ∧ Below w.heap.size w w'
theorem PlaceP.mk {α : Type} {c : α → Int} {l : List α} {w w' : World} {e : Ending} (i : Nat) (h : At c l i) (b : Bool) (hb : b = thereB c l i) (he : e = .returned (.tuple #[.int .i64 (i : Int), .bool b])) (h2 : Below w.heap.size w w') : PlaceP c l w e w' := ⟨i, h, by rw [he, hb], h2⟩
set_option maxRecDepth 100000 in
set_option maxHeartbeats 4000000 in
theorem bsearchF_any (key : Int) (hr : Rep S w (.mk k n t fs r ls ps) ⟨fa, fc, la, lc, pa, pc⟩) (hR : Rises (fieldC key) fs) (hlen : fs.length ≤ 1000000) :
    Calls Tryz.prog 99 #[.slice fa fs.length fc, .int .i64 key, .func (.func 100) #[] #[]] w (PlaceP (fieldC key) fs w) := by
  have HR : Hid (∀ W, Below w.heap.size w W → Rep S W (.mk k n t fs r ls ps) ⟨fa, fc, la, lc, pa, pc⟩) := fun W hb => hr.stays hb
  have HRI := Lib.hid hR
  clear hr hR
  go_enter Tryz.func99, Tryz.ntmps99
  go_wp2_with fail
  go_loopw [9, 10] (fun x y wr => ∃ (i j : Nat), i ≤ j ∧ j ≤ fs.length ∧ x = .int .i64 i ∧ y = .int .i64 j ∧ Hid (∀ q p, q < i → fs[q]? = some p → fieldC key p < 0) ∧ Hid (∀ q p, j ≤ q → fs[q]? = some p → 0 ≤ fieldC key p) ∧ Below w.heap.size w wr) (fun x y _ => (intOf y).toNat - (intOf x).toNat)
  case atStart => exact ⟨0, fs.length, Nat.zero_le _, Nat.le_refl _, rfl, rfl, fun q p h => by omega, fun q p h h2 => by have := (List.getElem?_eq_some_iff.1 h2).1; omega, Below.refl _ _⟩
  case round =>
    obtain ⟨i, j, hij, hj, rfl, rfl, HLO, HHI, hbe⟩ := hrel
    by_cases h1 : i < j
    · obtain ⟨h, hh⟩ : ∃ h, h = (i + j) / 2 := ⟨_, rfl⟩
      have hh1 : i ≤ h := by omega
      have hh2 : h < j := by omega
      obtain ⟨⟨num, ⟨k', n', t', fs', r', ls', ps'⟩⟩, hq⟩ : ∃ p, fs[h]? = some p := ⟨_, List.getElem?_eq_getElem (by omega)⟩
      obtain ⟨b, o, fa', la', pa', fc', lc', pc', rfl, hnum, hrx, c0, c1, c2, c3, c4, c5, c6, c7⟩ := (HR.out wr hbe).fieldAt hq
      have HC : Hid (∀ W, Calls Tryz.prog 100 #[.agg #[.int .i64 num, .int .i64 k', .int .u64 (n' : Int), .string (strB t'), .slice fa' fs'.length fc', .string (strB r'), .slice la' ls'.length lc', .slice pa' ps'.length pc'], .int .i64 key] W fun e w' => e = .returned (.int .i64 (sgnI num key)) ∧ Below W.heap.size W w') := fun W => place1_any num key
      have HLO2 : Hid (sgnI num key < 0 → ∀ q p, q < h + 1 → fs[q]? = some p → fieldC key p < 0) := fun h0 q p h2 h3 => by
        rcases Nat.lt_or_ge q h with h4 | h4
        · refine Decidable.byContradiction fun h5 => ?_
          have := HRI.out q h p _ h4 h3 hq (by omega)
          have : fieldC key (num, V.mk k' n' t' fs' r' ls' ps') = sgnI num key := rfl
          omega
        · obtain rfl : q = h := by omega
          rw [hq] at h3
          cases h3
          exact h0
      have HHI2 : Hid (¬ sgnI num key < 0 → ∀ q p, h ≤ q → fs[q]? = some p → 0 ≤ fieldC key p) := fun h0 q p h2 h3 => by
        rcases Nat.lt_or_ge h q with h4 | h4
        · have := HRI.out h q _ p h4 hq h3 (by show 0 ≤ sgnI num key; omega)
          omega
        · obtain rfl : q = h := by omega
          rw [hq] at h3
          cases h3
          show 0 ≤ sgnI num key
          omega
      generalize sgnI num key = G at HC HLO2 HHI2
      have hh3 : ((i : Int) + j) / 2 = (h : Int) := by omega
      have HH3 := Lib.hid hh3
      have HH := Lib.hid hh
      rw [hh] at c0 c1 c2 c3 c4 c5 c6 c7
      clear hrx hq hh hh3
      go_wp2_with fail
      refine (HC.out _).mono ?_
      rintro e w2 ⟨rfl, hb2⟩
      have hbe2 : Below w.heap.size w w2 := hbe.trans (hb2.mono hbe.size)
      clear HC hb2 c0 c1 c2 c3 c4 c5 c6 c7
      by_cases hG : G < 0
      · have HLO3 := Lib.hid (HLO2.out hG)
        clear HLO2 HHI2
        go_wp2_with fail
        go_roundw
        case rel => exact ⟨h + 1, j, by omega, hj, congrArg (Value.int .i64) (by have := HH3.out; omega), rfl, HLO3, HHI, hbe2⟩
        case measure => have := HH3.out; simp only [intOf]; omega
      · have HHI3 := Lib.hid (HHI2.out (by omega))
        clear HLO2 HHI2
        go_wp2_with fail
        go_roundw
        case rel => exact ⟨i, h, hh1, by omega, rfl, congrArg (Value.int .i64) HH3.out, HLO, HHI3, hbe2⟩
        case measure => have := HH3.out; simp only [intOf]; omega
    · obtain rfl : i = j := by omega
      have HAT : Hid (At (fieldC key) fs i) := ⟨hj, HLO.out, HHI.out⟩
      clear HLO HHI h1 hij
      by_cases h2 : i < fs.length
      · obtain ⟨⟨num, ⟨k', n', t', fs', r', ls', ps'⟩⟩, hq⟩ : ∃ p, fs[i]? = some p := ⟨_, List.getElem?_eq_getElem h2⟩
        obtain ⟨b, o, fa', la', pa', fc', lc', pc', rfl, hnum, hrx, c0, c1, c2, c3, c4, c5, c6, c7⟩ := (HR.out wr hbe).fieldAt hq
        have HC : Hid (∀ W, Calls Tryz.prog 100 #[.agg #[.int .i64 num, .int .i64 k', .int .u64 (n' : Int), .string (strB t'), .slice fa' fs'.length fc', .string (strB r'), .slice la' ls'.length lc', .slice pa' ps'.length pc'], .int .i64 key] W fun e w' => e = .returned (.int .i64 (sgnI num key)) ∧ Below W.heap.size W w') := fun W => place1_any num key
        have HT : Hid (thereB (fieldC key) fs i = (sgnI num key == 0)) := by show _ = _; unfold thereB; rw [hq]; rfl
        generalize sgnI num key = G at HC HT
        clear hrx hq
        go_wp2_with fail
        refine (HC.out _).mono ?_
        rintro e w2 ⟨rfl, hb2⟩
        have hbe2 : Below w.heap.size w w2 := hbe.trans (hb2.mono hbe.size)
        clear HC hb2 c0 c1 c2 c3 c4 c5 c6 c7
        go_wp2_with fail
        go_ret2
        exact PlaceP.mk i HAT.out _ HT.out.symm rfl hbe2
      · have HT : Hid (false = thereB (fieldC key) fs i) := by show _ = _; unfold thereB; rw [List.getElem?_eq_none (by omega)]
        go_wp2_with fail
        go_ret2
        exact PlaceP.mk i HAT.out _ HT.out rfl hbe
set_option maxRecDepth 100000 in
set_option maxHeartbeats 2000000 in
theorem place_any (key : Int) (hr : Rep S w (.mk k n t fs r ls ps) ⟨fa, fc, la, lc, pa, pc⟩) (hR : Rises (fieldC key) fs) (hlen : fs.length ≤ 1000000) :
    Calls Tryz.prog 86 #[.agg #[.int .i64 k, .int .u64 (n : Int), .string (strB t), .slice fa fs.length fc, .string (strB r), .slice la ls.length lc, .slice pa ps.length pc], .int .i64 key] w (PlaceP (fieldC key) fs w) := by
  have HBA : Hid (Below w.heap.size w (w.alloc (.cells #[.int .i64 k, .int .u64 (n : Int), .string (strB t), .slice fa fs.length fc, .string (strB r), .slice la ls.length lc, .slice pa ps.length pc] 38))) := (Below.refl _ _).alloc (Nat.le_refl _) _
  have HC := Lib.hid (bsearchF_any key (hr.stays HBA.out) hR hlen)
  clear hr hR
  go_enter Tryz.func86, Tryz.ntmps86
  go_wp2_with fail
  refine HC.out.mono ?_
  rintro e w1 ⟨i, hi, rfl, hb⟩
  have HI := Lib.hid hi
  have HB := Lib.hid (HBA.out.trans (hb.mono HBA.out.size))
  clear hi hb
  go_wp2_with fail
  go_ret2
  exact PlaceP.mk i HI.out _ rfl rfl HB.out
set_option maxRecDepth 100000 in
set_option maxHeartbeats 2000000 in
theorem num_lit (x : Nat) (w : World) : Calls Tryz.prog 71 #[.int .u64 (x : Int)] w fun e w' => e = .returned (.agg #[.int .i64 1, .int .u64 (x : Int), .string (strB []), .slice none 0 0, .string (strB []), .slice none 0 0, .slice none 0 0]) ∧ Below w.heap.size w w' := by
  go_enter Tryz.func71, Tryz.ntmps71
  go_wp2_with fail
  exact bodyPost_ret (v := .agg #[.int .i64 1, .int .u64 (x : Int), .string (strB []), .slice none 0 0, .string (strB []), .slice none 0 0, .slice none 0 0]) (by simp [results, Tryz.results71, strB_nil, go_sem]) rfl ⟨rfl, (Below.refl _ _).alloc (Nat.le_refl _) _⟩
end
theorem below_set7 {B g : Nat} {w w1 : World} (h : Below B w w1) (hg : B ≤ g) (v0 v1 v2 v3 v4 v5 v6 : Value) : Below B w (((((((w1.setCell ⟨g, 0, none⟩ v0).setCell ⟨g, 1, none⟩ v1).setCell ⟨g, 2, none⟩ v2).setCell ⟨g, 3, none⟩ v3).setCell ⟨g, 4, none⟩ v4).setCell ⟨g, 5, none⟩ v5).setCell ⟨g, 6, none⟩ v6) :=
  (((((((h.setCell (by exact hg) _).setCell (by exact hg) _).setCell (by exact hg) _).setCell (by exact hg) _).setCell (by exact hg) _).setCell (by exact hg) _).setCell (by exact hg) _)
/-- what answers a value -/
def ValP (v : V) (w : World) (e : Ending) (w' : World) : Prop := ∃ a : A3, e = .returned (vG (v, a)) ∧ Rep (fun _ => True) w' v a ∧ Below w.heap.size w w'
theorem ValP.lit {k : Int} {n : Nat} {t r : List UInt8} {fs : List (Int × V)} {ls : List V} {ps : List (V × V)} {w w' : World} {e : Ending} (h : ValP (.mk k n t fs r ls ps) w e w') : ∃ (fa la pa : Option Addr) (fc lc pc : Nat), e = .returned (.agg #[.int .i64 k, .int .u64 (n : Int), .string (strB t), .slice fa fs.length fc, .string (strB r), .slice la ls.length lc, .slice pa ps.length pc]) ∧ Rep (fun _ => True) w' (.mk k n t fs r ls ps) ⟨fa, fc, la, lc, pa, pc⟩ ∧ Below w.heap.size w w' := by
  obtain ⟨⟨fa, fc, la, lc, pa, pc⟩, h1, h2, h3⟩ := h
  exact ⟨fa, la, pa, fc, lc, pc, by rw [h1, vG_lit], h2, h3⟩
theorem rep_none {S : Nat → Prop} {w : World} : Rep S w V.none A3.nil := Rep.leaf 0 0 [] [] ⟨by decide, by decide⟩ (by decide) _
section
variable {k : Int} {n : Nat} {t r : List UInt8} {fs : List (Int × V)} {ls : List V} {ps : List (V × V)} {fa la pa : Option Addr} {fc lc pc : Nat} {S : Nat → Prop} {w : World}
set_option maxRecDepth 100000 in
set_option maxHeartbeats 4000000 in
theorem get_any (key : Int) (hr : Rep S w (.mk k n t fs r ls ps) ⟨fa, fc, la, lc, pa, pc⟩) (hR : rightV (.mk k n t fs r ls ps) = true) (hlen : fs.length ≤ 1000000) :
    Calls Tryz.prog 60 #[.agg #[.int .i64 k, .int .u64 (n : Int), .string (strB t), .slice fa fs.length fc, .string (strB r), .slice la ls.length lc, .slice pa ps.length pc], .int .i64 key] w (ValP (getV (.mk k n t fs r ls ps) key) w) := by
  have hri : Rises (fieldC key) fs := fields_rise ((rightV_iff _).1 hR).2.1 key
  have HBA : Hid (Below w.heap.size w ((w.alloc (.cells #[.int .i64 k, .int .u64 (n : Int), .string (strB t), .slice fa fs.length fc, .string (strB r), .slice la ls.length lc, .slice pa ps.length pc] 38)).alloc (.cells #[.int .i64 0, .int .u64 0, .string ⟨#[]⟩, .slice none 0 0, .string ⟨#[]⟩, .slice none 0 0, .slice none 0 0] 38))) := ((Below.refl _ _).alloc (Nat.le_refl _) _).alloc (by simp) _
  have hcx : CellsAt ((w.alloc (.cells #[.int .i64 k, .int .u64 (n : Int), .string (strB t), .slice fa fs.length fc, .string (strB r), .slice la ls.length lc, .slice pa ps.length pc] 38)).alloc (.cells #[.int .i64 0, .int .u64 0, .string ⟨#[]⟩, .slice none 0 0, .string ⟨#[]⟩, .slice none 0 0, .slice none 0 0] 38)) w.heap.size 38 #[.int .i64 k, .int .u64 (n : Int), .string (strB t), .slice fa fs.length fc, .string (strB r), .slice la ls.length lc, .slice pa ps.length pc] := (CellsAt.new w _ _).stays ((Below.refl _ _).alloc (Nat.le_refl _) _)
  have hcy := CellsAt.new (w.alloc (.cells #[.int .i64 k, .int .u64 (n : Int), .string (strB t), .slice fa fs.length fc, .string (strB r), .slice la ls.length lc, .slice pa ps.length pc] 38)) #[.int .i64 0, .int .u64 0, .string ⟨#[]⟩, .slice none 0 0, .string ⟨#[]⟩, .slice none 0 0, .slice none 0 0] 38
  rw [show (w.alloc (.cells #[.int .i64 k, .int .u64 (n : Int), .string (strB t), .slice fa fs.length fc, .string (strB r), .slice la ls.length lc, .slice pa ps.length pc] 38)).heap.size = w.heap.size + 1 by simp] at hcy
  have HCX := Lib.hid hcx
  have HCY := Lib.hid hcy
  have HP := Lib.hid (place_any key (hr.stays HBA.out) hri hlen)
  have HR : Hid (∀ W, Below w.heap.size w W → Rep S W (.mk k n t fs r ls ps) ⟨fa, fc, la, lc, pa, pc⟩) := fun W hb => hr.stays hb
  have HRI := Lib.hid hri
  clear hr hR hri hcx hcy
  go_enter Tryz.func60, Tryz.ntmps60
  go_wp2_with fail
  refine HP.out.mono ?_
  rintro e w1 ⟨i, hi, rfl, hb⟩
  have hbe : Below w.heap.size w w1 := HBA.out.trans (hb.mono HBA.out.size)
  have hcx := HCX.out.stays hb
  have hcy := HCY.out.stays hb
  have d0 := hcx.cell 0 (v := .int .i64 k) rfl
  have d3 := hcx.cell 3 (v := .slice fa fs.length fc) rfl
  have z0 := hcy.cell 0 (v := .int .i64 0) rfl
  have z1 := hcy.cell 1 (v := .int .u64 0) rfl
  have z2 := hcy.cell 2 (v := .string ⟨#[]⟩) rfl
  have z3 := hcy.cell 3 (v := .slice none 0 0) rfl
  have z4 := hcy.cell 4 (v := .string ⟨#[]⟩) rfl
  have z5 := hcy.cell 5 (v := .slice none 0 0) rfl
  have z6 := hcy.cell 6 (v := .slice none 0 0) rfl
  have hly := hcy.lt
  have HI := Lib.hid hi
  have f0 := hcy.free 0
  have f1 := hcy.free 1
  have f2 := hcy.free 2
  have f3 := hcy.free 3
  have f4 := hcy.free 4
  have f5 := hcy.free 5
  have f6 := hcy.free 6
  have HF := Lib.hid (findA_at (f := Prod.snd) (d := V.none) fs i HRI.out hi)
  have HBE := Lib.hid hbe
  clear hb HCX HCY HP HI HRI hbe hcx hcy
  by_cases hk : k = 3
  · cases hT : thereB (fieldC key) fs i with
    | false =>
      have HG : Hid (getV (.mk k n t fs r ls ps) key = V.none) := by
        show (if k = 3 then findA (fieldC key) Prod.snd V.none fs else V.none) = _
        rw [if_pos hk, HF.out]
        unfold thereB at hT
        cases hq : fs[i]? with
        | none => rfl
        | some y => rw [hq] at hT; simp only at hT ⊢; rw [if_neg (by simpa using hT)]
      subst hk
      clear HF hT
      go_wp2_with fail
      refine bodyPost_ret (v := .agg #[.int .i64 0, .int .u64 0, .string ⟨#[]⟩, .slice none 0 0, .string ⟨#[]⟩, .slice none 0 0, .slice none 0 0]) (by simp [results, Tryz.results60, go_sem, z0, z1, z2, z3, z4, z5, z6]) rfl ?_
      rw [HG.out]
      exact ⟨A3.nil, rfl, rep_none, below_set7 HBE.out (by omega) _ _ _ _ _ _ _⟩
    | true =>
      obtain ⟨⟨num, ⟨k', n', t', fs', r', ls', ps'⟩⟩, hq⟩ : ∃ p, fs[i]? = some p := by
        unfold thereB at hT
        cases hq : fs[i]? with
        | none => rw [hq] at hT; cases hT
        | some y => exact ⟨y, rfl⟩
      have HG : Hid (getV (.mk k n t fs r ls ps) key = .mk k' n' t' fs' r' ls' ps') := by
        show (if k = 3 then findA (fieldC key) Prod.snd V.none fs else V.none) = _
        rw [if_pos hk, HF.out]
        unfold thereB at hT
        rw [hq] at hT ⊢
        simp only at hT ⊢
        rw [if_pos (by simpa using hT)]
      have hil : i < fs.length := (List.getElem?_eq_some_iff.1 hq).1
      obtain ⟨b, o, fa', la', pa', fc', lc', pc', rfl, hnum, hrx, c0, c1, c2, c3, c4, c5, c6, c7⟩ := (HR.out w (Below.refl _ _)).fieldAt hq
      have hlt0 : b < w.heap.size := World.block_lt_of_cell? w _ c0
      have hlt : b < w1.heap.size := Nat.lt_of_lt_of_le hlt0 HBE.out.size
      replace c1 := later1 c1 hlt0 HBE.out
      replace c2 := later1 c2 hlt0 HBE.out
      replace c3 := later1 c3 hlt0 HBE.out
      replace c4 := later1 c4 hlt0 HBE.out
      replace c5 := later1 c5 hlt0 HBE.out
      replace c6 := later1 c6 hlt0 HBE.out
      replace c7 := later1 c7 hlt0 HBE.out
      clear c0
      have HRX := Lib.hid hrx
      subst hk
      clear HF hT hq hrx
      go_wp2_with fail
      refine bodyPost_ret (v := .agg #[.int .i64 k', .int .u64 (n' : Int), .string (strB t'), .slice fa' fs'.length fc', .string (strB r'), .slice la' ls'.length lc', .slice pa' ps'.length pc']) (by simp [results, Tryz.results60, go_sem, z0, z1, z2, z3, z4, z5, z6]) rfl ?_
      rw [HG.out]
      have hb7 := below_set7 HBE.out (show w.heap.size ≤ w.heap.size + 1 by omega) (.int .i64 k') (.int .u64 (n' : Int)) (.string (strB t')) (.slice fa' fs'.length fc') (.string (strB r')) (.slice la' ls'.length lc') (.slice pa' ps'.length pc')
      exact ⟨⟨fa', fc', la', lc', pa', pc'⟩, rfl, (HRX.out.stays hb7).any, hb7⟩
  · have g3 : (k != 3) = true := by simpa using hk
    have HG : Hid (getV (.mk k n t fs r ls ps) key = V.none) := by show (if k = 3 then _ else V.none) = _; rw [if_neg hk]
    clear hk HF
    go_wp2_with fail
    refine bodyPost_ret (v := .agg #[.int .i64 0, .int .u64 0, .string ⟨#[]⟩, .slice none 0 0, .string ⟨#[]⟩, .slice none 0 0, .slice none 0 0]) (by simp [results, Tryz.results60, go_sem, z0, z1, z2, z3, z4, z5, z6]) rfl ?_
    rw [HG.out]
    exact ⟨A3.nil, rfl, rep_none, below_set7 HBE.out (by omega) _ _ _ _ _ _ _⟩
/-- which message comes of a field's value: the rows spliced -/
theorem with_rep {x : V} {w' : World} {key : Int} {i : Nat} {put : Bool} {ax : A3} {fl : List (Int × (V × A3))} {v' : Value} {B : Nat} {S2 : Nat → Prop} (hr : Rep S w (.mk k n t fs r ls ps) ⟨fa, fc, la, lc, pa, pc⟩) (hx : Rep S2 w x ax) (hb : Below w.heap.size w w') (hk : i64 key)
    (hfl : ∀ p ∈ fl, i64 p.1 ∧ Rep S w p.2.1 p.2.2) (m : Nat) (ho : OwnS 88 8 fC B w' v' (splice fl i m put (key, (x, ax)))) :
    ∃ (fa' : Option Addr) (fc' : Nat), v' = .slice fa' (splice (fl.map fE) i m put (key, x)).length fc' ∧ Rep (fun k => k < w.heap.size ∨ B ≤ k) w' (.mk k n t (splice (fl.map fE) i m put (key, x)) r ls ps) ⟨fa', fc', la, lc, pa, pc⟩ := by
  have hrow := ho.row
  have hlt := ho.lt
  obtain ⟨fa', fc', rfl, _, _⟩ := hrow.shape fC_len
  have hmap : (splice fl i m put (key, (x, ax))).map fE = splice (fl.map fE) i m put (key, x) := splice_map fE fl i m put _
  refine ⟨fa', fc', by rw [← hmap, List.length_map], ?_⟩
  rw [← hmap]
  refine hr.newFields hb (fun k hk => .inl hk) _ fa' fc' hrow (fun k hk => .inr (hlt k hk).1) (fun p hp => ?_)
  unfold splice at hp
  rcases List.mem_append.1 hp with hp | hp
  · rcases List.mem_append.1 hp with hp | hp
    · obtain ⟨h1, h2⟩ := hfl p (List.mem_of_mem_take hp)
      exact ⟨h1, (h2.lt.mono (fun k hk => .inl hk.2)).stays hb⟩
    · cases put with
      | true =>
        obtain rfl : p = (key, (x, ax)) := by simpa using hp
        exact ⟨hk, (hx.lt.mono (fun k hk => .inl hk.2)).stays hb⟩
      | false => simp at hp
  · obtain ⟨h1, h2⟩ := hfl p (List.mem_of_mem_drop hp)
    exact ⟨h1, (h2.lt.mono (fun k hk => .inl hk.2)).stays hb⟩
theorem grew_set7 {T : List Nat} {g : Nat} {a w1 : World} (h : Grew T a w1) (hg : g ∈ T) (v0 v1 v2 v3 v4 v5 v6 : Value) : Grew T a (((((((w1.setCell ⟨g, 0, none⟩ v0).setCell ⟨g, 1, none⟩ v1).setCell ⟨g, 2, none⟩ v2).setCell ⟨g, 3, none⟩ v3).setCell ⟨g, 4, none⟩ v4).setCell ⟨g, 5, none⟩ v5).setCell ⟨g, 6, none⟩ v6) :=
  (((((((h.setCell (.inl hg) _).setCell (.inl hg) _).setCell (.inl hg) _).setCell (.inl hg) _).setCell (.inl hg) _).setCell (.inl hg) _).setCell (.inl hg) _)
variable {k2 : Int} {n2 : Nat} {t2 r2 : List UInt8} {fs2 : List (Int × V)} {ls2 : List V} {ps2 : List (V × V)} {fa2 la2 pa2 : Option Addr} {fc2 lc2 pc2 : Nat} {S2 : Nat → Prop}
end
end Go.Proofs.YtcjflglpkpkflaaGreatDoor
