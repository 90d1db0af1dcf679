/- Where a field stands; Get, With, Num, count. -/
import Derived.Test.YtcnjlbbckdmifaaVm
import Derived.Deep.RegionLaw
import Derived.Deep.DrawnRows
namespace Go.Proofs.Ytcnjlbbckdmifaa
open Go Go.RowKit
set_option linter.unusedVariables false
section
variable {k : Int} {n : Nat} {t r : List UInt8} {fs : List (Int × V)} {ls : List V} {ps : List (V × V)} {fa la pa : Option Addr} {fc lc pc : Nat} {S : Nat → Prop} {w : World}
set_option maxRecDepth 100000 in
set_option maxHeartbeats 2000000 in
theorem place1_any (num key : Int) : Calls Try.prog 106 #[.agg #[.int .i64 num, .int .i64 k, .int .u64 (n : Int), .string (strB t), .slice fa fs.length fc, .string (strB r), .slice la ls.length lc, .slice pa ps.length pc], .int .i64 key] w fun e w' => e = .returned (.int .i64 (sgnI num key)) ∧ Below w.heap.size w w' := by
  have HBA : Hid (Below w.heap.size w (w.alloc (.cells #[.int .i64 num, .int .i64 k, .int .u64 (n : Int), .string (strB t), .slice fa fs.length fc, .string (strB r), .slice la ls.length lc, .slice pa ps.length pc] 83))) := (Below.refl _ _).alloc (Nat.le_refl _) _
  go_enter Try.func106, Try.ntmps106
  go_wp2_with (first | (go_at_call 61; refine (cmpI_any _ _ _).mono ?_; rintro e w1 ⟨rfl, rfl⟩))
  go_ret
  exact ⟨rfl, HBA.out⟩
/-- what a search answers: a place, and whether it is there -/
def PlaceP {α : Type} (c : α → Int) (l : List α) (w : World) (e : Ending) (w' : World) : Prop := ∃ i : Nat, At c l i ∧ e = .returned (.tuple #[.int .i64 (i : Int), .bool (thereB c l i)]) ∧ Below w.heap.size w w'
theorem PlaceP.mk {α : Type} {c : α → Int} {l : List α} {w w' : World} {e : Ending} (i : Nat) (h : At c l i) (b : Bool) (hb : b = thereB c l i) (he : e = .returned (.tuple #[.int .i64 (i : Int), .bool b])) (h2 : Below w.heap.size w w') : PlaceP c l w e w' := ⟨i, h, by rw [he, hb], h2⟩
set_option maxRecDepth 100000 in
set_option maxHeartbeats 4000000 in
theorem bsearchF_any (key : Int) (hr : Rep S w (.mk k n t fs r ls ps) ⟨fa, fc, la, lc, pa, pc⟩) (hR : Rises (fieldC key) fs) (hlen : fs.length ≤ 1000000) :
    Calls Try.prog 105 #[.slice fa fs.length fc, .int .i64 key, .func (.func 106) #[] #[]] w (PlaceP (fieldC key) fs w) := by
  have HR : Hid (∀ W, Below w.heap.size w W → Rep S W (.mk k n t fs r ls ps) ⟨fa, fc, la, lc, pa, pc⟩) := fun W hb => hr.stays hb
  have HRI := Lib.hid hR
  clear hr hR
  go_enter Try.func105, Try.ntmps105
  go_wp2_with fail
  go_loopw [9, 10] (fun x y wr => ∃ (i j : Nat), i ≤ j ∧ j ≤ fs.length ∧ x = .int .i64 i ∧ y = .int .i64 j ∧ Hid (∀ q p, q < i → fs[q]? = some p → fieldC key p < 0) ∧ Hid (∀ q p, j ≤ q → fs[q]? = some p → 0 ≤ fieldC key p) ∧ Below w.heap.size w wr) (fun x y _ => (intOf y).toNat - (intOf x).toNat)
  case atStart => exact ⟨0, fs.length, Nat.zero_le _, Nat.le_refl _, rfl, rfl, fun q p h => by omega, fun q p h h2 => by have := (List.getElem?_eq_some_iff.1 h2).1; omega, Below.refl _ _⟩
  case round =>
    obtain ⟨i, j, hij, hj, rfl, rfl, HLO, HHI, hbe⟩ := hrel
    by_cases h1 : i < j
    · obtain ⟨h, hh⟩ : ∃ h, h = (i + j) / 2 := ⟨_, rfl⟩
      have hh1 : i ≤ h := by omega
      have hh2 : h < j := by omega
      obtain ⟨⟨num, ⟨k', n', t', fs', r', ls', ps'⟩⟩, hq⟩ : ∃ p, fs[h]? = some p := ⟨_, List.getElem?_eq_getElem (by omega)⟩
      obtain ⟨b, o, fa', la', pa', fc', lc', pc', rfl, hnum, hrx, c0, c1, c2, c3, c4, c5, c6, c7⟩ := (HR.out wr hbe).fieldAt hq
      have HC : Hid (∀ W, Calls Try.prog 106 #[.agg #[.int .i64 num, .int .i64 k', .int .u64 (n' : Int), .string (strB t'), .slice fa' fs'.length fc', .string (strB r'), .slice la' ls'.length lc', .slice pa' ps'.length pc'], .int .i64 key] W fun e w' => e = .returned (.int .i64 (sgnI num key)) ∧ Below W.heap.size W w') := fun W => place1_any num key
      have HLO2 : Hid (sgnI num key < 0 → ∀ q p, q < h + 1 → fs[q]? = some p → fieldC key p < 0) := fun h0 q p h2 h3 => by
        rcases Nat.lt_or_ge q h with h4 | h4
        · refine Decidable.byContradiction fun h5 => ?_
          have := HRI.out q h p _ h4 h3 hq (by omega)
          have : fieldC key (num, V.mk k' n' t' fs' r' ls' ps') = sgnI num key := rfl
          omega
        · obtain rfl : q = h := by omega
          rw [hq] at h3
          cases h3
          exact h0
      have HHI2 : Hid (¬ sgnI num key < 0 → ∀ q p, h ≤ q → fs[q]? = some p → 0 ≤ fieldC key p) := fun h0 q p h2 h3 => by
        rcases Nat.lt_or_ge h q with h4 | h4
        · have := HRI.out h q _ p h4 hq h3 (by show 0 ≤ sgnI num key; omega)
          omega
        · obtain rfl : q = h := by omega
          rw [hq] at h3
          cases h3
          show 0 ≤ sgnI num key
          omega
      generalize sgnI num key = G at HC HLO2 HHI2
      have hh3 : ((i : Int) + j) / 2 = (h : Int) := by omega
      have HH3 := Lib.hid hh3
      have HH := Lib.hid hh
      rw [hh] at c0 c1 c2 c3 c4 c5 c6 c7
      clear hrx hq hh hh3
      go_wp2_with fail
      refine (HC.out _).mono ?_
      rintro e w2 ⟨rfl, hb2⟩
      have hbe2 : Below w.heap.size w w2 := hbe.trans (hb2.mono hbe.size)
      clear HC hb2 c0 c1 c2 c3 c4 c5 c6 c7
      by_cases hG : G < 0
      · have HLO3 := Lib.hid (HLO2.out hG)
        clear HLO2 HHI2
        go_wp2_with fail
        go_roundw
        case rel => exact ⟨h + 1, j, by omega, hj, congrArg (Value.int .i64) (by have := HH3.out; omega), rfl, HLO3, HHI, hbe2⟩
        case measure => have := HH3.out; simp only [intOf]; omega
      · have HHI3 := Lib.hid (HHI2.out (by omega))
        clear HLO2 HHI2
        go_wp2_with fail
        go_roundw
        case rel => exact ⟨i, h, hh1, by omega, rfl, congrArg (Value.int .i64) HH3.out, HLO, HHI3, hbe2⟩
        case measure => have := HH3.out; simp only [intOf]; omega
    · obtain rfl : i = j := by omega
      have HAT : Hid (At (fieldC key) fs i) := ⟨hj, HLO.out, HHI.out⟩
      clear HLO HHI h1 hij
      by_cases h2 : i < fs.length
      · obtain ⟨⟨num, ⟨k', n', t', fs', r', ls', ps'⟩⟩, hq⟩ : ∃ p, fs[i]? = some p := ⟨_, List.getElem?_eq_getElem h2⟩
        obtain ⟨b, o, fa', la', pa', fc', lc', pc', rfl, hnum, hrx, c0, c1, c2, c3, c4, c5, c6, c7⟩ := (HR.out wr hbe).fieldAt hq
        have HC : Hid (∀ W, Calls Try.prog 106 #[.agg #[.int .i64 num, .int .i64 k', .int .u64 (n' : Int), .string (strB t'), .slice fa' fs'.length fc', .string (strB r'), .slice la' ls'.length lc', .slice pa' ps'.length pc'], .int .i64 key] W fun e w' => e = .returned (.int .i64 (sgnI num key)) ∧ Below W.heap.size W w') := fun W => place1_any num key
        have HT : Hid (thereB (fieldC key) fs i = (sgnI num key == 0)) := by show _ = _; unfold thereB; rw [hq]; rfl
        generalize sgnI num key = G at HC HT
        clear hrx hq
        go_wp2_with fail
        refine (HC.out _).mono ?_
        rintro e w2 ⟨rfl, hb2⟩
        have hbe2 : Below w.heap.size w w2 := hbe.trans (hb2.mono hbe.size)
        clear HC hb2 c0 c1 c2 c3 c4 c5 c6 c7
        go_wp2_with fail
        go_ret2
        exact PlaceP.mk i HAT.out _ HT.out.symm rfl hbe2
      · have HT : Hid (false = thereB (fieldC key) fs i) := by show _ = _; unfold thereB; rw [List.getElem?_eq_none (by omega)]
        go_wp2_with fail
        go_ret2
        exact PlaceP.mk i HAT.out _ HT.out rfl hbe
set_option maxRecDepth 100000 in
set_option maxHeartbeats 2000000 in
theorem place_any (key : Int) (hr : Rep S w (.mk k n t fs r ls ps) ⟨fa, fc, la, lc, pa, pc⟩) (hR : Rises (fieldC key) fs) (hlen : fs.length ≤ 1000000) :
    Calls Try.prog 72 #[.agg #[.int .i64 k, .int .u64 (n : Int), .string (strB t), .slice fa fs.length fc, .string (strB r), .slice la ls.length lc, .slice pa ps.length pc], .int .i64 key] w (PlaceP (fieldC key) fs w) := by
  have HBA : Hid (Below w.heap.size w (w.alloc (.cells #[.int .i64 k, .int .u64 (n : Int), .string (strB t), .slice fa fs.length fc, .string (strB r), .slice la ls.length lc, .slice pa ps.length pc] 27))) := (Below.refl _ _).alloc (Nat.le_refl _) _
  have HC := Lib.hid (bsearchF_any key (hr.stays HBA.out) hR hlen)
  clear hr hR
  go_enter Try.func72, Try.ntmps72
  go_wp2_with fail
  refine HC.out.mono ?_
  rintro e w1 ⟨i, hi, rfl, hb⟩
  have HI := Lib.hid hi
  have HB := Lib.hid (HBA.out.trans (hb.mono HBA.out.size))
  clear hi hb
  go_wp2_with fail
  go_ret2
  exact PlaceP.mk i HI.out _ rfl rfl HB.out
set_option maxRecDepth 100000 in
set_option maxHeartbeats 2000000 in
theorem num_lit (x : Nat) (w : World) : Calls Try.prog 33 #[.int .u64 (x : Int)] w fun e w' => e = .returned (.agg #[.int .i64 1, .int .u64 (x : Int), .string (strB []), .slice none 0 0, .string (strB []), .slice none 0 0, .slice none 0 0]) ∧ Below w.heap.size w w' := by
  go_enter Try.func33, Try.ntmps33
  go_wp2_with fail
  exact bodyPost_ret (v := .agg #[.int .i64 1, .int .u64 (x : Int), .string (strB []), .slice none 0 0, .string (strB []), .slice none 0 0, .slice none 0 0]) (by simp [results, Try.results33, strB_nil, go_sem]) rfl ⟨rfl, (Below.refl _ _).alloc (Nat.le_refl _) _⟩
theorem count_any (b : Bool) (w : World) : Calls Try.prog 74 #[.bool b] w fun e w' => e = .returned (.int .i64 (if b then 1 else 0)) ∧ w = w' := by
  cases b
  all_goals
    go_enter Try.func74, Try.ntmps74
    go_wp2_with fail
    go_ret
    exact ⟨rfl, rfl⟩
end
theorem below_set7 {B g : Nat} {w w1 : World} (h : Below B w w1) (hg : B ≤ g) (v0 v1 v2 v3 v4 v5 v6 : Value) : Below B w (((((((w1.setCell ⟨g, 0, none⟩ v0).setCell ⟨g, 1, none⟩ v1).setCell ⟨g, 2, none⟩ v2).setCell ⟨g, 3, none⟩ v3).setCell ⟨g, 4, none⟩ v4).setCell ⟨g, 5, none⟩ v5).setCell ⟨g, 6, none⟩ v6) :=
  (((((((h.setCell (by exact hg) _).setCell (by exact hg) _).setCell (by exact hg) _).setCell (by exact hg) _).setCell (by exact hg) _).setCell (by exact hg) _).setCell (by exact hg) _)
/-- what answers a value -/
def ValP (v : V) (w : World) (e : Ending) (w' : World) : Prop := ∃ a : A3, e = .returned (vG (v, a)) ∧ Rep (fun _ => True) w' v a ∧ Below w.heap.size w w'
theorem ValP.lit {k : Int} {n : Nat} {t r : List UInt8} {fs : List (Int × V)} {ls : List V} {ps : List (V × V)} {w w' : World} {e : Ending} (h : ValP (.mk k n t fs r ls ps) w e w') : ∃ (fa la pa : Option Addr) (fc lc pc : Nat), e = .returned (.agg #[.int .i64 k, .int .u64 (n : Int), .string (strB t), .slice fa fs.length fc, .string (strB r), .slice la ls.length lc, .slice pa ps.length pc]) ∧ Rep (fun _ => True) w' (.mk k n t fs r ls ps) ⟨fa, fc, la, lc, pa, pc⟩ ∧ Below w.heap.size w w' := by
  obtain ⟨⟨fa, fc, la, lc, pa, pc⟩, h1, h2, h3⟩ := h
  exact ⟨fa, la, pa, fc, lc, pc, by rw [h1, vG_lit], h2, h3⟩
theorem rep_none {S : Nat → Prop} {w : World} : Rep S w V.none A3.nil := Rep.leaf 0 0 [] [] ⟨by decide, by decide⟩ (by decide) _
section
variable {k : Int} {n : Nat} {t r : List UInt8} {fs : List (Int × V)} {ls : List V} {ps : List (V × V)} {fa la pa : Option Addr} {fc lc pc : Nat} {S : Nat → Prop} {w : World}
set_option maxRecDepth 100000 in
set_option maxHeartbeats 4000000 in
theorem get_any (key : Int) (hr : Rep S w (.mk k n t fs r ls ps) ⟨fa, fc, la, lc, pa, pc⟩) (hR : rightV (.mk k n t fs r ls ps) = true) (hlen : fs.length ≤ 1000000) :
    Calls Try.prog 27 #[.agg #[.int .i64 k, .int .u64 (n : Int), .string (strB t), .slice fa fs.length fc, .string (strB r), .slice la ls.length lc, .slice pa ps.length pc], .int .i64 key] w (ValP (getV (.mk k n t fs r ls ps) key) w) := by
  have hri : Rises (fieldC key) fs := fields_rise ((rightV_iff _).1 hR).2.1 key
  have HBA : Hid (Below w.heap.size w ((w.alloc (.cells #[.int .i64 k, .int .u64 (n : Int), .string (strB t), .slice fa fs.length fc, .string (strB r), .slice la ls.length lc, .slice pa ps.length pc] 27)).alloc (.cells #[.int .i64 0, .int .u64 0, .string ⟨#[]⟩, .slice none 0 0, .string ⟨#[]⟩, .slice none 0 0, .slice none 0 0] 27))) := ((Below.refl _ _).alloc (Nat.le_refl _) _).alloc (by simp) _
  have hcx : CellsAt ((w.alloc (.cells #[.int .i64 k, .int .u64 (n : Int), .string (strB t), .slice fa fs.length fc, .string (strB r), .slice la ls.length lc, .slice pa ps.length pc] 27)).alloc (.cells #[.int .i64 0, .int .u64 0, .string ⟨#[]⟩, .slice none 0 0, .string ⟨#[]⟩, .slice none 0 0, .slice none 0 0] 27)) w.heap.size 27 #[.int .i64 k, .int .u64 (n : Int), .string (strB t), .slice fa fs.length fc, .string (strB r), .slice la ls.length lc, .slice pa ps.length pc] := (CellsAt.new w _ _).stays ((Below.refl _ _).alloc (Nat.le_refl _) _)
  have hcy := CellsAt.new (w.alloc (.cells #[.int .i64 k, .int .u64 (n : Int), .string (strB t), .slice fa fs.length fc, .string (strB r), .slice la ls.length lc, .slice pa ps.length pc] 27)) #[.int .i64 0, .int .u64 0, .string ⟨#[]⟩, .slice none 0 0, .string ⟨#[]⟩, .slice none 0 0, .slice none 0 0] 27
  rw [show (w.alloc (.cells #[.int .i64 k, .int .u64 (n : Int), .string (strB t), .slice fa fs.length fc, .string (strB r), .slice la ls.length lc, .slice pa ps.length pc] 27)).heap.size = w.heap.size + 1 by simp] at hcy
  have HCX := Lib.hid hcx
  have HCY := Lib.hid hcy
  have HP := Lib.hid (place_any key (hr.stays HBA.out) hri hlen)
  have HR : Hid (∀ W, Below w.heap.size w W → Rep S W (.mk k n t fs r ls ps) ⟨fa, fc, la, lc, pa, pc⟩) := fun W hb => hr.stays hb
  have HRI := Lib.hid hri
  clear hr hR hri hcx hcy
  go_enter Try.func27, Try.ntmps27
  go_wp2_with fail
  refine HP.out.mono ?_
  rintro e w1 ⟨i, hi, rfl, hb⟩
  have hbe : Below w.heap.size w w1 := HBA.out.trans (hb.mono HBA.out.size)
  have hcx := HCX.out.stays hb
  have hcy := HCY.out.stays hb
  have d0 := hcx.cell 0 (v := .int .i64 k) rfl
  have d3 := hcx.cell 3 (v := .slice fa fs.length fc) rfl
  have z0 := hcy.cell 0 (v := .int .i64 0) rfl
  have z1 := hcy.cell 1 (v := .int .u64 0) rfl
  have z2 := hcy.cell 2 (v := .string ⟨#[]⟩) rfl
  have z3 := hcy.cell 3 (v := .slice none 0 0) rfl
  have z4 := hcy.cell 4 (v := .string ⟨#[]⟩) rfl
  have z5 := hcy.cell 5 (v := .slice none 0 0) rfl
  have z6 := hcy.cell 6 (v := .slice none 0 0) rfl
  have hly := hcy.lt
  have HI := Lib.hid hi
  have f0 := hcy.free 0
  have f1 := hcy.free 1
  have f2 := hcy.free 2
  have f3 := hcy.free 3
  have f4 := hcy.free 4
  have f5 := hcy.free 5
  have f6 := hcy.free 6
  have HF := Lib.hid (findA_at (f := Prod.snd) (d := V.none) fs i HRI.out hi)
  have HBE := Lib.hid hbe
  clear hb HCX HCY HP HI HRI hbe hcx hcy
  by_cases hk : k = 3
  · cases hT : thereB (fieldC key) fs i with
    | false =>
      have HG : Hid (getV (.mk k n t fs r ls ps) key = V.none) := by
        show (if k = 3 then findA (fieldC key) Prod.snd V.none fs else V.none) = _
        rw [if_pos hk, HF.out]
        unfold thereB at hT
        cases hq : fs[i]? with
        | none => rfl
        | some y => rw [hq] at hT; simp only at hT ⊢; rw [if_neg (by simpa using hT)]
      subst hk
      clear HF hT
      go_wp2_with fail
      refine bodyPost_ret (v := .agg #[.int .i64 0, .int .u64 0, .string ⟨#[]⟩, .slice none 0 0, .string ⟨#[]⟩, .slice none 0 0, .slice none 0 0]) (by simp [results, Try.results27, go_sem, z0, z1, z2, z3, z4, z5, z6]) rfl ?_
      rw [HG.out]
      exact ⟨A3.nil, rfl, rep_none, below_set7 HBE.out (by omega) _ _ _ _ _ _ _⟩
    | true =>
      obtain ⟨⟨num, ⟨k', n', t', fs', r', ls', ps'⟩⟩, hq⟩ : ∃ p, fs[i]? = some p := by
        unfold thereB at hT
        cases hq : fs[i]? with
        | none => rw [hq] at hT; cases hT
        | some y => exact ⟨y, rfl⟩
      have HG : Hid (getV (.mk k n t fs r ls ps) key = .mk k' n' t' fs' r' ls' ps') := by
        show (if k = 3 then findA (fieldC key) Prod.snd V.none fs else V.none) = _
        rw [if_pos hk, HF.out]
        unfold thereB at hT
        rw [hq] at hT ⊢
        simp only at hT ⊢
        rw [if_pos (by simpa using hT)]
      have hil : i < fs.length := (List.getElem?_eq_some_iff.1 hq).1
      obtain ⟨b, o, fa', la', pa', fc', lc', pc', rfl, hnum, hrx, c0, c1, c2, c3, c4, c5, c6, c7⟩ := (HR.out w (Below.refl _ _)).fieldAt hq
      have hlt0 : b < w.heap.size := World.block_lt_of_cell? w _ c0
      have hlt : b < w1.heap.size := Nat.lt_of_lt_of_le hlt0 HBE.out.size
      replace c1 := later1 c1 hlt0 HBE.out
      replace c2 := later1 c2 hlt0 HBE.out
      replace c3 := later1 c3 hlt0 HBE.out
      replace c4 := later1 c4 hlt0 HBE.out
      replace c5 := later1 c5 hlt0 HBE.out
      replace c6 := later1 c6 hlt0 HBE.out
      replace c7 := later1 c7 hlt0 HBE.out
      clear c0
      have HRX := Lib.hid hrx
      subst hk
      clear HF hT hq hrx
      go_wp2_with fail
      refine bodyPost_ret (v := .agg #[.int .i64 k', .int .u64 (n' : Int), .string (strB t'), .slice fa' fs'.length fc', .string (strB r'), .slice la' ls'.length lc', .slice pa' ps'.length pc']) (by simp [results, Try.results27, go_sem, z0, z1, z2, z3, z4, z5, z6]) rfl ?_
      rw [HG.out]
      have hb7 := below_set7 HBE.out (show w.heap.size ≤ w.heap.size + 1 by omega) (.int .i64 k') (.int .u64 (n' : Int)) (.string (strB t')) (.slice fa' fs'.length fc') (.string (strB r')) (.slice la' ls'.length lc') (.slice pa' ps'.length pc')
      exact ⟨⟨fa', fc', la', lc', pa', pc'⟩, rfl, (HRX.out.stays hb7).any, hb7⟩
  · have g3 : (k != 3) = true := by simpa using hk
    have HG : Hid (getV (.mk k n t fs r ls ps) key = V.none) := by show (if k = 3 then _ else V.none) = _; rw [if_neg hk]
    clear hk HF
    go_wp2_with fail
    refine bodyPost_ret (v := .agg #[.int .i64 0, .int .u64 0, .string ⟨#[]⟩, .slice none 0 0, .string ⟨#[]⟩, .slice none 0 0, .slice none 0 0]) (by simp [results, Try.results27, go_sem, z0, z1, z2, z3, z4, z5, z6]) rfl ?_
    rw [HG.out]
    exact ⟨A3.nil, rfl, rep_none, below_set7 HBE.out (by omega) _ _ _ _ _ _ _⟩
/-- which message comes of a field's value: the rows spliced -/
theorem with_rep {x : V} {w' : World} {key : Int} {i : Nat} {put : Bool} {ax : A3} {fl : List (Int × (V × A3))} {v' : Value} {B : Nat} {S2 : Nat → Prop} (hr : Rep S w (.mk k n t fs r ls ps) ⟨fa, fc, la, lc, pa, pc⟩) (hx : Rep S2 w x ax) (hb : Below w.heap.size w w') (hk : i64 key)
    (hfl : ∀ p ∈ fl, i64 p.1 ∧ Rep S w p.2.1 p.2.2) (m : Nat) (ho : OwnS 83 8 fC B w' v' (splice fl i m put (key, (x, ax)))) :
    ∃ (fa' : Option Addr) (fc' : Nat), v' = .slice fa' (splice (fl.map fE) i m put (key, x)).length fc' ∧ Rep (fun k => k < w.heap.size ∨ B ≤ k) w' (.mk k n t (splice (fl.map fE) i m put (key, x)) r ls ps) ⟨fa', fc', la, lc, pa, pc⟩ := by
  have hrow := ho.row
  have hlt := ho.lt
  obtain ⟨fa', fc', rfl, _, _⟩ := hrow.shape fC_len
  have hmap : (splice fl i m put (key, (x, ax))).map fE = splice (fl.map fE) i m put (key, x) := splice_map fE fl i m put _
  refine ⟨fa', fc', by rw [← hmap, List.length_map], ?_⟩
  rw [← hmap]
  refine hr.newFields hb (fun k hk => .inl hk) _ fa' fc' hrow (fun k hk => .inr (hlt k hk).1) (fun p hp => ?_)
  unfold splice at hp
  rcases List.mem_append.1 hp with hp | hp
  · rcases List.mem_append.1 hp with hp | hp
    · obtain ⟨h1, h2⟩ := hfl p (List.mem_of_mem_take hp)
      exact ⟨h1, (h2.lt.mono (fun k hk => .inl hk.2)).stays hb⟩
    · cases put with
      | true =>
        obtain rfl : p = (key, (x, ax)) := by simpa using hp
        exact ⟨hk, (hx.lt.mono (fun k hk => .inl hk.2)).stays hb⟩
      | false => simp at hp
  · obtain ⟨h1, h2⟩ := hfl p (List.mem_of_mem_drop hp)
    exact ⟨h1, (h2.lt.mono (fun k hk => .inl hk.2)).stays hb⟩
theorem grew_set7 {T : List Nat} {g : Nat} {a w1 : World} (h : Grew T a w1) (hg : g ∈ T) (v0 v1 v2 v3 v4 v5 v6 : Value) : Grew T a (((((((w1.setCell ⟨g, 0, none⟩ v0).setCell ⟨g, 1, none⟩ v1).setCell ⟨g, 2, none⟩ v2).setCell ⟨g, 3, none⟩ v3).setCell ⟨g, 4, none⟩ v4).setCell ⟨g, 5, none⟩ v5).setCell ⟨g, 6, none⟩ v6) :=
  (((((((h.setCell (.inl hg) _).setCell (.inl hg) _).setCell (.inl hg) _).setCell (.inl hg) _).setCell (.inl hg) _).setCell (.inl hg) _).setCell (.inl hg) _)
variable {k2 : Int} {n2 : Nat} {t2 r2 : List UInt8} {fs2 : List (Int × V)} {ls2 : List V} {ps2 : List (V × V)} {fa2 la2 pa2 : Option Addr} {fc2 lc2 pc2 : Nat} {S2 : Nat → Prop}
set_option maxRecDepth 100000 in
set_option maxHeartbeats 8000000 in
theorem with_any (key : Int) (hr : Rep S w (.mk k n t fs r ls ps) ⟨fa, fc, la, lc, pa, pc⟩) (hx : Rep S2 w (.mk k2 n2 t2 fs2 r2 ls2 ps2) ⟨fa2, fc2, la2, lc2, pa2, pc2⟩) (hR : rightV (.mk k n t fs r ls ps) = true) (hlen : fs.length ≤ 1000000) (hk64 : -9223372036854775808 ≤ key ∧ key ≤ 9223372036854775807) :
    Calls Try.prog 25 #[.agg #[.int .i64 k, .int .u64 (n : Int), .string (strB t), .slice fa fs.length fc, .string (strB r), .slice la ls.length lc, .slice pa ps.length pc], .int .i64 key, .agg #[.int .i64 k2, .int .u64 (n2 : Int), .string (strB t2), .slice fa2 fs2.length fc2, .string (strB r2), .slice la2 ls2.length lc2, .slice pa2 ps2.length pc2]] w (ValP (withV (.mk k n t fs r ls ps) key (.mk k2 n2 t2 fs2 r2 ls2 ps2)) w) := by
  obtain ⟨W0, hW0⟩ : ∃ W0, W0 = ((w.alloc (.cells #[.int .i64 k, .int .u64 (n : Int), .string (strB t), .slice fa fs.length fc, .string (strB r), .slice la ls.length lc, .slice pa ps.length pc] 27)).alloc (.cells #[.int .i64 k2, .int .u64 (n2 : Int), .string (strB t2), .slice fa2 fs2.length fc2, .string (strB r2), .slice la2 ls2.length lc2, .slice pa2 ps2.length pc2] 27)).alloc (.cells #[.int .i64 0, .int .u64 0, .string ⟨#[]⟩, .slice none 0 0, .string ⟨#[]⟩, .slice none 0 0, .slice none 0 0] 27) := ⟨_, rfl⟩
  have HBA : Hid (Below w.heap.size w W0) := by rw [hW0]; exact (((Below.refl _ _).alloc (Nat.le_refl _) _).alloc (by simp) _).alloc (by simp; omega) _
  have hcx : CellsAt W0 w.heap.size 27 #[.int .i64 k, .int .u64 (n : Int), .string (strB t), .slice fa fs.length fc, .string (strB r), .slice la ls.length lc, .slice pa ps.length pc] := by rw [hW0]; exact (CellsAt.new w _ _).stays (((Below.refl _ _).alloc (Nat.le_refl _) _).alloc (by simp) _)
  have hcy : CellsAt W0 (w.heap.size + 1) 27 #[.int .i64 k2, .int .u64 (n2 : Int), .string (strB t2), .slice fa2 fs2.length fc2, .string (strB r2), .slice la2 ls2.length lc2, .slice pa2 ps2.length pc2] := by
    have := (CellsAt.new (w.alloc (.cells #[.int .i64 k, .int .u64 (n : Int), .string (strB t), .slice fa fs.length fc, .string (strB r), .slice la ls.length lc, .slice pa ps.length pc] 27)) #[.int .i64 k2, .int .u64 (n2 : Int), .string (strB t2), .slice fa2 fs2.length fc2, .string (strB r2), .slice la2 ls2.length lc2, .slice pa2 ps2.length pc2] 27).stays ((Below.refl _ _).alloc (Nat.le_refl _) (.cells #[.int .i64 0, .int .u64 0, .string ⟨#[]⟩, .slice none 0 0, .string ⟨#[]⟩, .slice none 0 0, .slice none 0 0] 27))
    rw [show (w.alloc (.cells #[.int .i64 k, .int .u64 (n : Int), .string (strB t), .slice fa fs.length fc, .string (strB r), .slice la ls.length lc, .slice pa ps.length pc] 27)).heap.size = w.heap.size + 1 by simp] at this
    rw [hW0]; exact this
  have hcz : CellsAt W0 (w.heap.size + 1 + 1) 27 #[.int .i64 0, .int .u64 0, .string ⟨#[]⟩, .slice none 0 0, .string ⟨#[]⟩, .slice none 0 0, .slice none 0 0] := by
    have := CellsAt.new ((w.alloc (.cells #[.int .i64 k, .int .u64 (n : Int), .string (strB t), .slice fa fs.length fc, .string (strB r), .slice la ls.length lc, .slice pa ps.length pc] 27)).alloc (.cells #[.int .i64 k2, .int .u64 (n2 : Int), .string (strB t2), .slice fa2 fs2.length fc2, .string (strB r2), .slice la2 ls2.length lc2, .slice pa2 ps2.length pc2] 27)) #[.int .i64 0, .int .u64 0, .string ⟨#[]⟩, .slice none 0 0, .string ⟨#[]⟩, .slice none 0 0, .slice none 0 0] 27
    rw [show ((w.alloc (.cells #[.int .i64 k, .int .u64 (n : Int), .string (strB t), .slice fa fs.length fc, .string (strB r), .slice la ls.length lc, .slice pa ps.length pc] 27)).alloc (.cells #[.int .i64 k2, .int .u64 (n2 : Int), .string (strB t2), .slice fa2 fs2.length fc2, .string (strB r2), .slice la2 ls2.length lc2, .slice pa2 ps2.length pc2] 27)).heap.size = w.heap.size + 1 + 1 by simp] at this
    rw [hW0]; exact this
  have HCX := Lib.hid hcx
  have HCY := Lib.hid hcy
  have HCZ := Lib.hid hcz
  have HWW := Lib.hid hW0
  have HR : Hid (∀ W, Below w.heap.size w W → Rep S W (.mk k n t fs r ls ps) ⟨fa, fc, la, lc, pa, pc⟩) := fun W hb => hr.stays hb
  have HX : Hid (∀ W, Below w.heap.size w W → Rep S2 W (.mk k2 n2 t2 fs2 r2 ls2 ps2) ⟨fa2, fc2, la2, lc2, pa2, pc2⟩) := fun W hb => hx.stays hb
  have HRT := Lib.hid hR
  clear hr hx hcx hcy hcz hW0 hR
  by_cases hg : k = 3 ∧ 1 ≤ key ∧ key ≤ 536870911
  · obtain ⟨rfl, h1, h2⟩ := hg
    obtain ⟨fl, hfs, hrow, hfl⟩ := (HR.out w (Below.refl _ _)).fieldsRow
    have hlfl : fl.length = fs.length := by rw [hfs, List.length_map]
    have hri : Rises (fieldC key) fs := fields_rise ((rightV_iff _).1 HRT.out).2.1 key
    have hsh := ((rightV_iff _).1 HRT.out).1
    have hz : n = 0 ∧ t = [] ∧ ls = [] ∧ ps = [] := by
      refine ⟨hsh.2.1 (by simp [V.k]), hsh.2.2.1 (by simp [V.k]), ?_, ?_⟩
      · by_cases e : ls = []
        · exact e
        · exact absurd (hsh.2.2.2.2.1.2 e) (by simp [V.k])
      · by_cases e : ps = []
        · exact e
        · exact absurd (hsh.2.2.2.2.2.2 e) (by simp [V.k])
    have HP := Lib.hid (place_any key (HR.out W0 HBA.out) hri hlen)
    have HZ4 := Lib.hid hz
    have HFS := Lib.hid hfs
    have HFL := Lib.hid hfl
    have HROW := Lib.hid hrow
    have HRI := Lib.hid hri
    clear hsh hfs hfl hrow hri hz
    have bm : ((3 : Int) != 3) = false := by simp
    go_enter Try.func25, Try.ntmps25
    go_wp2_with fail
    have hW0 := HWW.out
    rw [← hW0]
    clear hW0 HWW
    refine HP.out.mono ?_
    rintro e w1 ⟨i, hi, rfl, hb1⟩
    have hbe1 : Below w.heap.size w w1 := HBA.out.trans (hb1.mono HBA.out.size)
    have HCX1 := Lib.hid (HCX.out.stays hb1)
    have HCY1 := Lib.hid (HCY.out.stays hb1)
    have HCZ1 := Lib.hid (HCZ.out.stays hb1)
    have HB1 := Lib.hid hbe1
    obtain ⟨g, hg⟩ : ∃ g, g = w.heap.size := ⟨_, rfl⟩
    rw [← hg] at HCX1 HCY1 HCZ1 ⊢
    have HGG := Lib.hid hg
    have hil := hi.le
    have HPUT : Hid (∀ put : Bool, put = (k2 != 0) → withV (.mk 3 n t fs r ls ps) key (.mk k2 n2 t2 fs2 r2 ls2 ps2) = .mk 3 0 [] (splice fs i (if thereB (fieldC key) fs i then 1 else 0) put (key, .mk k2 n2 t2 fs2 r2 ls2 ps2)) r [] []) := fun put hp => by
      show (if (3 : Int) ≠ 3 ∨ key < 1 ∨ 536870911 < key then _ else _) = _
      rw [if_neg (by omega)]
      have := putA_splice (x := (key, .mk k2 n2 t2 fs2 r2 ls2 ps2)) fs i put HRI.out hi
      rw [← this, hp]
      show _ = V.mk 3 0 [] (putA (fieldC key) (key, .mk k2 n2 t2 fs2 r2 ls2 ps2) fs (!(k2 != 0))) r [] []
      unfold bne
      rw [Bool.not_not]
      rfl
    have hmm : i + (if thereB (fieldC key) fs i then 1 else 0) ≤ fs.length := by
      split
      · rename_i hT
        unfold thereB at hT
        cases hq : fs[i]? with
        | none => rw [hq] at hT; cases hT
        | some y => have := (List.getElem?_eq_some_iff.1 hq).1; omega
      · omega
    have HSP : Hid (∀ (put : Bool) (W : World), Below w1.heap.size w1 W → Calls Try.prog 73 #[.slice fa fs.length fc, .int .i64 (i : Int), .int .i64 (if thereB (fieldC key) fs i then 1 else 0), .bool put, .agg #[.int .i64 key, .int .i64 k2, .int .u64 (n2 : Int), .string (strB t2), .slice fa2 fs2.length fc2, .string (strB r2), .slice la2 ls2.length lc2, .slice pa2 ps2.length pc2]] W
        fun e w' => ∃ (a6 : Option Addr) (L c6 : Nat), e = .returned (.slice a6 L c6) ∧ Hid (OwnS 83 8 fC W.heap.size w' (.slice a6 L c6) (splice fl i (if thereB (fieldC key) fs i then 1 else 0) put (key, (.mk k2 n2 t2 fs2 r2 ls2 ps2, ⟨fa2, fc2, la2, lc2, pa2, pc2⟩)))) ∧ Below W.heap.size W w') := fun put W hb => by
      have hbW := HB1.out.trans (hb.mono HB1.out.size)
      have := splicedF_any fa fc fl i (if thereB (fieldC key) fs i then 1 else 0) put key k2 n2 t2 r2 fs2 ls2 ps2 fa2 la2 pa2 fc2 lc2 pc2 W (by rw [hlfl]; exact HROW.out.stays hbW) (by omega) (by rw [hlfl]; exact hmm)
      rw [hlfl] at this
      rw [show (((if thereB (fieldC key) fs i = true then 1 else 0 : Nat)) : Int) = (if thereB (fieldC key) fs i = true then 1 else 0) by split <;> rfl] at this
      refine this.mono ?_
      rintro e w' ⟨v', rfl, ho, hb'⟩
      obtain ⟨a6, c6, rfl, -, -⟩ := ho.row.shape fC_len
      exact ⟨a6, _, c6, rfl, ho, hb'⟩
    generalize thereB (fieldC key) fs i = T at HPUT HSP
    generalize (if T = true then 1 else 0 : Nat) = M at HPUT HSP
    obtain ⟨M', hM'⟩ : ∃ M' : Int, M' = (if T = true then 1 else 0) := ⟨_, rfl⟩
    have HCNT : Hid (∀ W, Calls Try.prog 74 #[.bool T] W fun e w' => e = .returned (.int .i64 M') ∧ W = w') := fun W => by rw [hM']; exact count_any T W
    rw [← hM'] at HSP
    have HPC : Hid ((k2 != 0) = (k2 != 0)) := rfl
    have d0 := HCX1.out.cell 0 (v := .int .i64 3) rfl
    have d1 := HCX1.out.cell 1 (v := .int .u64 (n : Int)) rfl
    have d2 := HCX1.out.cell 2 (v := .string (strB t)) rfl
    have d3 := HCX1.out.cell 3 (v := .slice fa fs.length fc) rfl
    have d4 := HCX1.out.cell 4 (v := .string (strB r)) rfl
    have d5 := HCX1.out.cell 5 (v := .slice la ls.length lc) rfl
    have d6 := HCX1.out.cell 6 (v := .slice pa ps.length pc) rfl
    have y0 := HCY1.out.cell 0 (v := .int .i64 k2) rfl
    have y1 := HCY1.out.cell 1 (v := .int .u64 (n2 : Int)) rfl
    have y2 := HCY1.out.cell 2 (v := .string (strB t2)) rfl
    have y3 := HCY1.out.cell 3 (v := .slice fa2 fs2.length fc2) rfl
    have y4 := HCY1.out.cell 4 (v := .string (strB r2)) rfl
    have y5 := HCY1.out.cell 5 (v := .slice la2 ls2.length lc2) rfl
    have y6 := HCY1.out.cell 6 (v := .slice pa2 ps2.length pc2) rfl
    have hd0 : Below w1.heap.size w1 w1 := Below.refl _ _
    have hd1 : Below w1.heap.size w1 w1.drew := hd0.drew
    clear hM' hi hb1 hbe1 hg HP HCX HCY HCZ HPC hmm
    go_upto_region 4 with fail
    go_cut [] from 27 to 39 (fun wx => ∃ (w6 : World) (a6 : Option Addr) (L6 c6 : Nat), wx = w6.setCell ⟨g, 3, none⟩ (.slice a6 L6 c6) ∧ Hid (OwnS 83 8 fC w1.drew.heap.size w6 (.slice a6 L6 c6) (splice fl i M (k2 != 0) (key, (.mk k2 n2 t2 fs2 r2 ls2 ps2, ⟨fa2, fc2, la2, lc2, pa2, pc2⟩)))) ∧ Below w1.drew.heap.size w1.drew w6)
    case first =>
      go_region_law ((first
        | (go_simp; go_at_call 74; (with_reducible refine (HCNT.out _).mono ?_); rintro e w5 ⟨rfl, rfl⟩)
        | (go_simp; go_at_call 73; (with_reducible refine (HSP.out _ _ (by first | exact hd1 | exact hd0)).mono ?_); rintro e w6 ⟨a6, L6, c6, rfl, HO6, hb6⟩; have hcx6 := HCX1.out.stays (hd1.trans hb6); have fr3 := hcx6.free 3; have x3 := hcx6.cell 3 (v := .slice fa fs.length fc) rfl; clear hcx6 y0 y1 y2 y3 y4 y5 y6 d0 d1 d2 d3 d4 d5 d6)))
      all_goals go_wp2_with fail
      all_goals go_meet
      all_goals exact ⟨w6, a6, L6, c6, rfl, HO6, hb6⟩
    case rest =>
      obtain ⟨w6, a6, L6, c6, rfl, HO6, hb6⟩ := hcut
      have hbe6 : Below w.heap.size w w6 := HB1.out.trans ((hd1.trans hb6).mono HB1.out.size)
      have hcx6 := HCX1.out.stays (hd1.trans hb6)
      have hcz6 := HCZ1.out.stays (hd1.trans hb6)
      have x3 := hcx6.cell 3 (v := .slice fa fs.length fc) rfl
      have e0 := hcx6.cell 0 (v := .int .i64 3) rfl
      have e1 := hcx6.cell 1 (v := .int .u64 (n : Int)) rfl
      have e2 := hcx6.cell 2 (v := .string (strB t)) rfl
      have e4 := hcx6.cell 4 (v := .string (strB r)) rfl
      have e5 := hcx6.cell 5 (v := .slice la ls.length lc) rfl
      have e6 := hcx6.cell 6 (v := .slice pa ps.length pc) rfl
      have z0 := hcz6.cell 0 (v := .int .i64 0) rfl
      have z1 := hcz6.cell 1 (v := .int .u64 0) rfl
      have z2 := hcz6.cell 2 (v := .string ⟨#[]⟩) rfl
      have z3 := hcz6.cell 3 (v := .slice none 0 0) rfl
      have z4 := hcz6.cell 4 (v := .string ⟨#[]⟩) rfl
      have z5 := hcz6.cell 5 (v := .slice none 0 0) rfl
      have z6 := hcz6.cell 6 (v := .slice none 0 0) rfl
      have f0 := hcz6.free 0
      have f1 := hcz6.free 1
      have f2 := hcz6.free 2
      have f3 := hcz6.free 3
      have f4 := hcz6.free 4
      have f5 := hcz6.free 5
      have f6 := hcz6.free 6
      have HBE6 := Lib.hid hbe6
      clear hcz6 hcx6 hbe6 hb6 y0 y1 y2 y3 y4 y5 y6 d0 d1 d2 d3 d4 d5 d6 HSP HCNT
      go_wp2_with fail
      refine bodyPost_ret (v := .agg #[.int .i64 3, .int .u64 (n : Int), .string (strB t), .slice a6 L6 c6, .string (strB r), .slice la ls.length lc, .slice pa ps.length pc]) (by simp [results, Try.results25, go_sem, z0, z1, z2, z3, z4, z5, z6]) rfl ?_
      obtain ⟨rfl, rfl, rfl, rfl⟩ := HZ4.out
      have hgw := HGG.out
      obtain ⟨fa', fc', hv, hrep⟩ := with_rep (HR.out w (Below.refl _ _)) (HX.out w (Below.refl _ _)) HBE6.out hk64 HFL.out M HO6.out
      rw [← HFS.out] at hv hrep
      simp only [Value.slice.injEq] at hv
      obtain ⟨rfl, rfl, rfl⟩ := hv
      have hb3 := below_set7 ((HBE6.out).setCell (p := ⟨g, 3, none⟩) (by show w.heap.size ≤ g; omega) (.slice a6 (splice fs i M (k2 != 0) (key, .mk k2 n2 t2 fs2 r2 ls2 ps2)).length c6)) (show w.heap.size ≤ g + 1 + 1 by omega) (.int .i64 3) (.int .u64 ((0 : Nat) : Int)) (.string (strB [])) (.slice a6 (splice fs i M (k2 != 0) (key, .mk k2 n2 t2 fs2 r2 ls2 ps2)).length c6) (.string (strB r)) (.slice la ([] : List V).length lc) (.slice pa ([] : List (V × V)).length pc)
      rw [HPUT.out _ rfl]
      have hgg := grew_set7 (g := g + 1 + 1) ((Grew.refl [g, g + 1 + 1] w6).setCell (p := ⟨g, 3, none⟩) (.inl (by simp)) (.slice a6 (splice fs i M (k2 != 0) (key, .mk k2 n2 t2 fs2 r2 ls2 ps2)).length c6)) (by simp) (.int .i64 3) (.int .u64 ((0 : Nat) : Int)) (.string (strB [])) (.slice a6 (splice fs i M (k2 != 0) (key, .mk k2 n2 t2 fs2 r2 ls2 ps2)).length c6) (.string (strB r)) (.slice la ([] : List V).length lc) (.slice pa ([] : List (V × V)).length pc)
      have hlz : g + 1 + 1 < w1.drew.heap.size := HCZ1.out.lt
      exact ⟨⟨a6, c6, la, lc, pa, pc⟩, rfl, (hrep.grew hgg (fun k hk hm => by simp at hm; omega)).any, hb3⟩
  · have HG : Hid (withV (.mk k n t fs r ls ps) key (.mk k2 n2 t2 fs2 r2 ls2 ps2) = .mk k n t fs r ls ps) := by show (if k ≠ 3 ∨ key < 1 ∨ 536870911 < key then _ else _) = _; rw [if_pos (by omega)]
    have hcases : (k != 3) = true ∨ ((k != 3) = false ∧ key < 1) ∨ ((k != 3) = false ∧ ¬ key < 1 ∧ 536870911 < key) := by
      by_cases a : k = 3
      · by_cases b : key < 1
        · exact .inr (.inl ⟨by simpa using a, b⟩)
        · exact .inr (.inr ⟨by simpa using a, b, by omega⟩)
      · exact .inl (by simpa using a)
    have HRX : Hid (Rep S w (.mk k n t fs r ls ps) ⟨fa, fc, la, lc, pa, pc⟩) := HR.out w (Below.refl _ _)
    clear hg
    rcases hcases with g1 | ⟨g1, g2⟩ | ⟨g1, g2, g3⟩
    all_goals
      go_enter Try.func25, Try.ntmps25
      go_wp2_with fail
      refine bodyPost_ret (v := .agg #[.int .i64 k, .int .u64 (n : Int), .string (strB t), .slice fa fs.length fc, .string (strB r), .slice la ls.length lc, .slice pa ps.length pc]) (by simp [results, Try.results25, go_sem]) rfl ?_
      rw [HG.out]
      have hb3 : Below w.heap.size w (((w.alloc (.cells #[.int .i64 k, .int .u64 (n : Int), .string (strB t), .slice fa fs.length fc, .string (strB r), .slice la ls.length lc, .slice pa ps.length pc] 27)).alloc (.cells #[.int .i64 k2, .int .u64 (n2 : Int), .string (strB t2), .slice fa2 fs2.length fc2, .string (strB r2), .slice la2 ls2.length lc2, .slice pa2 ps2.length pc2] 27)).alloc (.cells #[.int .i64 k, .int .u64 (n : Int), .string (strB t), .slice fa fs.length fc, .string (strB r), .slice la ls.length lc, .slice pa ps.length pc] 27)) := (((Below.refl _ _).alloc (Nat.le_refl _) _).alloc (by simp) _).alloc (by simp; omega) _
      exact ⟨⟨fa, fc, la, lc, pa, pc⟩, rfl, (HRX.out.stays hb3).any, hb3⟩
end
end Go.Proofs.Ytcnjlbbckdmifaa
