/- Paths: what stands at a path (texts PaK, PaM, PaL, PaN, merged by merge.py). -/
import Derived.Test.YtcjflglpkpkflaaGreatDoorPaA
import Derived.Test.YtcjflglpkpkflaaGreatDoorVd
import Derived.Test.YtcjflglpkpkflaaGreatDoorVz
import Derived.Test.YtcjflglpkpkflaaGreatDoorVza
import Derived.Test.YtcjflglpkpkflaaGreatDoorVw
import Derived.Test.YtcjflglpkpkflaaGreatDoorPaE
import Derived.Test.YtcjflglpkpkflaaGreatDoorWide
import Derived.Test.YtcjflglpkpkflaaGreatDoorSlcS
import Derived.Laws.ResultCell
namespace Go.Proofs.YtcjflglpkpkflaaGreatDoor
set_option linter.unusedVariables false
/-- a list of values, or nothing -/
def listV (l : List V) : V := if l = [] then V.none else .mk 4 0 [] [] [] l []
def strV (t : Bs) : V := .mk 2 0 t [] [] [] []
/-- what stands behind a step -/
def getS (s : PS) (v : V) : V × Bool :=
  if s.k = 1 then (getV v s.n, (getV v s.n).k != 0)
  else if s.k = 2 then (findV v s.v, (findV v s.v).k != 0)
  else if s.k = 3 ∧ v.k = 4 ∧ 0 ≤ s.n ∧ s.n < v.ls.length then ((v.ls[s.n.toNat]?).getD V.none, true)
  else if s.k = 4 ∧ v.k = 3 then (strV v.r, true)
  else if s.k = 5 ∧ v.k = 4 ∧ 0 ≤ s.n ∧ s.n ≤ s.t ∧ s.t ≤ v.ls.length then (listV ((v.ls.take s.t.toNat).drop s.n.toNat), true)
  else (V.none, false)
/-- the program's way along a path -/
def getA : V → Bool → List PS → V × Bool
  | v, is, [] => (v, is)
  | v, is, s :: r => if (getS s v).2 then getA (getS s v).1 true r else (V.none, false)
def getP (v : V) (p : List PS) : V × Bool := getA v (v.k != 0) p
/-- the document's way -/
def getR : V → List PS → V × Bool
  | v, [] => (v, v.k != 0)
  | v, s :: r => if (getS s v).2 then (if r = [] then ((getS s v).1, true) else if (getS s v).1.k = 0 then (V.none, false) else getR (getS s v).1 r) else (V.none, false)
theorem none_k : V.none.k = 0 := rfl
theorem getV_zero {v : V} (h : v.k = 0) (n : Int) : getV v n = V.none := by unfold getV; rw [if_neg (by omega)]
theorem findV_zero {v : V} (h : v.k = 0) (x : V) : findV v x = V.none := by unfold findV; rw [if_neg (by omega)]
theorem getS_zero {v : V} (h : v.k = 0) (s : PS) : (getS s v).2 = false := by
  unfold getS
  rw [getV_zero h, findV_zero h, none_k]
  split
  · rfl
  · split
    · rfl
    · rw [if_neg (by omega), if_neg (by omega), if_neg (by omega)]
theorem getR_getA : ∀ (r : List PS) (x : V), r ≠ [] → x.k ≠ 0 → getR x r = getA x true r
  | [], x, h, _ => absurd rfl h
  | [s], x, _, _ => by rw [getR, getA, if_pos rfl]; rfl
  | s :: s2 :: r, x, _, _ => by
    rw [getR, getA]
    by_cases hs : (getS s x).2 = true
    · rw [if_pos hs, if_pos hs, if_neg (by simp)]
      by_cases h0 : (getS s x).1.k = 0
      · rw [if_pos h0, getA, if_neg (by rw [getS_zero h0]; simp)]
      · rw [if_neg h0]; exact getR_getA (s2 :: r) _ (by simp) h0
    · rw [if_neg hs, if_neg hs]
/-- both ways find the same -/
theorem getR_getP (v : V) (p : List PS) : getR v p = getP v p := by
  unfold getP
  cases p with
  | nil => rfl
  | cons s r =>
    rw [getR, getA]
    by_cases hs : (getS s v).2 = true
    · rw [if_pos hs, if_pos hs]
      by_cases hr : r = []
      · rw [if_pos hr, hr]; rfl
      · rw [if_neg hr]
        by_cases h0 : (getS s v).1.k = 0
        · rw [if_pos h0]
          obtain ⟨s2, r2, rfl⟩ := List.exists_cons_of_ne_nil hr
          rw [getA, if_neg (by rw [getS_zero h0]; simp)]
        · rw [if_neg h0]; exact getR_getA r _ hr h0
    · rw [if_neg hs, if_neg hs]
/-! ### what is found is right -/
theorem none_right : rightV V.none = true := by simp [V.none, rightV, rightF, rightL, rightP, shapeB]
theorem str_right (t : Bs) : rightV (strV t) = true := by simp [strV, rightV, rightF, rightL, rightP, shapeB]
theorem rightL_of : ∀ {l : List V}, (∀ x ∈ l, singleK x.k = true ∧ rightV x = true) → rightL l = true
  | [], _ => by rw [rightL]
  | x :: l, h => by
    obtain ⟨h1, h2⟩ := h x (by simp)
    rw [rightL, h1, h2, rightL_of (fun y hy => h y (by simp [hy]))]; rfl
theorem rightL_to : ∀ {l : List V}, rightL l = true → ∀ x ∈ l, singleK x.k = true ∧ rightV x = true
  | [], _, x, hx => by cases hx
  | y :: l, h, x, hx => by
    rw [rightL, Bool.and_eq_true, Bool.and_eq_true] at h
    rcases List.mem_cons.1 hx with rfl | hx
    · exact h.1
    · exact rightL_to h.2 x hx
theorem rightF_to : ∀ {l : List (Int × V)} {last : Int}, rightF last l = true → ∀ p ∈ l, rightV p.2 = true ∧ p.2.k ≠ 0
  | [], _, _, x, hx => by cases hx
  | (n, v) :: l, last, h, x, hx => by
    simp only [rightF, Bool.and_eq_true, bne_iff_ne] at h
    rcases List.mem_cons.1 hx with rfl | hx
    · exact ⟨h.1.2, h.1.1.2⟩
    · exact rightF_to h.2 x hx
theorem single_ne {k : Int} (h : singleK k = true) : k ≠ 0 := by
  unfold singleK at h
  simp only [Bool.or_eq_true, beq_iff_eq] at h
  omega
theorem rightP_to : ∀ {l : List (V × V)} {last : Option V}, rightP last l = true → ∀ p ∈ l, (rightV p.1 = true ∧ p.1.k ≠ 0 ∧ p.1.k ≤ 2) ∧ rightV p.2 = true ∧ p.2.k ≠ 0
  | [], _, _, x, hx => by cases hx
  | (a, b) :: l, last, h, x, hx => by
    simp only [rightP, Bool.and_eq_true] at h
    obtain ⟨⟨⟨⟨⟨⟨h0, h1⟩, h2⟩, h3⟩, h4⟩, h5⟩, h6⟩ := h
    rcases List.mem_cons.1 hx with rfl | hx
    · exact ⟨⟨h2, single_ne h1, of_decide_eq_true h0⟩, h4, single_ne h3⟩
    · exact rightP_to h6 x hx
theorem findA_mem {α β : Type} {c : α → Int} {f : α → β} {d : β} : ∀ (l : List α), findA c f d l = d ∨ ∃ x ∈ l, findA c f d l = f x
  | [] => .inl rfl
  | x :: l => by
    rw [findA]
    split
    · exact .inr ⟨x, by simp, rfl⟩
    · rcases findA_mem (c := c) (f := f) (d := d) l with h | ⟨y, hy, h⟩
      · exact .inl h
      · exact .inr ⟨y, by simp [hy], h⟩
theorem right_parts {v : V} (h : rightV v = true) : rightF 0 v.fs = true ∧ rightL v.ls = true ∧ rightP none v.ps = true := by
  obtain ⟨k, n, t, fs, r, ls, ps⟩ := v
  simp only [rightV, Bool.and_eq_true] at h
  exact ⟨h.1.1.2, h.1.2, h.2⟩
theorem getV_right {v : V} (h : rightV v = true) (n : Int) : rightV (getV v n) = true := by
  unfold getV
  split
  · rcases findA_mem (c := fieldC n) (f := Prod.snd) (d := V.none) v.fs with e | ⟨x, hx, e⟩
    · rw [e]; exact none_right
    · rw [e]; exact (rightF_to (right_parts h).1 x hx).1
  · exact none_right
theorem findV_right {v : V} (h : rightV v = true) (y : V) : rightV (findV v y) = true := by
  unfold findV
  split
  · rcases findA_mem (c := pairC y) (f := Prod.snd) (d := V.none) v.ps with e | ⟨x, hx, e⟩
    · rw [e]; exact none_right
    · rw [e]; exact (rightP_to (right_parts h).2.2 x hx).2.1
  · exact none_right
theorem listV_right {l : List V} (h : ∀ x ∈ l, singleK x.k = true ∧ rightV x = true) : rightV (listV l) = true := by
  unfold listV
  split
  · exact none_right
  · rename_i hl
    have h2 := rightL_of h
    have h3 : l.isEmpty = false := by cases l with | nil => exact absurd rfl hl | cons x y => rfl
    simp [rightV, rightF, rightP, shapeB, h2, h3]
theorem getS_right {v : V} (h : rightV v = true) (s : PS) : rightV (getS s v).1 = true := by
  have hl := rightL_to (right_parts h).2.1
  unfold getS
  split
  · exact getV_right h s.n
  · split
    · exact findV_right h s.v
    · split
      · show rightV ((v.ls[s.n.toNat]?).getD V.none) = true
        cases hq : v.ls[s.n.toNat]? with
        | none => exact none_right
        | some x => exact (hl x (List.mem_of_getElem? hq)).2
      · split
        · exact str_right _
        · split
          · exact listV_right fun x hx => hl x (List.mem_of_mem_take (List.mem_of_mem_drop hx))
          · exact none_right
end Go.Proofs.YtcjflglpkpkflaaGreatDoor
namespace Go.Proofs.YtcjflglpkpkflaaGreatDoor
open Go Go.RowKit
set_option linter.unusedVariables false
theorem ValS.lit {SS : Nat → Prop} {k : Int} {n : Nat} {t r : List UInt8} {fs : List (Int × V)} {ls : List V} {ps : List (V × V)} {w w' : World} {e : Ending} (h : ValS SS (.mk k n t fs r ls ps) w e w') : ∃ (fa la pa : Option Addr) (fc lc pc : Nat), e = .returned (.agg #[.int .i64 k, .int .u64 (n : Int), .string (strB t), .slice fa fs.length fc, .string (strB r), .slice la ls.length lc, .slice pa ps.length pc]) ∧ Rep SS w' (.mk k n t fs r ls ps) ⟨fa, fc, la, lc, pa, pc⟩ ∧ Below w.heap.size w w' := by
  obtain ⟨⟨fa, fc, la, lc, pa, pc⟩, h1, h2, h3⟩ := h
  exact ⟨fa, la, pa, fc, lc, pc, by rw [h1, vG_lit], h2, h3⟩
section
variable {k : Int} {n : Nat} {t r : List UInt8} {fs : List (Int × V)} {ls : List V} {ps : List (V × V)} {fa la pa : Option Addr} {fc lc pc : Nat} {S : Nat → Prop} {w : World}
set_option maxRecDepth 100000 in
set_option maxHeartbeats 4000000 in
theorem get_S (key : Int) (hr : Rep S w (.mk k n t fs r ls ps) ⟨fa, fc, la, lc, pa, pc⟩) (hR : rightV (.mk k n t fs r ls ps) = true) (hlen : fs.length ≤ 1000000) :
    Calls Tryz.prog 60 #[.agg #[.int .i64 k, .int .u64 (n : Int), .string (strB t), .slice fa fs.length fc, .string (strB r), .slice la ls.length lc, .slice pa ps.length pc], .int .i64 key] w (ValS S (getV (.mk k n t fs r ls ps) key) w) := by
  have hri : Rises (fieldC key) fs := fields_rise ((rightV_iff _).1 hR).2.1 key
  have HBA : Hid (Below w.heap.size w ((w.alloc (.cells #[.int .i64 k, .int .u64 (n : Int), .string (strB t), .slice fa fs.length fc, .string (strB r), .slice la ls.length lc, .slice pa ps.length pc] 38)).alloc (.cells #[.int .i64 0, .int .u64 0, .string ⟨#[]⟩, .slice none 0 0, .string ⟨#[]⟩, .slice none 0 0, .slice none 0 0] 38))) := ((Below.refl _ _).alloc (Nat.le_refl _) _).alloc (by simp) _
  have hcx : CellsAt ((w.alloc (.cells #[.int .i64 k, .int .u64 (n : Int), .string (strB t), .slice fa fs.length fc, .string (strB r), .slice la ls.length lc, .slice pa ps.length pc] 38)).alloc (.cells #[.int .i64 0, .int .u64 0, .string ⟨#[]⟩, .slice none 0 0, .string ⟨#[]⟩, .slice none 0 0, .slice none 0 0] 38)) w.heap.size 38 #[.int .i64 k, .int .u64 (n : Int), .string (strB t), .slice fa fs.length fc, .string (strB r), .slice la ls.length lc, .slice pa ps.length pc] := (CellsAt.new w _ _).stays ((Below.refl _ _).alloc (Nat.le_refl _) _)
  have hcy := CellsAt.new (w.alloc (.cells #[.int .i64 k, .int .u64 (n : Int), .string (strB t), .slice fa fs.length fc, .string (strB r), .slice la ls.length lc, .slice pa ps.length pc] 38)) #[.int .i64 0, .int .u64 0, .string ⟨#[]⟩, .slice none 0 0, .string ⟨#[]⟩, .slice none 0 0, .slice none 0 0] 38
  rw [show (w.alloc (.cells #[.int .i64 k, .int .u64 (n : Int), .string (strB t), .slice fa fs.length fc, .string (strB r), .slice la ls.length lc, .slice pa ps.length pc] 38)).heap.size = w.heap.size + 1 by simp] at hcy
  have HCX := Lib.hid hcx
  have HCY := Lib.hid hcy
  have HP := Lib.hid (place_any key (hr.stays HBA.out) hri hlen)
  have HR : Hid (∀ W, Below w.heap.size w W → Rep S W (.mk k n t fs r ls ps) ⟨fa, fc, la, lc, pa, pc⟩) := fun W hb => hr.stays hb
  have HRI := Lib.hid hri
  clear hr hR hri hcx hcy
  go_enter Tryz.func60, Tryz.ntmps60
  go_wp2_with fail
  refine HP.out.mono ?_
  rintro e w1 ⟨i, hi, rfl, hb⟩
  have hbe : Below w.heap.size w w1 := HBA.out.trans (hb.mono HBA.out.size)
  have hcx := HCX.out.stays hb
  have hcy := HCY.out.stays hb
  have d0 := hcx.cell 0 (v := .int .i64 k) rfl
  have d3 := hcx.cell 3 (v := .slice fa fs.length fc) rfl
  have z0 := hcy.cell 0 (v := .int .i64 0) rfl
  have z1 := hcy.cell 1 (v := .int .u64 0) rfl
  have z2 := hcy.cell 2 (v := .string ⟨#[]⟩) rfl
  have z3 := hcy.cell 3 (v := .slice none 0 0) rfl
  have z4 := hcy.cell 4 (v := .string ⟨#[]⟩) rfl
  have z5 := hcy.cell 5 (v := .slice none 0 0) rfl
  have z6 := hcy.cell 6 (v := .slice none 0 0) rfl
  have hly := hcy.lt
  have HI := Lib.hid hi
  have f0 := hcy.free 0
  have f1 := hcy.free 1
  have f2 := hcy.free 2
  have f3 := hcy.free 3
  have f4 := hcy.free 4
  have f5 := hcy.free 5
  have f6 := hcy.free 6
  have HF := Lib.hid (findA_at (f := Prod.snd) (d := V.none) fs i HRI.out hi)
  have HBE := Lib.hid hbe
  clear hb HCX HCY HP HI HRI hbe hcx hcy
  by_cases hk : k = 3
  · cases hT : thereB (fieldC key) fs i with
    | false =>
      have HG : Hid (getV (.mk k n t fs r ls ps) key = V.none) := by
        show (if k = 3 then findA (fieldC key) Prod.snd V.none fs else V.none) = _
        rw [if_pos hk, HF.out]
        unfold thereB at hT
        cases hq : fs[i]? with
        | none => rfl
        | some y => rw [hq] at hT; simp only at hT ⊢; rw [if_neg (by simpa using hT)]
      subst hk
      clear HF hT
      go_wp2_with fail
      refine bodyPost_ret (v := .agg #[.int .i64 0, .int .u64 0, .string ⟨#[]⟩, .slice none 0 0, .string ⟨#[]⟩, .slice none 0 0, .slice none 0 0]) (by simp [results, Tryz.results60, go_sem, z0, z1, z2, z3, z4, z5, z6]) rfl ?_
      rw [HG.out]
      exact ⟨A3.nil, rfl, rep_none, below_set7 HBE.out (by omega) _ _ _ _ _ _ _⟩
    | true =>
      obtain ⟨⟨num, ⟨k', n', t', fs', r', ls', ps'⟩⟩, hq⟩ : ∃ p, fs[i]? = some p := by
        unfold thereB at hT
        cases hq : fs[i]? with
        | none => rw [hq] at hT; cases hT
        | some y => exact ⟨y, rfl⟩
      have HG : Hid (getV (.mk k n t fs r ls ps) key = .mk k' n' t' fs' r' ls' ps') := by
        show (if k = 3 then findA (fieldC key) Prod.snd V.none fs else V.none) = _
        rw [if_pos hk, HF.out]
        unfold thereB at hT
        rw [hq] at hT ⊢
        simp only at hT ⊢
        rw [if_pos (by simpa using hT)]
      have hil : i < fs.length := (List.getElem?_eq_some_iff.1 hq).1
      obtain ⟨b, o, fa', la', pa', fc', lc', pc', rfl, hnum, hrx, c0, c1, c2, c3, c4, c5, c6, c7⟩ := (HR.out w (Below.refl _ _)).fieldAt hq
      have hlt0 : b < w.heap.size := World.block_lt_of_cell? w _ c0
      have hlt : b < w1.heap.size := Nat.lt_of_lt_of_le hlt0 HBE.out.size
      replace c1 := later1 c1 hlt0 HBE.out
      replace c2 := later1 c2 hlt0 HBE.out
      replace c3 := later1 c3 hlt0 HBE.out
      replace c4 := later1 c4 hlt0 HBE.out
      replace c5 := later1 c5 hlt0 HBE.out
      replace c6 := later1 c6 hlt0 HBE.out
      replace c7 := later1 c7 hlt0 HBE.out
      clear c0
      have HRX := Lib.hid hrx
      subst hk
      clear HF hT hq hrx
      go_wp2_with fail
      refine bodyPost_ret (v := .agg #[.int .i64 k', .int .u64 (n' : Int), .string (strB t'), .slice fa' fs'.length fc', .string (strB r'), .slice la' ls'.length lc', .slice pa' ps'.length pc']) (by simp [results, Tryz.results60, go_sem, z0, z1, z2, z3, z4, z5, z6]) rfl ?_
      rw [HG.out]
      have hb7 := below_set7 HBE.out (show w.heap.size ≤ w.heap.size + 1 by omega) (.int .i64 k') (.int .u64 (n' : Int)) (.string (strB t')) (.slice fa' fs'.length fc') (.string (strB r')) (.slice la' ls'.length lc') (.slice pa' ps'.length pc')
      exact ⟨⟨fa', fc', la', lc', pa', pc'⟩, rfl, HRX.out.stays hb7, hb7⟩
  · have g3 : (k != 3) = true := by simpa using hk
    have HG : Hid (getV (.mk k n t fs r ls ps) key = V.none) := by show (if k = 3 then _ else V.none) = _; rw [if_neg hk]
    clear hk HF
    go_wp2_with fail
    refine bodyPost_ret (v := .agg #[.int .i64 0, .int .u64 0, .string ⟨#[]⟩, .slice none 0 0, .string ⟨#[]⟩, .slice none 0 0, .slice none 0 0]) (by simp [results, Tryz.results60, go_sem, z0, z1, z2, z3, z4, z5, z6]) rfl ?_
    rw [HG.out]
    exact ⟨A3.nil, rfl, rep_none, below_set7 HBE.out (by omega) _ _ _ _ _ _ _⟩
end
section
variable {k : Int} {n : Nat} {t r : List UInt8} {fs : List (Int × V)} {ls : List V} {ps : List (V × V)} {fa la pa : Option Addr} {fc lc pc : Nat} {S : Nat → Prop} {w : World}
variable {k2 : Int} {n2 : Nat} {t2 r2 : List UInt8} {fs2 : List (Int × V)} {ls2 : List V} {ps2 : List (V × V)} {fa2 la2 pa2 : Option Addr} {fc2 lc2 pc2 : Nat} {S2 : Nat → Prop}
variable {k9 : Int} {n9 : Nat} {t9 r9 : List UInt8} {fs9 : List (Int × V)} {ls9 : List V} {ps9 : List (V × V)} {fa9 la9 pa9 : Option Addr} {fc9 lc9 pc9 : Nat} {S9 : Nat → Prop}
set_option maxRecDepth 100000 in
set_option maxHeartbeats 4000000 in
theorem find_S (hr : Rep S w (.mk k n t fs r ls ps) ⟨fa, fc, la, lc, pa, pc⟩) (hr9 : Rep S9 w (.mk k9 n9 t9 fs9 r9 ls9 ps9) ⟨fa9, fc9, la9, lc9, pa9, pc9⟩) (hR : rightV (.mk k n t fs r ls ps) = true) (hlen : ps.length ≤ 1000000) :
    Calls Tryz.prog 61 #[.agg #[.int .i64 k, .int .u64 (n : Int), .string (strB t), .slice fa fs.length fc, .string (strB r), .slice la ls.length lc, .slice pa ps.length pc], .agg #[.int .i64 k9, .int .u64 (n9 : Int), .string (strB t9), .slice fa9 fs9.length fc9, .string (strB r9), .slice la9 ls9.length lc9, .slice pa9 ps9.length pc9]] w (ValS S (findV (.mk k n t fs r ls ps) (.mk k9 n9 t9 fs9 r9 ls9 ps9)) w) := by
  have hri : Rises (pairC (.mk k9 n9 t9 fs9 r9 ls9 ps9)) ps := pairs_rise (last := none) ((rightV_iff _).1 hR).2.2.2 (.mk k9 n9 t9 fs9 r9 ls9 ps9)
  obtain ⟨W0, hW0⟩ : ∃ W0, W0 = ((w.alloc (.cells #[.int .i64 k, .int .u64 (n : Int), .string (strB t), .slice fa fs.length fc, .string (strB r), .slice la ls.length lc, .slice pa ps.length pc] 38)).alloc (.cells #[.int .i64 k9, .int .u64 (n9 : Int), .string (strB t9), .slice fa9 fs9.length fc9, .string (strB r9), .slice la9 ls9.length lc9, .slice pa9 ps9.length pc9] 38)).alloc (.cells #[.int .i64 0, .int .u64 0, .string ⟨#[]⟩, .slice none 0 0, .string ⟨#[]⟩, .slice none 0 0, .slice none 0 0] 38) := ⟨_, rfl⟩
  obtain ⟨g, hg⟩ : ∃ g, g = w.heap.size := ⟨_, rfl⟩
  have hBA : Below w.heap.size w W0 := by rw [hW0]; exact (((Below.refl _ _).alloc (Nat.le_refl _) _).alloc (by simp) _).alloc (by simp; omega) _
  have hcx : CellsAt W0 g 38 #[.int .i64 k, .int .u64 (n : Int), .string (strB t), .slice fa fs.length fc, .string (strB r), .slice la ls.length lc, .slice pa ps.length pc] := by rw [hW0, hg]; exact (CellsAt.new w _ _).stays (((Below.refl _ _).alloc (Nat.le_refl _) _).alloc (by simp) _)
  have hcz : CellsAt W0 (g + 1 + 1) 38 #[.int .i64 0, .int .u64 0, .string ⟨#[]⟩, .slice none 0 0, .string ⟨#[]⟩, .slice none 0 0, .slice none 0 0] := by
    have := CellsAt.new ((w.alloc (.cells #[.int .i64 k, .int .u64 (n : Int), .string (strB t), .slice fa fs.length fc, .string (strB r), .slice la ls.length lc, .slice pa ps.length pc] 38)).alloc (.cells #[.int .i64 k9, .int .u64 (n9 : Int), .string (strB t9), .slice fa9 fs9.length fc9, .string (strB r9), .slice la9 ls9.length lc9, .slice pa9 ps9.length pc9] 38)) #[.int .i64 0, .int .u64 0, .string ⟨#[]⟩, .slice none 0 0, .string ⟨#[]⟩, .slice none 0 0, .slice none 0 0] 38
    rw [show ((w.alloc (.cells #[.int .i64 k, .int .u64 (n : Int), .string (strB t), .slice fa fs.length fc, .string (strB r), .slice la ls.length lc, .slice pa ps.length pc] 38)).alloc (.cells #[.int .i64 k9, .int .u64 (n9 : Int), .string (strB t9), .slice fa9 fs9.length fc9, .string (strB r9), .slice la9 ls9.length lc9, .slice pa9 ps9.length pc9] 38)).heap.size = w.heap.size + 1 + 1 by simp] at this
    rw [hW0, hg]; exact this
  have HX : Hid (∀ W, Below W0.heap.size W0 W → CellsAt W g 38 #[.int .i64 k, .int .u64 (n : Int), .string (strB t), .slice fa fs.length fc, .string (strB r), .slice la ls.length lc, .slice pa ps.length pc] ∧ CellsAt W (g + 1 + 1) 38 #[.int .i64 0, .int .u64 0, .string ⟨#[]⟩, .slice none 0 0, .string ⟨#[]⟩, .slice none 0 0, .slice none 0 0] ∧ Below w.heap.size w W) := fun W hb => ⟨hcx.stays hb, hcz.stays hb, hBA.trans (hb.mono hBA.size)⟩
  have HP := Lib.hid (spot_any (hr.stays hBA) (hr9.stays hBA) hri hlen)
  have HR0 := Lib.hid hr
  have HRI := Lib.hid hri
  have HW := Lib.hid hW0
  have HG := Lib.hid hg
  clear hr hr9 hR hri hcx hcz hW0 hg hBA
  go_enter Tryz.func61, Tryz.ntmps61
  go_wp2_with fail
  have hW0 := HW.out
  rw [← hW0]
  clear hW0 HW
  refine HP.out.mono ?_
  rintro e w1 ⟨i, hi, rfl, hb⟩
  have hg := HG.out
  rw [← hg]
  clear hg
  obtain ⟨hcx, hcz, hbe⟩ := HX.out w1 hb
  have d0 := hcx.cell 0 (v := .int .i64 k) rfl
  have d6 := hcx.cell 6 (v := .slice pa ps.length pc) rfl
  have z0 := hcz.cell 0 (v := .int .i64 0) rfl
  have z1 := hcz.cell 1 (v := .int .u64 0) rfl
  have z2 := hcz.cell 2 (v := .string ⟨#[]⟩) rfl
  have z3 := hcz.cell 3 (v := .slice none 0 0) rfl
  have z4 := hcz.cell 4 (v := .string ⟨#[]⟩) rfl
  have z5 := hcz.cell 5 (v := .slice none 0 0) rfl
  have z6 := hcz.cell 6 (v := .slice none 0 0) rfl
  have f0 := hcz.free 0
  have f1 := hcz.free 1
  have f2 := hcz.free 2
  have f3 := hcz.free 3
  have f4 := hcz.free 4
  have f5 := hcz.free 5
  have f6 := hcz.free 6
  have hly := hcz.lt
  have HF := Lib.hid (findA_at (f := Prod.snd) (d := V.none) ps i HRI.out hi)
  have HBE := Lib.hid hbe
  clear hb HP HRI hbe hcx hcz HX
  by_cases hk : k = 5
  · cases hT : thereB (pairC (.mk k9 n9 t9 fs9 r9 ls9 ps9)) ps i with
    | false =>
      have HV : Hid (findV (.mk k n t fs r ls ps) (.mk k9 n9 t9 fs9 r9 ls9 ps9) = V.none) := by
        show (if k = 5 then findA (pairC (.mk k9 n9 t9 fs9 r9 ls9 ps9)) Prod.snd V.none ps else V.none) = _
        rw [if_pos hk, HF.out]
        unfold thereB at hT
        cases hq : ps[i]? with
        | none => rfl
        | some y => rw [hq] at hT; simp only at hT ⊢; rw [if_neg (by simpa using hT)]
      subst hk
      clear HF hT
      go_wp2_with fail
      refine bodyPost_ret (v := .agg #[.int .i64 0, .int .u64 0, .string ⟨#[]⟩, .slice none 0 0, .string ⟨#[]⟩, .slice none 0 0, .slice none 0 0]) (by simp [results, Tryz.results61, go_sem, z0, z1, z2, z3, z4, z5, z6]) rfl ?_
      rw [HV.out]
      have hgw := HG.out
      exact ⟨A3.nil, rfl, rep_none, below_set7 HBE.out (by omega) _ _ _ _ _ _ _⟩
    | true =>
      obtain ⟨⟨⟨k', n', t', fs', r', ls', ps'⟩, ⟨k3, n3, t3, fs3, r3, ls3, ps3⟩⟩, hq⟩ : ∃ p, ps[i]? = some p := by
        unfold thereB at hT
        cases hq : ps[i]? with
        | none => rw [hq] at hT; cases hT
        | some y => exact ⟨y, rfl⟩
      have HV : Hid (findV (.mk k n t fs r ls ps) (.mk k9 n9 t9 fs9 r9 ls9 ps9) = .mk k3 n3 t3 fs3 r3 ls3 ps3) := by
        show (if k = 5 then findA (pairC (.mk k9 n9 t9 fs9 r9 ls9 ps9)) Prod.snd V.none ps else V.none) = _
        rw [if_pos hk, HF.out]
        unfold thereB at hT
        rw [hq] at hT ⊢
        simp only at hT ⊢
        rw [if_pos (by simpa using hT)]
      have hil : i < ps.length := (List.getElem?_eq_some_iff.1 hq).1
      obtain ⟨b, o, fa', la', pa', fc', lc', pc', fa3, la3, pa3, fc3, lc3, pc3, rfl, hrx, hry, c0, c1, c2, c3, c4, c5, c6, c7, c8, c9, c10, c11, c12, c13⟩ := HR0.out.pairAt hq
      have hlt0 : b < w.heap.size := World.block_lt_of_cell? w _ c0
      have hlt : b < w1.heap.size := Nat.lt_of_lt_of_le hlt0 HBE.out.size
      replace c7 := later1 c7 hlt0 HBE.out
      replace c8 := later1 c8 hlt0 HBE.out
      replace c9 := later1 c9 hlt0 HBE.out
      replace c10 := later1 c10 hlt0 HBE.out
      replace c11 := later1 c11 hlt0 HBE.out
      replace c12 := later1 c12 hlt0 HBE.out
      replace c13 := later1 c13 hlt0 HBE.out
      clear c0 c1 c2 c3 c4 c5 c6
      have HRX := Lib.hid hry
      subst hk
      clear HF hT hq hrx hry
      go_wp2_with fail
      refine bodyPost_ret (v := .agg #[.int .i64 k3, .int .u64 (n3 : Int), .string (strB t3), .slice fa3 fs3.length fc3, .string (strB r3), .slice la3 ls3.length lc3, .slice pa3 ps3.length pc3]) (by simp [results, Tryz.results61, go_sem, z0, z1, z2, z3, z4, z5, z6]) rfl ?_
      rw [HV.out]
      have hgw := HG.out
      have hb7 := below_set7 HBE.out (show w.heap.size ≤ g + 1 + 1 by omega) (.int .i64 k3) (.int .u64 (n3 : Int)) (.string (strB t3)) (.slice fa3 fs3.length fc3) (.string (strB r3)) (.slice la3 ls3.length lc3) (.slice pa3 ps3.length pc3)
      exact ⟨⟨fa3, fc3, la3, lc3, pa3, pc3⟩, rfl, HRX.out.stays hb7, hb7⟩
  · have g3 : (k != 5) = true := by simpa using hk
    have HV : Hid (findV (.mk k n t fs r ls ps) (.mk k9 n9 t9 fs9 r9 ls9 ps9) = V.none) := by show (if k = 5 then _ else V.none) = _; rw [if_neg hk]
    clear hk HF
    go_wp2_with fail
    refine bodyPost_ret (v := .agg #[.int .i64 0, .int .u64 0, .string ⟨#[]⟩, .slice none 0 0, .string ⟨#[]⟩, .slice none 0 0, .slice none 0 0]) (by simp [results, Tryz.results61, go_sem, z0, z1, z2, z3, z4, z5, z6]) rfl ?_
    rw [HV.out]
    have hgw := HG.out
    exact ⟨A3.nil, rfl, rep_none, below_set7 HBE.out (by omega) _ _ _ _ _ _ _⟩
end
section
variable {k : Int} {n : Nat} {t r : List UInt8} {fs : List (Int × V)} {ls : List V} {ps : List (V × V)} {fa la pa : Option Addr} {fc lc pc : Nat} {S : Nat → Prop} {w : World}
set_option maxRecDepth 100000 in
set_option maxHeartbeats 4000000 in
theorem rget_S (key : Int) (hr : Rep S w (.mk k n t fs r ls ps) ⟨fa, fc, la, lc, pa, pc⟩) (hlen : fs.length ≤ 1000000) :
    Calls Tryz.prog 41 #[.agg #[.int .i64 k, .int .u64 (n : Int), .string (strB t), .slice fa fs.length fc, .string (strB r), .slice la ls.length lc, .slice pa ps.length pc], .int .i64 key] w (ValS S (getV (.mk k n t fs r ls ps) key) w) := by
  obtain ⟨W0, hW0⟩ : ∃ W0, W0 = (w.alloc (.cells #[.int .i64 k, .int .u64 (n : Int), .string (strB t), .slice fa fs.length fc, .string (strB r), .slice la ls.length lc, .slice pa ps.length pc] 47)).alloc (.cells #[.int .i64 0, .int .u64 0, .string ⟨#[]⟩, .slice none 0 0, .string ⟨#[]⟩, .slice none 0 0, .slice none 0 0] 47) := ⟨_, rfl⟩
  obtain ⟨g, hg⟩ : ∃ g, g = w.heap.size := ⟨_, rfl⟩
  have hBA : Below w.heap.size w W0 := by rw [hW0]; exact ((Below.refl _ _).alloc (Nat.le_refl _) _).alloc (by simp) _
  have hcx : CellsAt W0 g 47 #[.int .i64 k, .int .u64 (n : Int), .string (strB t), .slice fa fs.length fc, .string (strB r), .slice la ls.length lc, .slice pa ps.length pc] := by rw [hW0, hg]; exact (CellsAt.new w _ _).stays ((Below.refl _ _).alloc (Nat.le_refl _) _)
  have hcy : CellsAt W0 (g + 1) 47 #[.int .i64 0, .int .u64 0, .string ⟨#[]⟩, .slice none 0 0, .string ⟨#[]⟩, .slice none 0 0, .slice none 0 0] := by
    have := CellsAt.new (w.alloc (.cells #[.int .i64 k, .int .u64 (n : Int), .string (strB t), .slice fa fs.length fc, .string (strB r), .slice la ls.length lc, .slice pa ps.length pc] 47)) #[.int .i64 0, .int .u64 0, .string ⟨#[]⟩, .slice none 0 0, .string ⟨#[]⟩, .slice none 0 0, .slice none 0 0] 47
    rw [show (w.alloc (.cells #[.int .i64 k, .int .u64 (n : Int), .string (strB t), .slice fa fs.length fc, .string (strB r), .slice la ls.length lc, .slice pa ps.length pc] 47)).heap.size = w.heap.size + 1 by simp] at this
    rw [hW0, hg]; exact this
  have HX : Hid (∀ W, Below W0.heap.size W0 W → CellsAt W g 47 #[.int .i64 k, .int .u64 (n : Int), .string (strB t), .slice fa fs.length fc, .string (strB r), .slice la ls.length lc, .slice pa ps.length pc] ∧ CellsAt W (g + 1) 47 #[.int .i64 0, .int .u64 0, .string ⟨#[]⟩, .slice none 0 0, .string ⟨#[]⟩, .slice none 0 0, .slice none 0 0] ∧ Below w.heap.size w W) := fun W hb =>
    ⟨hcx.stays hb, hcy.stays hb, hBA.trans (hb.mono hBA.size)⟩
  have HR0 := Lib.hid hr
  have HW := Lib.hid hW0
  have HG := Lib.hid hg
  obtain ⟨R, hR⟩ : ∃ R, R = getV (.mk k n t fs r ls ps) key := ⟨_, rfl⟩
  rw [← hR]
  have hR' : (if k = 3 then findA (fieldC key) Prod.snd V.none (fs.drop 0) else V.none) = R := by rw [hR]; rfl
  have HR := Lib.hid hR'
  have x3 := hcx.cell 3 (v := .slice fa fs.length fc) rfl
  clear hr hW0 hg hBA hcx hcy hR hR'
  go_enter Tryz.func41, Tryz.ntmps41
  go_wp2_with fail
  have hW0 := HW.out
  have hg := HG.out
  rw [← hW0, ← hg]
  clear hW0 hg HW
  go_loopw [10] (fun i wr => ∃ m : Nat, m ≤ fs.length ∧ i = .int .i64 m ∧ Hid ((if k = 3 then findA (fieldC key) Prod.snd V.none (fs.drop m) else V.none) = R) ∧ Below W0.heap.size W0 wr) (fun i _ => fs.length - (intOf i).toNat)
  case atStart => exact ⟨0, Nat.zero_le _, rfl, HR, Below.refl _ _⟩
  case round =>
    clear x3 HR
    obtain ⟨m, hm, rfl, HI, hbe⟩ := hrel
    obtain ⟨hcx, hcy, hbw⟩ := HX.out wr hbe
    by_cases h1 : m < fs.length
    · obtain ⟨⟨num, ⟨k', n', t', fs', r', ls', ps'⟩⟩, hq⟩ : ∃ p, fs[m]? = some p := ⟨_, List.getElem?_eq_getElem h1⟩
      obtain ⟨b, o, fa', la', pa', fc', lc', pc', rfl, hnum, hrx, c0, c1, c2, c3, c4, c5, c6, c7⟩ := HR0.out.fieldAt hq
      have hlb : b < w.heap.size := World.block_lt_of_cell? w _ c0
      replace c0 := later1 c0 hlb hbw
      replace c1 := later1 c1 hlb hbw
      replace c2 := later1 c2 hlb hbw
      replace c3 := later1 c3 hlb hbw
      replace c4 := later1 c4 hlb hbw
      replace c5 := later1 c5 hlb hbw
      replace c6 := later1 c6 hlb hbw
      replace c7 := later1 c7 hlb hbw
      have hI := HI.out
      rw [drop_fields hq] at hI
      have hI2 : (if k = 3 then (if fieldC key (num, .mk k' n' t' fs' r' ls' ps') = 0 then (.mk k' n' t' fs' r' ls' ps') else findA (fieldC key) Prod.snd V.none (fs.drop (m + 1))) else V.none) = R := hI
      have HI2 := Lib.hid hI2
      have HRX := Lib.hid hrx
      have HBW := Lib.hid hbw
      have HBE := Lib.hid hbe
      obtain ⟨W1, hW1⟩ : ∃ W1, W1 = wr.alloc (.cells #[.int .i64 num, .int .i64 k', .int .u64 (n' : Int), .string (strB t'), .slice fa' fs'.length fc', .string (strB r'), .slice la' ls'.length lc', .slice pa' ps'.length pc'] 90) := ⟨_, rfl⟩
      obtain ⟨h, hh⟩ : ∃ h, h = wr.heap.size := ⟨_, rfl⟩
      have hbA : Below wr.heap.size wr W1 := by rw [hW1]; exact (Below.refl _ _).alloc (Nat.le_refl _) _
      have hcv : CellsAt W1 h 90 #[.int .i64 num, .int .i64 k', .int .u64 (n' : Int), .string (strB t'), .slice fa' fs'.length fc', .string (strB r'), .slice la' ls'.length lc', .slice pa' ps'.length pc'] := by rw [hW1, hh]; exact CellsAt.new wr _ _
      have HBE1 : Hid (Below W0.heap.size W0 W1) := hbe.trans (hbA.mono hbe.size)
      have HW1 := Lib.hid hW1
      have HH := Lib.hid hh
      clear hI hI2 HI hrx hq hbw hbe hcx hcy hbA hW1 hh
      go_upto_region 4 with fail
      have hW1 := HW1.out
      have hh := HH.out
      rw [← hW1, ← hh]
      clear hW1 hh HW1 HH c0 c1 c2 c3 c4 c5 c6 c7
      obtain ⟨hcx, hcy, hbw⟩ := HX.out W1 HBE1.out
      have x0 := hcx.cell 0 (v := .int .i64 k) rfl
      have y0 := hcv.cell 0 (v := .int .i64 num) rfl
      have y1 := hcv.cell 1 (v := .int .i64 k') rfl
      have y2 := hcv.cell 2 (v := .int .u64 (n' : Int)) rfl
      have y3 := hcv.cell 3 (v := .string (strB t')) rfl
      have y4 := hcv.cell 4 (v := .slice fa' fs'.length fc') rfl
      have y5 := hcv.cell 5 (v := .string (strB r')) rfl
      have y6 := hcv.cell 6 (v := .slice la' ls'.length lc') rfl
      have y7 := hcv.cell 7 (v := .slice pa' ps'.length pc') rfl
      have z0 := hcy.cell 0 (v := .int .i64 0) rfl
      have z1 := hcy.cell 1 (v := .int .u64 0) rfl
      have z2 := hcy.cell 2 (v := .string ⟨#[]⟩) rfl
      have z3 := hcy.cell 3 (v := .slice none 0 0) rfl
      have z4 := hcy.cell 4 (v := .string ⟨#[]⟩) rfl
      have z5 := hcy.cell 5 (v := .slice none 0 0) rfl
      have z6 := hcy.cell 6 (v := .slice none 0 0) rfl
      have f0 := hcy.free 0
      have f1 := hcy.free 1
      have f2 := hcy.free 2
      have f3 := hcy.free 3
      have f4 := hcy.free 4
      have f5 := hcy.free 5
      have f6 := hcy.free 6
      have hly := hcy.lt
      have hgl := hcx.lt
      have HBW1 := Lib.hid hbw
      clear hcx hcy hcv hbw
      by_cases hk : k = 3
      · subst hk
        by_cases hn : num = key
        · subst hn
          have HZ : Hid (R = .mk k' n' t' fs' r' ls' ps') := by
            have h9 := HI2.out
            rw [if_pos rfl, if_pos (by unfold fieldC; exact sgnI_zero.2 rfl)] at h9
            exact h9.symm
          have HL := HBW1
          clear HI2
          go_wp2_with fail
          refine bodyPost_ret (v := .agg #[.int .i64 k', .int .u64 (n' : Int), .string (strB t'), .slice fa' fs'.length fc', .string (strB r'), .slice la' ls'.length lc', .slice pa' ps'.length pc']) (by simp [results, Tryz.results41, go_sem, z0, z1, z2, z3, z4, z5, z6]) rfl ?_
          rw [HZ.out]
          have hgw := HG.out
          have hb7 := below_set7 HL.out (show w.heap.size ≤ g + 1 by omega) (.int .i64 k') (.int .u64 (n' : Int)) (.string (strB t')) (.slice fa' fs'.length fc') (.string (strB r')) (.slice la' ls'.length lc') (.slice pa' ps'.length pc')
          exact ⟨⟨fa', fc', la', lc', pa', pc'⟩, rfl, HRX.out.stays hb7, hb7⟩
        · have hn' : (num == key) = false := by simpa using hn
          have HN : Hid ((if (3 : Int) = 3 then findA (fieldC key) Prod.snd V.none (fs.drop (m + 1)) else V.none) = R) := by
            have h9 := HI2.out
            rw [if_pos rfl, if_neg (by unfold fieldC; intro h; exact hn (sgnI_zero.1 h))] at h9
            rw [if_pos rfl]
            exact h9
          have HL := HBE1
          clear HI2
          go_wp2_with fail
          go_roundw
          case rel => exact ⟨m + 1, h1, by go_num, HN, HL.out⟩
          case measure => simp only [intOf]; omega
      · have hk' : (k == 3) = false := by simpa using hk
        have HN : Hid ((if k = 3 then findA (fieldC key) Prod.snd V.none (fs.drop (m + 1)) else V.none) = R) := by
          have h9 := HI2.out
          rw [if_neg hk] at h9
          rw [if_neg hk]
          exact h9
        have HL := HBE1
        clear HI2 hk
        go_wp2_with fail
        go_roundw
        case rel => exact ⟨m + 1, h1, by go_num, HN, HL.out⟩
        case measure => simp only [intOf]; omega
    · have HZ : Hid (R = V.none) := by
        have h9 := HI.out
        rw [List.drop_of_length_le (by omega)] at h9
        rw [← h9]
        split <;> rfl
      have z0 := hcy.cell 0 (v := .int .i64 0) rfl
      have z1 := hcy.cell 1 (v := .int .u64 0) rfl
      have z2 := hcy.cell 2 (v := .string ⟨#[]⟩) rfl
      have z3 := hcy.cell 3 (v := .slice none 0 0) rfl
      have z4 := hcy.cell 4 (v := .string ⟨#[]⟩) rfl
      have z5 := hcy.cell 5 (v := .slice none 0 0) rfl
      have z6 := hcy.cell 6 (v := .slice none 0 0) rfl
      have f0 := hcy.free 0
      have f1 := hcy.free 1
      have f2 := hcy.free 2
      have f3 := hcy.free 3
      have f4 := hcy.free 4
      have f5 := hcy.free 5
      have f6 := hcy.free 6
      have hly := hcy.lt
      have hgl := hcx.lt
      have HBW := Lib.hid hbw
      clear HI hbw hbe hcx hcy
      go_wp2_with fail
      refine bodyPost_ret (v := .agg #[.int .i64 0, .int .u64 0, .string ⟨#[]⟩, .slice none 0 0, .string ⟨#[]⟩, .slice none 0 0, .slice none 0 0]) (by simp [results, Tryz.results41, go_sem, z0, z1, z2, z3, z4, z5, z6]) rfl ?_
      rw [HZ.out]
      have hgw := HG.out
      exact ⟨A3.nil, rfl, rep_none, below_set7 HBW.out (by omega) _ _ _ _ _ _ _⟩
end
section
variable {k : Int} {n : Nat} {t r : List UInt8} {fs : List (Int × V)} {ls : List V} {ps : List (V × V)} {fa la pa : Option Addr} {fc lc pc : Nat} {S : Nat → Prop} {w : World}
variable {k2 : Int} {n2 : Nat} {t2 r2 : List UInt8} {fs2 : List (Int × V)} {ls2 : List V} {ps2 : List (V × V)} {fa2 la2 pa2 : Option Addr} {fc2 lc2 pc2 : Nat} {S2 : Nat → Prop}
variable {k9 : Int} {n9 : Nat} {t9 r9 : List UInt8} {fs9 : List (Int × V)} {ls9 : List V} {ps9 : List (V × V)} {fa9 la9 pa9 : Option Addr} {fc9 lc9 pc9 : Nat} {S9 : Nat → Prop}
set_option maxRecDepth 100000 in
set_option maxHeartbeats 4000000 in
theorem rfind_S (hr : Rep S w (.mk k n t fs r ls ps) ⟨fa, fc, la, lc, pa, pc⟩) (hr9 : Rep S9 w (.mk k9 n9 t9 fs9 r9 ls9 ps9) ⟨fa9, fc9, la9, lc9, pa9, pc9⟩) (hlen : ps.length ≤ 1000000) :
    Calls Tryz.prog 42 #[.agg #[.int .i64 k, .int .u64 (n : Int), .string (strB t), .slice fa fs.length fc, .string (strB r), .slice la ls.length lc, .slice pa ps.length pc], .agg #[.int .i64 k9, .int .u64 (n9 : Int), .string (strB t9), .slice fa9 fs9.length fc9, .string (strB r9), .slice la9 ls9.length lc9, .slice pa9 ps9.length pc9]] w (ValS S (findV (.mk k n t fs r ls ps) (.mk k9 n9 t9 fs9 r9 ls9 ps9)) w) := by
  obtain ⟨W0, hW0⟩ : ∃ W0, W0 = ((w.alloc (.cells #[.int .i64 k, .int .u64 (n : Int), .string (strB t), .slice fa fs.length fc, .string (strB r), .slice la ls.length lc, .slice pa ps.length pc] 47)).alloc (.cells #[.int .i64 k9, .int .u64 (n9 : Int), .string (strB t9), .slice fa9 fs9.length fc9, .string (strB r9), .slice la9 ls9.length lc9, .slice pa9 ps9.length pc9] 47)).alloc (.cells #[.int .i64 0, .int .u64 0, .string ⟨#[]⟩, .slice none 0 0, .string ⟨#[]⟩, .slice none 0 0, .slice none 0 0] 47) := ⟨_, rfl⟩
  obtain ⟨g, hg⟩ : ∃ g, g = w.heap.size := ⟨_, rfl⟩
  have hBA : Below w.heap.size w W0 := by rw [hW0]; exact (((Below.refl _ _).alloc (Nat.le_refl _) _).alloc (by simp) _).alloc (by simp; omega) _
  have hcx : CellsAt W0 g 47 #[.int .i64 k, .int .u64 (n : Int), .string (strB t), .slice fa fs.length fc, .string (strB r), .slice la ls.length lc, .slice pa ps.length pc] := by rw [hW0, hg]; exact ((CellsAt.new w _ _).allocC).allocC
  have hck : CellsAt W0 (g + 1) 47 #[.int .i64 k9, .int .u64 (n9 : Int), .string (strB t9), .slice fa9 fs9.length fc9, .string (strB r9), .slice la9 ls9.length lc9, .slice pa9 ps9.length pc9] := by rw [hW0, hg]; exact (CellsAt.new' (by simp)).allocC
  have hcz : CellsAt W0 (g + 1 + 1) 47 #[.int .i64 0, .int .u64 0, .string ⟨#[]⟩, .slice none 0 0, .string ⟨#[]⟩, .slice none 0 0, .slice none 0 0] := by rw [hW0, hg]; exact CellsAt.new' (by simp)
  have HX : Hid (∀ W, Below W0.heap.size W0 W → CellsAt W g 47 #[.int .i64 k, .int .u64 (n : Int), .string (strB t), .slice fa fs.length fc, .string (strB r), .slice la ls.length lc, .slice pa ps.length pc] ∧ CellsAt W (g + 1) 47 #[.int .i64 k9, .int .u64 (n9 : Int), .string (strB t9), .slice fa9 fs9.length fc9, .string (strB r9), .slice la9 ls9.length lc9, .slice pa9 ps9.length pc9] ∧ CellsAt W (g + 1 + 1) 47 #[.int .i64 0, .int .u64 0, .string ⟨#[]⟩, .slice none 0 0, .string ⟨#[]⟩, .slice none 0 0, .slice none 0 0] ∧ Below w.heap.size w W) := fun W hb =>
    ⟨hcx.stays hb, hck.stays hb, hcz.stays hb, hBA.trans (hb.mono hBA.size)⟩
  have HR0 := Lib.hid hr
  have HR9 := Lib.hid hr9
  have HW := Lib.hid hW0
  have HG := Lib.hid hg
  obtain ⟨R, hR⟩ : ∃ R, R = findV (.mk k n t fs r ls ps) (.mk k9 n9 t9 fs9 r9 ls9 ps9) := ⟨_, rfl⟩
  rw [← hR]
  have hR' : (if k = 5 then findA (pairC (.mk k9 n9 t9 fs9 r9 ls9 ps9)) Prod.snd V.none (ps.drop 0) else V.none) = R := by rw [hR]; rfl
  have HR := Lib.hid hR'
  have x6 := hcx.cell 6 (v := .slice pa ps.length pc) rfl
  clear hr hr9 hW0 hg hBA hcx hck hcz hR hR'
  go_enter Tryz.func42, Tryz.ntmps42
  go_wp2_with fail
  have hW0 := HW.out
  have hg := HG.out
  rw [← hW0, ← hg]
  clear hW0 hg HW
  go_loopw [10] (fun i wr => ∃ m : Nat, m ≤ ps.length ∧ i = .int .i64 m ∧ Hid ((if k = 5 then findA (pairC (.mk k9 n9 t9 fs9 r9 ls9 ps9)) Prod.snd V.none (ps.drop m) else V.none) = R) ∧ Below W0.heap.size W0 wr) (fun i _ => ps.length - (intOf i).toNat)
  case atStart => exact ⟨0, Nat.zero_le _, rfl, HR, Below.refl _ _⟩
  case round =>
    clear x6 HR
    obtain ⟨m, hm, rfl, HI, hbe⟩ := hrel
    obtain ⟨hcx, hck, hcz, hbw⟩ := HX.out wr hbe
    have hgl := hcx.lt
    by_cases h1 : m < ps.length
    · obtain ⟨⟨⟨k', n', t', fs', r', ls', ps'⟩, ⟨k3, n3, t3, fs3, r3, ls3, ps3⟩⟩, hq⟩ : ∃ p, ps[m]? = some p := ⟨_, List.getElem?_eq_getElem h1⟩
      obtain ⟨b, o, fa', la', pa', fc', lc', pc', fa3, la3, pa3, fc3, lc3, pc3, rfl, hrx, hry, c0, c1, c2, c3, c4, c5, c6, c7, c8, c9, c10, c11, c12, c13⟩ := HR0.out.pairAt hq
      have hlb : b < w.heap.size := World.block_lt_of_cell? w _ c0
      replace c0 := later1 c0 hlb hbw
      replace c1 := later1 c1 hlb hbw
      replace c2 := later1 c2 hlb hbw
      replace c3 := later1 c3 hlb hbw
      replace c4 := later1 c4 hlb hbw
      replace c5 := later1 c5 hlb hbw
      replace c6 := later1 c6 hlb hbw
      replace c7 := later1 c7 hlb hbw
      replace c8 := later1 c8 hlb hbw
      replace c9 := later1 c9 hlb hbw
      replace c10 := later1 c10 hlb hbw
      replace c11 := later1 c11 hlb hbw
      replace c12 := later1 c12 hlb hbw
      replace c13 := later1 c13 hlb hbw
      have hI := HI.out
      rw [drop_fields hq] at hI
      have hI2 : (if k = 5 then (if cmpV (.mk k' n' t' fs' r' ls' ps') (.mk k9 n9 t9 fs9 r9 ls9 ps9) = 0 then (.mk k3 n3 t3 fs3 r3 ls3 ps3) else findA (pairC (.mk k9 n9 t9 fs9 r9 ls9 ps9)) Prod.snd V.none (ps.drop (m + 1))) else V.none) = R := hI
      obtain ⟨W1, hW1⟩ : ∃ W1, W1 = wr.alloc (.cells #[.int .i64 k', .int .u64 (n' : Int), .string (strB t'), .slice fa' fs'.length fc', .string (strB r'), .slice la' ls'.length lc', .slice pa' ps'.length pc', .int .i64 k3, .int .u64 (n3 : Int), .string (strB t3), .slice fa3 fs3.length fc3, .string (strB r3), .slice la3 ls3.length lc3, .slice pa3 ps3.length pc3] 94) := ⟨_, rfl⟩
      obtain ⟨h, hh⟩ : ∃ h, h = wr.heap.size := ⟨_, rfl⟩
      have hbA : Below wr.heap.size wr W1 := by rw [hW1]; exact (Below.refl _ _).alloc (Nat.le_refl _) _
      have hcv : CellsAt W1 h 94 #[.int .i64 k', .int .u64 (n' : Int), .string (strB t'), .slice fa' fs'.length fc', .string (strB r'), .slice la' ls'.length lc', .slice pa' ps'.length pc', .int .i64 k3, .int .u64 (n3 : Int), .string (strB t3), .slice fa3 fs3.length fc3, .string (strB r3), .slice la3 ls3.length lc3, .slice pa3 ps3.length pc3] := by rw [hW1, hh]; exact CellsAt.new wr _ _
      have hbe1 : Below W0.heap.size W0 W1 := hbe.trans (hbA.mono hbe.size)
      have HC : Hid (∀ W, Below W0.heap.size W0 W → Calls _ _ _ W _) := fun W hb => rsame_lit (HR0.out.pairAt hq |> fun _ => hrx.stays ((HX.out W hb).2.2.2)) (HR9.out.stays ((HX.out W hb).2.2.2))
      generalize cmpV (.mk k' n' t' fs' r' ls' ps') (.mk k9 n9 t9 fs9 r9 ls9 ps9) = C at HC hI2
      have HI2 := Lib.hid hI2
      have HRX := Lib.hid hry
      have HBE1 := Lib.hid hbe1
      have HCV := Lib.hid hcv
      have HW1 := Lib.hid hW1
      have HH := Lib.hid hh
      clear hI hI2 HI hrx hry hq hbw hbe hcx hck hcz hbA hW1 hh hcv hbe1
      go_upto_region 4 with fail
      have hW1 := HW1.out
      have hh := HH.out
      rw [← hW1, ← hh]
      clear hW1 hh HW1 HH c0 c1 c2 c3 c4 c5 c6 c7 c8 c9 c10 c11 c12 c13
      obtain ⟨hcx, hck, hcz, hbw⟩ := HX.out W1 HBE1.out
      have x0 := hcx.cell 0 (v := .int .i64 k) rfl
      have hcv := HCV.out
      have y0 := hcv.cell 0 (v := .int .i64 k') rfl
      have y1 := hcv.cell 1 (v := .int .u64 (n' : Int)) rfl
      have y2 := hcv.cell 2 (v := .string (strB t')) rfl
      have y3 := hcv.cell 3 (v := .slice fa' fs'.length fc') rfl
      have y4 := hcv.cell 4 (v := .string (strB r')) rfl
      have y5 := hcv.cell 5 (v := .slice la' ls'.length lc') rfl
      have y6 := hcv.cell 6 (v := .slice pa' ps'.length pc') rfl
      have y7 := hcv.cell 7 (v := .int .i64 k3) rfl
      have y8 := hcv.cell 8 (v := .int .u64 (n3 : Int)) rfl
      have y9 := hcv.cell 9 (v := .string (strB t3)) rfl
      have y10 := hcv.cell 10 (v := .slice fa3 fs3.length fc3) rfl
      have y11 := hcv.cell 11 (v := .string (strB r3)) rfl
      have y12 := hcv.cell 12 (v := .slice la3 ls3.length lc3) rfl
      have y13 := hcv.cell 13 (v := .slice pa3 ps3.length pc3) rfl
      obtain ⟨b0, b1, b2, b3, b4, b5, b6⟩ := box7 hck
      have HBW1 := Lib.hid hbw
      clear hcx hck hcz hcv hbw
      by_cases hk : k = 5
      · subst hk
        go_wp2_with fail
        refine (HC.out _ HBE1.out).mono ?_
        rintro e w2 ⟨rfl, hb2⟩
        have HBE2 : Hid (Below W0.heap.size W0 w2) := HBE1.out.trans (hb2.mono HBE1.out.size)
        have hcv := HCV.out.stays hb2
        clear y0 y1 y2 y3 y4 y5 y6 y7 y8 y9 y10 y11 y12 y13 x0 b0 b1 b2 b3 b4 b5 b6 hb2 HC
        have y0 := hcv.cell 0 (v := .int .i64 k') rfl
        have y1 := hcv.cell 1 (v := .int .u64 (n' : Int)) rfl
        have y2 := hcv.cell 2 (v := .string (strB t')) rfl
        have y3 := hcv.cell 3 (v := .slice fa' fs'.length fc') rfl
        have y4 := hcv.cell 4 (v := .string (strB r')) rfl
        have y5 := hcv.cell 5 (v := .slice la' ls'.length lc') rfl
        have y6 := hcv.cell 6 (v := .slice pa' ps'.length pc') rfl
        have y7 := hcv.cell 7 (v := .int .i64 k3) rfl
        have y8 := hcv.cell 8 (v := .int .u64 (n3 : Int)) rfl
        have y9 := hcv.cell 9 (v := .string (strB t3)) rfl
        have y10 := hcv.cell 10 (v := .slice fa3 fs3.length fc3) rfl
        have y11 := hcv.cell 11 (v := .string (strB r3)) rfl
        have y12 := hcv.cell 12 (v := .slice la3 ls3.length lc3) rfl
        have y13 := hcv.cell 13 (v := .slice pa3 ps3.length pc3) rfl
        obtain ⟨-, -, hcz, hbw⟩ := HX.out w2 HBE2.out
        have z0 := hcz.cell 0 (v := .int .i64 0) rfl
        have z1 := hcz.cell 1 (v := .int .u64 0) rfl
        have z2 := hcz.cell 2 (v := .string ⟨#[]⟩) rfl
        have z3 := hcz.cell 3 (v := .slice none 0 0) rfl
        have z4 := hcz.cell 4 (v := .string ⟨#[]⟩) rfl
        have z5 := hcz.cell 5 (v := .slice none 0 0) rfl
        have z6 := hcz.cell 6 (v := .slice none 0 0) rfl
        have f0 := hcz.free 0
        have f1 := hcz.free 1
        have f2 := hcz.free 2
        have f3 := hcz.free 3
        have f4 := hcz.free 4
        have f5 := hcz.free 5
        have f6 := hcz.free 6
        have HBW2 := Lib.hid hbw
        clear hcz hcv hbw
        by_cases hn : C = 0
        · have HZ : Hid (R = .mk k3 n3 t3 fs3 r3 ls3 ps3) := by
            have h9 := HI2.out
            rw [if_pos True.intro, if_pos hn] at h9
            exact h9.symm
          have hn' : (C == 0) = true := by simpa using hn
          clear HI2 hn
          generalize (C == 0) = cb at hn' ⊢
          subst hn'
          go_wp2_with fail
          refine bodyPost_ret (v := .agg #[.int .i64 k3, .int .u64 (n3 : Int), .string (strB t3), .slice fa3 fs3.length fc3, .string (strB r3), .slice la3 ls3.length lc3, .slice pa3 ps3.length pc3]) (by simp [results, Tryz.results42, go_sem, z0, z1, z2, z3, z4, z5, z6]) rfl ?_
          rw [HZ.out]
          have hgw := HG.out
          have hb7 := below_set7 HBW2.out (show w.heap.size ≤ g + 1 + 1 by omega) (.int .i64 k3) (.int .u64 (n3 : Int)) (.string (strB t3)) (.slice fa3 fs3.length fc3) (.string (strB r3)) (.slice la3 ls3.length lc3) (.slice pa3 ps3.length pc3)
          exact ⟨⟨fa3, fc3, la3, lc3, pa3, pc3⟩, rfl, HRX.out.stays hb7, hb7⟩
        · have hn' : (C == 0) = false := by simpa using hn
          have HN : Hid ((if (5 : Int) = 5 then findA (pairC (.mk k9 n9 t9 fs9 r9 ls9 ps9)) Prod.snd V.none (ps.drop (m + 1)) else V.none) = R) := by
            have h9 := HI2.out
            rw [if_pos True.intro, if_neg hn] at h9
            rw [if_pos rfl]
            exact h9
          clear HI2 hn
          generalize (C == 0) = cb at hn' ⊢
          subst hn'
          go_wp2_with fail
          go_roundw
          case rel => exact ⟨m + 1, h1, by go_num, HN, HBE2.out⟩
          case measure => simp only [intOf]; omega
      · have hk' : (k == 5) = false := by simpa using hk
        have HN : Hid ((if k = 5 then findA (pairC (.mk k9 n9 t9 fs9 r9 ls9 ps9)) Prod.snd V.none (ps.drop (m + 1)) else V.none) = R) := by
          have h9 := HI2.out
          rw [if_neg hk] at h9
          rw [if_neg hk]
          exact h9
        clear HI2 hk HC
        go_wp2_with fail
        go_roundw
        case rel => exact ⟨m + 1, h1, by go_num, HN, HBE1.out⟩
        case measure => simp only [intOf]; omega
    · have HZ : Hid (R = V.none) := by
        have h9 := HI.out
        rw [List.drop_of_length_le (by omega)] at h9
        rw [← h9]
        split <;> rfl
      have z0 := hcz.cell 0 (v := .int .i64 0) rfl
      have z1 := hcz.cell 1 (v := .int .u64 0) rfl
      have z2 := hcz.cell 2 (v := .string ⟨#[]⟩) rfl
      have z3 := hcz.cell 3 (v := .slice none 0 0) rfl
      have z4 := hcz.cell 4 (v := .string ⟨#[]⟩) rfl
      have z5 := hcz.cell 5 (v := .slice none 0 0) rfl
      have z6 := hcz.cell 6 (v := .slice none 0 0) rfl
      have f0 := hcz.free 0
      have f1 := hcz.free 1
      have f2 := hcz.free 2
      have f3 := hcz.free 3
      have f4 := hcz.free 4
      have f5 := hcz.free 5
      have f6 := hcz.free 6
      have HBW := Lib.hid hbw
      clear HI hbw hbe hcx hck hcz
      go_wp2_with fail
      refine bodyPost_ret (v := .agg #[.int .i64 0, .int .u64 0, .string ⟨#[]⟩, .slice none 0 0, .string ⟨#[]⟩, .slice none 0 0, .slice none 0 0]) (by simp [results, Tryz.results42, go_sem, z0, z1, z2, z3, z4, z5, z6]) rfl ?_
      rw [HZ.out]
      have hgw := HG.out
      exact ⟨A3.nil, rfl, rep_none, below_set7 HBW.out (by omega) _ _ _ _ _ _ _⟩
end
end Go.Proofs.YtcjflglpkpkflaaGreatDoor
namespace Go.Proofs.YtcjflglpkpkflaaGreatDoor
open Go Go.RowKit
set_option linter.unusedVariables false
theorem infoVL : (Tryz.prog.info? 38).map (fun i => (i.zero, i.size, i.bytes)) = some (some (.agg #[.int .i64 0, .int .u64 0, .string ⟨#[]⟩, .slice none 0 0, .string ⟨#[]⟩, .slice none 0 0, .slice none 0 0]), 7, 120) := by kernel_rfl
theorem sizeVL : (Tryz.prog.info? 38).map (·.size) = some 7 := by kernel_rfl
set_option maxRecDepth 100000 in
set_option maxHeartbeats 2000000 in
theorem cloneV_any (v : Value) (l : List (V × A3)) (w : World) (hr : RowS vC w v l) (hlen : l.length ≤ 1000000) :
    Calls Tryz.prog 88 #[v] w fun e w' => ∃ v', e = .returned v' ∧ OwnS 38 7 vC w.heap.size w' v' l ∧ Below w.heap.size w w' := by
  have hr' : ∀ o, RowS vC (w.alloc o) v l := fun o => RowS.stays hr ((Below.refl _ _).alloc (Nat.le_refl _) o)
  obtain ⟨a, n, c, rfl, hnil⟩ : ∃ a n c, v = .slice a n c ∧ (a = none → l = []) := by
    obtain ⟨a, c, h, _, h2⟩ := hr.shape vC_len
    refine ⟨a, _, c, h, fun h3 => ?_⟩
    cases l with
    | nil => rfl
    | cons x xs => obtain ⟨b, o, h4, _⟩ := h2 0 x rfl; rw [h3] at h4; cases h4
  clear hr
  have hown : Hid (OwnS 38 7 vC w.heap.size (w.alloc (.cells #[] 38)) (.slice (some ⟨w.heap.size, 0, none⟩) 0 0) []) := World.ownsRow_made (base := w.heap.size) (e := 38) (size := 7) w #[] 0 (Nat.le_refl _) (Nat.zero_le _) rfl
  have qT : ∀ (w : World) (a : Option Addr) (n c n' c' : Nat), (binOp .eql 35 (.slice a n c) (.slice none n' c')).run Tryz.prog w = .ok (.bool a.isNone) w := fun w a n c n' c' => Lib.run_eql_slice_nil w _ _ a n c n' c' Tryz.underlying35
  rcases a with _ | ad
  · obtain rfl := hnil rfl
    go_enter Tryz.func88, Tryz.ntmps88
    go_wp2_with fail
    go_ret
    exact ⟨_, rfl, OwnS.nil _ _, Below.refl _ _⟩
  · go_enter Tryz.func88, Tryz.ntmps88
    go_wp2_with (at_builtin; go_must (refine wpList_appendS vC_len vC_one Tryz.underlying35 infoVL rfl (by decide) hown.out (hr' _) (by simp; omega) (by simp) rfl _ _ rfl (by rfl) (by rfl) ?_))
    intro v' w' how hg _ _
    have hb : Below w.heap.size w w' := ((Below.refl _ _).alloc (Nat.le_refl _) _).grown hg (by simp) (fun k hk => by simp [Value.ownBlock] at hk; omega)
    clear hg
    go_wp2_with fail
    go_ret
    exact ⟨_, rfl, how, hb⟩
/-- a list's cells -/
def listA (v : Value) : Array Value := #[.int .i64 4, .int .u64 0, .string ⟨#[]⟩, .slice none 0 0, .string ⟨#[]⟩, v, .slice none 0 0]
def noneA : Array Value := #[.int .i64 0, .int .u64 0, .string ⟨#[]⟩, .slice none 0 0, .string ⟨#[]⟩, .slice none 0 0, .slice none 0 0]
theorem noneA_one : noneA.all (·.oneCell') = true := by simp [noneA, Value.oneCell']
theorem rep_list {SS : Nat → Prop} {w : World} {a : Option Addr} {c : Nat} {xl : List (V × A3)} (hr : RowS vC w (.slice a xl.length c) xl) (hs : ∀ k, (Value.slice a xl.length c).ownBlock = some k → SS k) (hx : ∀ p ∈ xl, Rep SS w p.1 p.2) : Rep SS w (.mk 4 0 [] [] [] (xl.map Prod.fst) []) ⟨none, 0, a, c, none, 0⟩ :=
  .mk _ _ [] xl [] ⟨show (-9223372036854775808 : Int) ≤ 4 by decide, show (4 : Int) ≤ 9223372036854775807 by decide⟩ (show (0 : Nat) < 18446744073709551616 by decide) rfl rfl rfl (fun _ h => by cases h) (.inl ⟨rfl, rfl, _, _, rfl⟩) (by simpa [slL, V.ls] using hr) (.inl ⟨rfl, rfl, _, _, rfl⟩) Lies.nil (fun _ k hk => hs k (by simpa [slL, V.ls] using hk)) Lies.nil (fun _ h => by cases h) hx (fun _ h => by cases h) (fun _ h => by cases h)
set_option maxRecDepth 100000 in
set_option maxHeartbeats 4000000 in
theorem plist_any {S : Nat → Prop} {w : World} {a : Option Addr} {c : Nat} {xl : List (V × A3)} (hr : RowS vC w (.slice a xl.length c) xl) (hx : ∀ p ∈ xl, Rep S w p.1 p.2) (hlen : xl.length ≤ 1000000) :
    Calls Tryz.prog 63 #[.slice a xl.length c] w (ValS (fun k => S k ∨ w.heap.size ≤ k) (listV (xl.map Prod.fst)) w) := by
  obtain ⟨W0, hW0⟩ : ∃ W0, W0 = w.alloc (.cells noneA 38) := ⟨_, rfl⟩
  obtain ⟨g, hg⟩ : ∃ g, g = w.heap.size := ⟨_, rfl⟩
  have hb0 : Below w.heap.size w W0 := by rw [hW0]; exact (Below.refl _ _).alloc (Nat.le_refl _) _
  have hcr : CellsAt W0 g 38 noneA := by rw [hW0, hg]; exact CellsAt.new w _ _
  have hgb : w.heap.size ≤ g := by omega
  have HGB := Lib.hid hgb
  have HB := Lib.hid hb0
  have HW := Lib.hid hW0
  have HG := Lib.hid hg
  have HCR := Lib.hid hcr
  by_cases h0 : xl = []
  · subst h0
    have HZ : Hid (listV (([] : List (V × A3)).map Prod.fst) = V.none) := rfl
    have hno := noneA_one
    have hsz : noneA.size = 7 := rfl
    clear hr hx hlen hW0 hg hb0 hcr hgb
    go_enter Tryz.func63, Tryz.ntmps63
    go_upto_region 1 with fail
    rw [show w.alloc (.cells #[.int .i64 0, .int .u64 0, .string ⟨#[]⟩, .slice none 0 0, .string ⟨#[]⟩, .slice none 0 0, .slice none 0 0] 38) = W0 from HW.out.symm, ← HG.out]
    go_wp2_with (refine wpList_storeW rfl 38 _ _ rfl g (by rfl) noneA (by rfl) 38 _ HCR.out rfl (by rw [hsz]; exact sizeVL) hno ?_; intro w2 hc2 hg2)
    have hb2 := HB.out.grown hg2 HB.out.size (fun k hk => by cases hk; exact HGB.out)
    exact bodyPost_ret (v := .agg noneA) (results_cell_row rfl _ w2 g 38 noneA (0, 0) _ rfl hc2 Tryz.underlying38 rfl (by rw [hsz]; exact sizeVL)) rfl (by rw [HZ.out]; exact ⟨A3.nil, rfl, rep_none, hb2⟩)
  · have hne : (xl.length : Int) ≠ 0 := by
      intro h; exact h0 (List.length_eq_zero_iff.1 (by omega))
    have t0 : ((xl.length : Int) == 0) = false := by simpa using h0
    have HZ : Hid (listV (xl.map Prod.fst) = .mk 4 0 [] [] [] (xl.map Prod.fst) []) := by
      show _ = _
      unfold listV
      rw [if_neg (by simpa using h0)]
    have HC := Lib.hid (cloneV_any _ xl W0 (hr.stays hb0) hlen)
    have HX : Hid (∀ W, Below w.heap.size w W → ∀ p ∈ xl, Rep (fun k => S k ∨ w.heap.size ≤ k) W p.1 p.2) := fun W hW p hp => ((hx p hp).stays hW).mono (fun k hk => .inl hk)
    clear hr hx hW0 hg hb0 hcr hgb hne h0
    go_enter Tryz.func63, Tryz.ntmps63
    go_upto_region 1 with fail
    rw [show w.alloc (.cells #[.int .i64 0, .int .u64 0, .string ⟨#[]⟩, .slice none 0 0, .string ⟨#[]⟩, .slice none 0 0, .slice none 0 0] 38) = W0 from HW.out.symm, ← HG.out]
    clear HW HG
    go_wp2_with fail
    refine HC.out.mono ?_
    rintro e w1 ⟨v', rfl, how, hb1⟩
    have hrow := how.row
    obtain ⟨a2, c2, rfl, -, -⟩ := hrow.shape vC_len
    have hcr1 := HCR.out.stays hb1
    have HB1 := Lib.hid (HB.out.trans (hb1.mono HB.out.size))
    have HROW := Lib.hid hrow
    have HO : Hid (∀ k, (Value.slice a2 xl.length c2).ownBlock = some k → k ≠ g ∧ w.heap.size ≤ k) := fun k hk => by
      have h1 : W0.heap.size ≤ k := by
        rcases how.2 with ⟨h1, h2⟩ | ⟨g', cap, cur, h1, h2, -⟩
        · rw [h1] at hk; simp [Value.ownBlock] at hk
        · rw [h1] at hk; simp [Value.ownBlock] at hk; omega
      have := HCR.out.lt
      have := HGB.out
      omega
    have hsz : (listA (.slice a2 xl.length c2)).size = 7 := rfl
    have hno : (listA (.slice a2 xl.length c2)).all (·.oneCell') = true := by simp [listA, Value.oneCell']
    clear HC HB hb1 hrow how HCR
    go_wp2_with (refine wpList_storeW rfl 38 _ _ rfl g (by rfl) (listA (.slice a2 xl.length c2)) (by rfl) 38 _ hcr1 rfl (by rw [hsz]; exact sizeVL) hno ?_; intro w2 hc2 hg2)
    have hb2 := HB1.out.grown hg2 HB1.out.size (fun k hk => by cases hk; exact HGB.out)
    have hrow2 : RowS vC w2 (.slice a2 xl.length c2) xl := (Grew.ofGrown hg2).row HROW.out (fun k hk hm => (HO.out k hk).1 (by simpa using hm))
    exact bodyPost_ret (v := .agg (listA (.slice a2 xl.length c2))) (results_cell_row rfl _ w2 g 38 _ (0, 0) _ rfl hc2 Tryz.underlying38 rfl (by rw [hsz]; exact sizeVL)) rfl (by
      rw [HZ.out]
      have hrep := rep_list hrow2 (fun k hk => .inr (HO.out k hk).2) (HX.out w2 hb2)
      exact ⟨⟨none, 0, a2, c2, none, 0⟩, by simp only [vG, V.k, V.n, V.t, V.fs, V.r, V.ls, V.ps, List.length_map, List.length_nil]; rfl, hrep, hb2⟩)
theorem slcS_lh {P : Program} {T E : TypeId} {z : Option Value} {size bytes : Nat} (ht : P.underlying T = some (.slice E)) (hinf : (P.info? E).map (fun i => (i.zero, i.size, i.bytes)) = some (z, size, bytes)) (a : Option Addr) (n c l h : Nat) (k k2 : IntKind) (hl : l ≤ h) (hh : h ≤ c) (w : World) : (Instr.slice T (.slice a n c) (some (.int k l)) (some (.int k2 h)) none).run P w = .ok (slcS size a c l h) w := by
  have ht' : P.underlying T = some (.slice (P.elem T)) := by rw [elem_of ht]; exact ht
  have hrun := run_slice_lh (P := P) w T a n c ht' k k2 l h (by omega) (by omega) (by omega)
  have hs := sizeOf_of (P := P) (w := w) hinf
  rw [elem_of ht, hs] at hrun
  simp only [Result.andThen_ok] at hrun
  rw [Int.toNat_natCast, Int.toNat_natCast] at hrun
  rw [hrun]
  unfold sliced slcS
  simp
theorem Rep.listRow {S : Nat → Prop} {w : World} {k : Int} {n : Nat} {t r : List UInt8} {fs : List (Int × V)} {ls : List V} {ps : List (V × V)} {fa la pa : Option Addr} {fc lc pc : Nat} (h : Rep S w (.mk k n t fs r ls ps) ⟨fa, fc, la, lc, pa, pc⟩) : ∃ ll : List (V × A3), ls = ll.map Prod.fst ∧ RowS vC w (.slice la ls.length lc) ll ∧ ∀ p ∈ ll, Rep S w p.1 p.2 := by
  cases h with
  | mk _ _ fl ll pl hk hn hf hl hp hb rf rl rp sf sl sp cf cl cp cq => exact ⟨ll, hl, rl, cl⟩
/-- a value in a cell and a test -/
theorem results_row_tmp {P : Program} {fn : Func} {p u : Tmp} {ty : TypeId} (h : fn.results = #[.cell p ty, .tmp u]) (tmps : Array Value) (w : World) (g : Nat) (t : TypeId) (cs : Array Value) (fr : Nat × Nat) (d : TypeDesc) (b : Value)
    (hp : tmps.getD p undef = .pointer (some ⟨g, 0, none⟩)) (hb : tmps.getD u undef = b) (hg : w.heap[g]? = some (.cells cs t fr))
    (hu : P.underlying ty = some d) (hd : (match d with | .struct _ | .array _ _ => true | _ => false) = true) (hi : (P.info? ty).map (·.size) = some cs.size) :
    (results fn tmps).run P w = .ok (.tuple #[.agg cs, b]) w := by
  rw [results_cell_tmp h, hp, hb]
  simp [asAddr, run_loadVar_row w g t ty cs fr d hg hu hd hi]
/-- what a look behind a step answers -/
def GetP (SS : Nat → Prop) (o : V × Bool) (w : World) (e : Ending) (w' : World) : Prop := ∃ a : A3, e = .returned (.tuple #[vG (o.1, a), .bool o.2]) ∧ Rep SS w' o.1 a ∧ Below w.heap.size w w'
theorem GetP.none {SS : Nat → Prop} {w w' : World} (h : Below w.heap.size w w') : GetP SS (V.none, false) w (.returned (.tuple #[.agg noneA, .bool false])) w' := ⟨A3.nil, rfl, rep_none, h⟩
theorem GetP.val {SS : Nat → Prop} {w w' : World} {k : Int} {n : Nat} {t r : List UInt8} {fs : List (Int × V)} {ls : List V} {ps : List (V × V)} {fa la pa : Option Addr} {fc lc pc : Nat} {b : Bool} (hr : Rep SS w' (.mk k n t fs r ls ps) ⟨fa, fc, la, lc, pa, pc⟩) (h : Below w.heap.size w w') : GetP SS (.mk k n t fs r ls ps, b) w (.returned (.tuple #[.agg #[.int .i64 k, .int .u64 (n : Int), .string (strB t), .slice fa fs.length fc, .string (strB r), .slice la ls.length lc, .slice pa ps.length pc], .bool b])) w' := ⟨⟨fa, fc, la, lc, pa, pc⟩, by rw [vG_lit], hr, h⟩
theorem getS_1 {N T : Int} {x v : V} : getS ⟨1, N, T, x⟩ v = (getV v N, (getV v N).k != 0) := by unfold getS; rw [if_pos rfl]
theorem getS_2 {N T : Int} {x v : V} : getS ⟨2, N, T, x⟩ v = (findV v x, (findV v x).k != 0) := by unfold getS; rw [if_neg (show ¬(2 : Int) = 1 by decide), if_pos rfl]
theorem getS_3 {N T : Int} {x v : V} (h : v.k = 4 ∧ 0 ≤ N ∧ N < v.ls.length) : getS ⟨3, N, T, x⟩ v = ((v.ls[N.toNat]?).getD V.none, true) := by unfold getS; rw [if_neg (show ¬(3 : Int) = 1 by decide), if_neg (show ¬(3 : Int) = 2 by decide), if_pos ⟨rfl, h⟩]
theorem getS_3n {N T : Int} {x v : V} (h : ¬(v.k = 4 ∧ 0 ≤ N ∧ N < v.ls.length)) : getS ⟨3, N, T, x⟩ v = (V.none, false) := by unfold getS; rw [if_neg (show ¬(3 : Int) = 1 by decide), if_neg (show ¬(3 : Int) = 2 by decide), if_neg (fun q => h q.2), if_neg (fun q => absurd q.1 (show ¬(3 : Int) = 4 by decide)), if_neg (fun q => absurd q.1 (show ¬(3 : Int) = 5 by decide))]
theorem getS_4 {N T : Int} {x v : V} (h : v.k = 3) : getS ⟨4, N, T, x⟩ v = (strV v.r, true) := by unfold getS; rw [if_neg (show ¬(4 : Int) = 1 by decide), if_neg (show ¬(4 : Int) = 2 by decide), if_neg (fun q => absurd q.1 (show ¬(4 : Int) = 3 by decide)), if_pos ⟨rfl, h⟩]
theorem getS_4n {N T : Int} {x v : V} (h : v.k ≠ 3) : getS ⟨4, N, T, x⟩ v = (V.none, false) := by unfold getS; rw [if_neg (show ¬(4 : Int) = 1 by decide), if_neg (show ¬(4 : Int) = 2 by decide), if_neg (fun q => absurd q.1 (show ¬(4 : Int) = 3 by decide)), if_neg (fun q => h q.2), if_neg (fun q => absurd q.1 (show ¬(4 : Int) = 5 by decide))]
theorem getS_5 {N T : Int} {x v : V} (h : v.k = 4 ∧ 0 ≤ N ∧ N ≤ T ∧ T ≤ v.ls.length) : getS ⟨5, N, T, x⟩ v = (listV ((v.ls.take T.toNat).drop N.toNat), true) := by unfold getS; rw [if_neg (show ¬(5 : Int) = 1 by decide), if_neg (show ¬(5 : Int) = 2 by decide), if_neg (fun q => absurd q.1 (show ¬(5 : Int) = 3 by decide)), if_neg (fun q => absurd q.1 (show ¬(5 : Int) = 4 by decide)), if_pos ⟨rfl, h⟩]
theorem getS_5n {N T : Int} {x v : V} (h : ¬(v.k = 4 ∧ 0 ≤ N ∧ N ≤ T ∧ T ≤ v.ls.length)) : getS ⟨5, N, T, x⟩ v = (V.none, false) := by unfold getS; rw [if_neg (show ¬(5 : Int) = 1 by decide), if_neg (show ¬(5 : Int) = 2 by decide), if_neg (fun q => absurd q.1 (show ¬(5 : Int) = 3 by decide)), if_neg (fun q => absurd q.1 (show ¬(5 : Int) = 4 by decide)), if_neg (fun q => h q.2)]
theorem getS_o {K N T : Int} {x v : V} (h1 : K ≠ 1) (h2 : K ≠ 2) (h3 : K ≠ 3) (h4 : K ≠ 4) (h5 : K ≠ 5) : getS ⟨K, N, T, x⟩ v = (V.none, false) := by unfold getS; rw [if_neg h1, if_neg h2, if_neg (fun q => h3 q.1), if_neg (fun q => h4 q.1), if_neg (fun q => h5 q.1)]
section
variable {k : Int} {n : Nat} {t r : List UInt8} {fs : List (Int × V)} {ls : List V} {ps : List (V × V)} {fa la pa : Option Addr} {fc lc pc : Nat} {S S9 : Nat → Prop} {w : World}
variable {k9 : Int} {n9 : Nat} {t9 r9 : List UInt8} {fs9 : List (Int × V)} {ls9 : List V} {ps9 : List (V × V)} {fa9 la9 pa9 : Option Addr} {fc9 lc9 pc9 : Nat}
/-- what a walk of get begins with: three blocks -/
def GetW (w W0 : World) (g : Nat) (A B : Array Value) : Prop := ∀ W, Below W0.heap.size W0 W → CellsAt W g 62 A ∧ CellsAt W (g + 1) 38 B ∧ CellsAt W (g + 2) 38 noneA ∧ Below w.heap.size w W
theorem GetW.new (w : World) (A B : Array Value) : GetW w (((w.alloc (.cells A 62)).alloc (.cells B 38)).alloc (.cells noneA 38)) w.heap.size A B := by
  intro W hW
  have hb : Below w.heap.size w (((w.alloc (.cells A 62)).alloc (.cells B 38)).alloc (.cells noneA 38)) := (((Below.refl _ _).alloc (Nat.le_refl _) _).alloc (by simp) _).alloc (by simp; omega) _
  have h1 : CellsAt (((w.alloc (.cells A 62)).alloc (.cells B 38)).alloc (.cells noneA 38)) w.heap.size 62 A := ((CellsAt.new w _ _).stays ((Below.refl _ _).alloc (Nat.le_refl _) _)).stays ((Below.refl _ _).alloc (Nat.le_refl _) _)
  have h2 := (CellsAt.new (w.alloc (.cells A 62)) B 38).stays ((Below.refl _ _).alloc (Nat.le_refl _) (.cells noneA 38))
  have h3 := CellsAt.new ((w.alloc (.cells A 62)).alloc (.cells B 38)) noneA 38
  have e1 : (w.alloc (.cells A 62)).heap.size = w.heap.size + 1 := by simp
  have e2 : ((w.alloc (.cells A 62)).alloc (.cells B 38)).heap.size = w.heap.size + 2 := by simp
  rw [e1] at h2
  rw [e2] at h3
  exact ⟨h1.stays hW, h2.stays hW, h3.stays hW, hb.trans (hW.mono hb.size)⟩
set_option maxRecDepth 100000 in
set_option maxHeartbeats 16000000 in
theorem stepget_any {K N T : Int} (hr : Rep S w (.mk k n t fs r ls ps) ⟨fa, fc, la, lc, pa, pc⟩) (hr9 : Rep S9 w (.mk k9 n9 t9 fs9 r9 ls9 ps9) ⟨fa9, fc9, la9, lc9, pa9, pc9⟩) (hR : rightV (.mk k n t fs r ls ps) = true) (hN : i64 N) (hT : i64 T) (hfs : fs.length ≤ 1000000) (hls : ls.length ≤ 1000000) (hps : ps.length ≤ 1000000) :
    Calls Tryz.prog 40 #[.agg #[.int .i64 K, .int .i64 N, .int .i64 T, .int .i64 k9, .int .u64 (n9 : Int), .string (strB t9), .slice fa9 fs9.length fc9, .string (strB r9), .slice la9 ls9.length lc9, .slice pa9 ps9.length pc9], .agg #[.int .i64 k, .int .u64 (n : Int), .string (strB t), .slice fa fs.length fc, .string (strB r), .slice la ls.length lc, .slice pa ps.length pc]] w (GetP (fun k => S k ∨ w.heap.size ≤ k) (getS ⟨K, N, T, .mk k9 n9 t9 fs9 r9 ls9 ps9⟩ (.mk k n t fs r ls ps)) w) := by
  obtain ⟨W0, hW0⟩ : ∃ W0, W0 = ((w.alloc (.cells #[.int .i64 K, .int .i64 N, .int .i64 T, .int .i64 k9, .int .u64 (n9 : Int), .string (strB t9), .slice fa9 fs9.length fc9, .string (strB r9), .slice la9 ls9.length lc9, .slice pa9 ps9.length pc9] 62)).alloc (.cells #[.int .i64 k, .int .u64 (n : Int), .string (strB t), .slice fa fs.length fc, .string (strB r), .slice la ls.length lc, .slice pa ps.length pc] 38)).alloc (.cells noneA 38) := ⟨_, rfl⟩
  obtain ⟨g, hg⟩ : ∃ g, g = w.heap.size := ⟨_, rfl⟩
  have HX : Hid (GetW w W0 g #[.int .i64 K, .int .i64 N, .int .i64 T, .int .i64 k9, .int .u64 (n9 : Int), .string (strB t9), .slice fa9 fs9.length fc9, .string (strB r9), .slice la9 ls9.length lc9, .slice pa9 ps9.length pc9] #[.int .i64 k, .int .u64 (n : Int), .string (strB t), .slice fa fs.length fc, .string (strB r), .slice la ls.length lc, .slice pa ps.length pc]) := by show GetW _ _ _ _ _; rw [hW0, hg]; exact GetW.new w _ _
  have hbw := (HX.out W0 (Below.refl _ _)).2.2.2
  have hgs : w.heap.size ≤ g + 2 := by omega
  have HGS := Lib.hid hgs
  have HW : Hid (((w.alloc (.cells #[.int .i64 K, .int .i64 N, .int .i64 T, .int .i64 k9, .int .u64 (n9 : Int), .string (strB t9), .slice fa9 fs9.length fc9, .string (strB r9), .slice la9 ls9.length lc9, .slice pa9 ps9.length pc9] 62)).alloc (.cells #[.int .i64 k, .int .u64 (n : Int), .string (strB t), .slice fa fs.length fc, .string (strB r), .slice la ls.length lc, .slice pa ps.length pc] 38)).alloc (.cells #[.int .i64 0, .int .u64 0, .string ⟨#[]⟩, .slice none 0 0, .string ⟨#[]⟩, .slice none 0 0, .slice none 0 0] 38) = W0) := hW0.symm
  have HG : Hid (w.heap.size = g) := hg.symm
  have HR : Hid (∀ W, Below w.heap.size w W → Rep (fun k => S k ∧ k < w.heap.size) W (.mk k n t fs r ls ps) ⟨fa, fc, la, lc, pa, pc⟩) := fun W h => hr.lt.stays h
  have HR9 : Hid (∀ W, Below w.heap.size w W → Rep S9 W (.mk k9 n9 t9 fs9 r9 ls9 ps9) ⟨fa9, fc9, la9, lc9, pa9, pc9⟩) := fun W h => hr9.stays h
  have HRV := Lib.hid hR
  have HBW := Lib.hid hbw
  clear hW0 hg hr hr9 hR hbw hgs
  obtain ⟨hcx, hcy, hcz, -⟩ := HX.out W0 (Below.refl _ _)
  have x0 := hcx.cell 0 (v := .int .i64 K) rfl
  have x1 := hcx.cell 1 (v := .int .i64 N) rfl
  have x2 := hcx.cell 2 (v := .int .i64 T) rfl
  have y0 := hcy.cell 0 (v := .int .i64 k) rfl
  have y1 := hcy.cell 1 (v := .int .u64 (n : Int)) rfl
  have y2 := hcy.cell 2 (v := .string (strB t)) rfl
  have y3 := hcy.cell 3 (v := .slice fa fs.length fc) rfl
  have y4 := hcy.cell 4 (v := .string (strB r)) rfl
  have y5 := hcy.cell 5 (v := .slice la ls.length lc) rfl
  have y6 := hcy.cell 6 (v := .slice pa ps.length pc) rfl
  have x3 := hcx.cell 3 (v := .int .i64 k9) rfl
  have x4 := hcx.cell 4 (v := .int .u64 (n9 : Int)) rfl
  have x5 := hcx.cell 5 (v := .string (strB t9)) rfl
  have x6 := hcx.cell 6 (v := .slice fa9 fs9.length fc9) rfl
  have x7 := hcx.cell 7 (v := .string (strB r9)) rfl
  have x8 := hcx.cell 8 (v := .slice la9 ls9.length lc9) rfl
  have x9 := hcx.cell 9 (v := .slice pa9 ps9.length pc9) rfl
  have HCZ := Lib.hid hcz
  clear hcx hcy hcz
  obtain ⟨kb, hkb⟩ : ∃ b, (k == 4) = b := ⟨_, rfl⟩
  have HKB := Lib.hid hkb
  by_cases h1 : K = 1
  · subst h1
    have HZ : Hid (getS ⟨1, N, T, .mk k9 n9 t9 fs9 r9 ls9 ps9⟩ (.mk k n t fs r ls ps) = (getV (.mk k n t fs r ls ps) N, (getV (.mk k n t fs r ls ps) N).k != 0)) := getS_1
    have hC : Calls _ _ _ W0 _ := get_S N (HR.out W0 HBW.out) HRV.out hfs
    clear hkb
    rw [HZ.out]
    generalize getV (.mk k n t fs r ls ps) N = x at hC ⊢
    obtain ⟨k8, n8, t8, fs8, r8, ls8, ps8⟩ := x
    have HC := Lib.hid hC
    clear hC HZ HR HR9
    go_enter Tryz.func40, Tryz.ntmps40
    go_upto_region 1 with fail
    rw [HW.out, HG.out]
    clear HW HG
    go_wp2_with fail
    refine HC.out.mono ?_
    intro e w1 hv
    obtain ⟨fa8, la8, pa8, fc8, lc8, pc8, rfl, hr8, hb1⟩ := hv.lit
    have hcz := HCZ.out.stays hb1
    have HR8 := Lib.hid hr8
    have HB1 := Lib.hid (HBW.out.trans (hb1.mono HBW.out.size))
    clear HC hv hr8 hb1 x0 x1 x2 y0 y1 y2 y3 y4 y5 y6 x3 x4 x5 x6 x7 x8 x9
    go_wp2_with fail
    obtain ⟨gx, hgx⟩ : ∃ gx, gx = w1.heap.size := ⟨_, rfl⟩
    obtain ⟨W1, hW1⟩ : ∃ W, W = w1.alloc (.cells #[.int .i64 k8, .int .u64 (n8 : Int), .string (strB t8), .slice fa8 fs8.length fc8, .string (strB r8), .slice la8 ls8.length lc8, .slice pa8 ps8.length pc8] 38) := ⟨_, rfl⟩
    rw [← hW1, ← hgx]
    have hcx : CellsAt W1 gx 38 #[.int .i64 k8, .int .u64 (n8 : Int), .string (strB t8), .slice fa8 fs8.length fc8, .string (strB r8), .slice la8 ls8.length lc8, .slice pa8 ps8.length pc8] := by rw [hW1, hgx]; exact CellsAt.new w1 _ _
    have hbA : Below w1.heap.size w1 W1 := by rw [hW1]; exact (Below.refl _ _).alloc (Nat.le_refl _) _
    have hcz1 := hcz.stays hbA
    have HB2 := Lib.hid (HB1.out.trans (hbA.mono HB1.out.size))
    have HR2 := Lib.hid (HR8.out.stays hbA)
    have e0 := hcx.cell 0 (v := .int .i64 k8) rfl
    have e1 := hcx.cell 1 (v := .int .u64 (n8 : Int)) rfl
    have e2 := hcx.cell 2 (v := .string (strB t8)) rfl
    have e3 := hcx.cell 3 (v := .slice fa8 fs8.length fc8) rfl
    have e4 := hcx.cell 4 (v := .string (strB r8)) rfl
    have e5 := hcx.cell 5 (v := .slice la8 ls8.length lc8) rfl
    have e6 := hcx.cell 6 (v := .slice pa8 ps8.length pc8) rfl
    have z0 := hcz1.cell 0 (v := .int .i64 0) rfl
    have z1 := hcz1.cell 1 (v := .int .u64 0) rfl
    have z2 := hcz1.cell 2 (v := .string ⟨#[]⟩) rfl
    have z3 := hcz1.cell 3 (v := .slice none 0 0) rfl
    have z4 := hcz1.cell 4 (v := .string ⟨#[]⟩) rfl
    have z5 := hcz1.cell 5 (v := .slice none 0 0) rfl
    have z6 := hcz1.cell 6 (v := .slice none 0 0) rfl
    have f0 := hcz1.free 0
    have f1 := hcz1.free 1
    have f2 := hcz1.free 2
    have f3 := hcz1.free 3
    have f4 := hcz1.free 4
    have f5 := hcz1.free 5
    have f6 := hcz1.free 6
    have hlz : g + 2 < W1.heap.size := hcz1.lt
    have hne : g + 2 ≠ gx := by have := hcz.lt; omega
    clear hcz hcz1 hcx hbA hW1 hgx HR8 HB1 HCZ HX
    go_region
    go_wp2_with fail
    refine bodyPost_ret (v := .tuple #[.agg #[.int .i64 k8, .int .u64 (n8 : Int), .string (strB t8), .slice fa8 fs8.length fc8, .string (strB r8), .slice la8 ls8.length lc8, .slice pa8 ps8.length pc8], .bool (k8 != 0)]) (by simp [results, Tryz.results40, go_sem, z0, z1, z2, z3, z4, z5, z6]) rfl ?_
    have hgs := HGS.out
    have hb7 := below_set7 HB2.out (show w.heap.size ≤ g + 2 by omega) (.int .i64 k8) (.int .u64 (n8 : Int)) (.string (strB t8)) (.slice fa8 fs8.length fc8) (.string (strB r8)) (.slice la8 ls8.length lc8) (.slice pa8 ps8.length pc8)
    have hr7 := Rep.setC7 (v0 := .int .i64 k8) (v1 := .int .u64 (n8 : Int)) (v2 := .string (strB t8)) (v3 := .slice fa8 fs8.length fc8) (v4 := .string (strB r8)) (v5 := .slice la8 ls8.length lc8) (v6 := .slice pa8 ps8.length pc8) HR2.out (b := g + 2) (fun k hk e => by omega)
    exact ⟨⟨fa8, fc8, la8, lc8, pa8, pc8⟩, by rw [vG_lit]; rfl, (hr7.mono (fun k hk => .inl hk.1)).stays (Below.refl _ _).drew, hb7.drew⟩
  have k1 : (K == 1) = false := by simpa using h1
  by_cases h2 : K = 2
  · subst h2
    have HZ : Hid (getS ⟨2, N, T, .mk k9 n9 t9 fs9 r9 ls9 ps9⟩ (.mk k n t fs r ls ps) = (findV (.mk k n t fs r ls ps) (.mk k9 n9 t9 fs9 r9 ls9 ps9), (findV (.mk k n t fs r ls ps) (.mk k9 n9 t9 fs9 r9 ls9 ps9)).k != 0)) := getS_2
    have hC : Calls _ _ _ W0 _ := find_S (HR.out W0 HBW.out) (HR9.out W0 HBW.out) HRV.out hps
    clear hkb
    rw [HZ.out]
    generalize findV (.mk k n t fs r ls ps) (.mk k9 n9 t9 fs9 r9 ls9 ps9) = x at hC ⊢
    obtain ⟨k8, n8, t8, fs8, r8, ls8, ps8⟩ := x
    have HC := Lib.hid hC
    clear hC HZ HR HR9
    go_enter Tryz.func40, Tryz.ntmps40
    go_upto_region 1 with fail
    rw [HW.out, HG.out]
    clear HW HG
    go_wp2_with fail
    refine HC.out.mono ?_
    intro e w1 hv
    obtain ⟨fa8, la8, pa8, fc8, lc8, pc8, rfl, hr8, hb1⟩ := hv.lit
    have hcz := HCZ.out.stays hb1
    have HR8 := Lib.hid hr8
    have HB1 := Lib.hid (HBW.out.trans (hb1.mono HBW.out.size))
    clear HC hv hr8 hb1 x0 x1 x2 y0 y1 y2 y3 y4 y5 y6 x3 x4 x5 x6 x7 x8 x9
    go_wp2_with fail
    obtain ⟨gx, hgx⟩ : ∃ gx, gx = w1.heap.size := ⟨_, rfl⟩
    obtain ⟨W1, hW1⟩ : ∃ W, W = w1.alloc (.cells #[.int .i64 k8, .int .u64 (n8 : Int), .string (strB t8), .slice fa8 fs8.length fc8, .string (strB r8), .slice la8 ls8.length lc8, .slice pa8 ps8.length pc8] 38) := ⟨_, rfl⟩
    rw [← hW1, ← hgx]
    have hcx : CellsAt W1 gx 38 #[.int .i64 k8, .int .u64 (n8 : Int), .string (strB t8), .slice fa8 fs8.length fc8, .string (strB r8), .slice la8 ls8.length lc8, .slice pa8 ps8.length pc8] := by rw [hW1, hgx]; exact CellsAt.new w1 _ _
    have hbA : Below w1.heap.size w1 W1 := by rw [hW1]; exact (Below.refl _ _).alloc (Nat.le_refl _) _
    have hcz1 := hcz.stays hbA
    have HB2 := Lib.hid (HB1.out.trans (hbA.mono HB1.out.size))
    have HR2 := Lib.hid (HR8.out.stays hbA)
    have e0 := hcx.cell 0 (v := .int .i64 k8) rfl
    have e1 := hcx.cell 1 (v := .int .u64 (n8 : Int)) rfl
    have e2 := hcx.cell 2 (v := .string (strB t8)) rfl
    have e3 := hcx.cell 3 (v := .slice fa8 fs8.length fc8) rfl
    have e4 := hcx.cell 4 (v := .string (strB r8)) rfl
    have e5 := hcx.cell 5 (v := .slice la8 ls8.length lc8) rfl
    have e6 := hcx.cell 6 (v := .slice pa8 ps8.length pc8) rfl
    have z0 := hcz1.cell 0 (v := .int .i64 0) rfl
    have z1 := hcz1.cell 1 (v := .int .u64 0) rfl
    have z2 := hcz1.cell 2 (v := .string ⟨#[]⟩) rfl
    have z3 := hcz1.cell 3 (v := .slice none 0 0) rfl
    have z4 := hcz1.cell 4 (v := .string ⟨#[]⟩) rfl
    have z5 := hcz1.cell 5 (v := .slice none 0 0) rfl
    have z6 := hcz1.cell 6 (v := .slice none 0 0) rfl
    have f0 := hcz1.free 0
    have f1 := hcz1.free 1
    have f2 := hcz1.free 2
    have f3 := hcz1.free 3
    have f4 := hcz1.free 4
    have f5 := hcz1.free 5
    have f6 := hcz1.free 6
    have hlz : g + 2 < W1.heap.size := hcz1.lt
    have hne : g + 2 ≠ gx := by have := hcz.lt; omega
    clear hcz hcz1 hcx hbA hW1 hgx HR8 HB1 HCZ HX
    go_region
    go_wp2_with fail
    refine bodyPost_ret (v := .tuple #[.agg #[.int .i64 k8, .int .u64 (n8 : Int), .string (strB t8), .slice fa8 fs8.length fc8, .string (strB r8), .slice la8 ls8.length lc8, .slice pa8 ps8.length pc8], .bool (k8 != 0)]) (by simp [results, Tryz.results40, go_sem, z0, z1, z2, z3, z4, z5, z6]) rfl ?_
    have hgs := HGS.out
    have hb7 := below_set7 HB2.out (show w.heap.size ≤ g + 2 by omega) (.int .i64 k8) (.int .u64 (n8 : Int)) (.string (strB t8)) (.slice fa8 fs8.length fc8) (.string (strB r8)) (.slice la8 ls8.length lc8) (.slice pa8 ps8.length pc8)
    have hr7 := Rep.setC7 (v0 := .int .i64 k8) (v1 := .int .u64 (n8 : Int)) (v2 := .string (strB t8)) (v3 := .slice fa8 fs8.length fc8) (v4 := .string (strB r8)) (v5 := .slice la8 ls8.length lc8) (v6 := .slice pa8 ps8.length pc8) HR2.out (b := g + 2) (fun k hk e => by omega)
    exact ⟨⟨fa8, fc8, la8, lc8, pa8, pc8⟩, by rw [vG_lit]; rfl, (hr7.mono (fun k hk => .inl hk.1)).stays (Below.refl _ _).drew, hb7.drew⟩
  have k2 : (K == 2) = false := by simpa using h2
  by_cases h3 : K = 3
  · subst h3
    cases kb with
    | false =>
      have HZ : Hid (getS ⟨3, N, T, .mk k9 n9 t9 fs9 r9 ls9 ps9⟩ (.mk k n t fs r ls ps) = (V.none, false)) := getS_3n (fun h => by have := HKB.out; rw [show k = 4 from h.1] at this; cases this)
      clear HR HR9 HX x3 x4 x5 x6 x7 x8 x9 y1 y2 y3 y6
      go_enter Tryz.func40, Tryz.ntmps40
      go_upto_region 1 with fail
      rw [HW.out, HG.out]
      clear HW HG
      have hoA : (noneA).all (·.oneCell') = true := by simp [noneA, Value.oneCell']
      have hsA : (noneA).size = 7 := rfl
      go_upto_region 14 with fail
      go_wp2_with (refine wpList_storeW rfl 38 _ _ rfl (g + 1 + 1) (by rfl) (noneA) (by rfl) 38 _ (HCZ.out) rfl (by rw [hsA]; exact sizeVL) hoA ?_; intro w9 hc9 hg9)
      have hb9 := HBW.out.grown hg9 HBW.out.size (fun k hk => by cases hk; exact HGS.out)
      refine bodyPost_ret (v := .tuple #[.agg (noneA), .bool false]) (results_row_tmp rfl _ w9 (g + 1 + 1) 38 (noneA) (0, 0) _ (.bool false) rfl rfl hc9 Tryz.underlying38 rfl (by rw [hsA]; exact sizeVL)) rfl ?_
      rw [HZ.out]
      exact GetP.none hb9

    | true =>
      obtain ⟨bi, hbi⟩ : ∃ b, b = inB N 0 ((ls.length : Int) - 1) := ⟨_, rfl⟩
      have HIn : Hid (∀ W, Calls Tryz.prog 47 #[.int .i64 N, .int .i64 0, .int .i64 ((ls.length : Int) - 1)] W fun e w' => e = .returned (.bool bi) ∧ w' = W) := fun W => by rw [hbi]; exact pin_any N 0 ((ls.length : Int) - 1) W
      have hwr : IntKind.i64.wrap ((ls.length : Int) - 1) = (ls.length : Int) - 1 := by rw [IntKind.wrap_i64]; omega
      have HBI := Lib.hid hbi
      clear hbi
      cases bi with
      | false =>
        have HZ : Hid (getS ⟨3, N, T, .mk k9 n9 t9 fs9 r9 ls9 ps9⟩ (.mk k n t fs r ls ps) = (V.none, false)) := getS_3n (fun h => by
          have h0 := HBI.out
          rw [inB_iff.2 ⟨h.2.1, by have := h.2.2; simp only [V.ls] at this; omega⟩] at h0
          cases h0)
        clear HR HR9 HX x3 x4 x5 x6 x7 x8 x9 y1 y2 y3 y6
        go_enter Tryz.func40, Tryz.ntmps40
        go_upto_region 1 with fail
        rw [HW.out, HG.out]
        clear HW HG
        go_wp2_with fail
        refine (HIn.out _).mono ?_
        rintro e w2 ⟨rfl, rfl⟩
        clear HIn
        have hoA : (noneA).all (·.oneCell') = true := by simp [noneA, Value.oneCell']
        have hsA : (noneA).size = 7 := rfl
        go_upto_region 14 with fail
        go_wp2_with (refine wpList_storeW rfl 38 _ _ rfl (g + 1 + 1) (by rfl) (noneA) (by rfl) 38 _ (HCZ.out) rfl (by rw [hsA]; exact sizeVL) hoA ?_; intro w9 hc9 hg9)
        have hb9 := HBW.out.grown hg9 HBW.out.size (fun k hk => by cases hk; exact HGS.out)
        refine bodyPost_ret (v := .tuple #[.agg (noneA), .bool false]) (results_row_tmp rfl _ w9 (g + 1 + 1) 38 (noneA) (0, 0) _ (.bool false) rfl rfl hc9 Tryz.underlying38 rfl (by rw [hsA]; exact sizeVL)) rfl ?_
        rw [HZ.out]
        exact GetP.none hb9

      | true =>
        obtain ⟨hn0, hn1⟩ := inB_iff.1 HBI.out.symm
        obtain ⟨m, rfl⟩ : ∃ m : Nat, N = m := ⟨N.toNat, by omega⟩
        have hml : m < ls.length := by omega
        obtain ⟨⟨k8, n8, t8, fs8, r8, ls8, ps8⟩, hq⟩ : ∃ p, ls[m]? = some p := ⟨_, List.getElem?_eq_getElem hml⟩
        have HZ : Hid (getS ⟨3, m, T, .mk k9 n9 t9 fs9 r9 ls9 ps9⟩ (.mk k n t fs r ls ps) = (.mk k8 n8 t8 fs8 r8 ls8 ps8, true)) := by
          show _ = _
          rw [getS_3 (v := .mk k n t fs r ls ps) ⟨show k = 4 by have := HKB.out; simpa using this, by omega, by simp only [V.ls]; omega⟩]
          simp only [V.ls, Int.toNat_natCast, hq]; rfl
        obtain ⟨b, o, fa8, la8, pa8, fc8, lc8, pc8, hla, hrx, c0, c1, c2, c3, c4, c5, c6⟩ := (HR.out W0 HBW.out).partAt hq
        subst hla
        have HRX := Lib.hid hrx
        clear HBI hq hrx hn0 hn1
        clear HR HR9 HX x3 x4 x5 x6 x7 x8 x9 y1 y2 y3 y6
        go_enter Tryz.func40, Tryz.ntmps40
        go_upto_region 1 with fail
        rw [HW.out, HG.out]
        clear HW HG
        go_wp2_with fail
        refine (HIn.out _).mono ?_
        rintro e w2 ⟨rfl, rfl⟩
        clear HIn
        have HRZ : Hid (∀ w9, w2.grownBy w9 (some (g + 1 + 1)) → Rep (fun k => S k ∨ w.heap.size ≤ k) w9 (.mk k8 n8 t8 fs8 r8 ls8 ps8) ⟨fa8, fc8, la8, lc8, pa8, pc8⟩) := fun w9 hg9 => (HRX.out.grew (Grew.ofGrown hg9) (fun k hk hm => by rw [show k = g + 1 + 1 from by simpa using hm] at hk; have := HGS.out; have := hk.2; omega)).mono (fun k hk => .inl hk.1)
        have hoA : (#[.int .i64 k8, .int .u64 (n8 : Int), .string (strB t8), .slice fa8 fs8.length fc8, .string (strB r8), .slice la8 ls8.length lc8, .slice pa8 ps8.length pc8] : Array Value).all (·.oneCell') = true := by simp [Value.oneCell']
        have hsA : (#[.int .i64 k8, .int .u64 (n8 : Int), .string (strB t8), .slice fa8 fs8.length fc8, .string (strB r8), .slice la8 ls8.length lc8, .slice pa8 ps8.length pc8] : Array Value).size = 7 := rfl
        go_upto_region 9 with fail
        go_wp2_with (refine wpList_storeW rfl 38 _ _ rfl (g + 1 + 1) (by rfl) (#[.int .i64 k8, .int .u64 (n8 : Int), .string (strB t8), .slice fa8 fs8.length fc8, .string (strB r8), .slice la8 ls8.length lc8, .slice pa8 ps8.length pc8] : Array Value) (by rfl) 38 _ (HCZ.out) rfl (by rw [hsA]; exact sizeVL) hoA ?_; intro w9 hc9 hg9)
        have hb9 := HBW.out.grown hg9 HBW.out.size (fun k hk => by cases hk; exact HGS.out)
        refine bodyPost_ret (v := .tuple #[.agg (#[.int .i64 k8, .int .u64 (n8 : Int), .string (strB t8), .slice fa8 fs8.length fc8, .string (strB r8), .slice la8 ls8.length lc8, .slice pa8 ps8.length pc8] : Array Value), .bool true]) (results_row_tmp rfl _ w9 (g + 1 + 1) 38 (#[.int .i64 k8, .int .u64 (n8 : Int), .string (strB t8), .slice fa8 fs8.length fc8, .string (strB r8), .slice la8 ls8.length lc8, .slice pa8 ps8.length pc8] : Array Value) (0, 0) _ (.bool true) rfl rfl hc9 Tryz.underlying38 rfl (by rw [hsA]; exact sizeVL)) rfl ?_
        rw [HZ.out]
        exact GetP.val (HRZ.out w9 hg9) hb9

  have k3 : (K == 3) = false := by simpa using h3
  by_cases h4 : K = 4
  · subst h4
    obtain ⟨mb, hmb⟩ : ∃ b, (k == 3) = b := ⟨_, rfl⟩
    have HMB := Lib.hid hmb
    cases mb with
    | false =>
      have HZ : Hid (getS ⟨4, N, T, .mk k9 n9 t9 fs9 r9 ls9 ps9⟩ (.mk k n t fs r ls ps) = (V.none, false)) := getS_4n (fun h => by have := HMB.out; rw [show k = 3 from h] at this; cases this)
      clear HR HR9 HX x3 x4 x5 x6 x7 x8 x9 y1 y2 y3 y6
      go_enter Tryz.func40, Tryz.ntmps40
      go_upto_region 1 with fail
      rw [HW.out, HG.out]
      clear HW HG
      have hoA : (noneA).all (·.oneCell') = true := by simp [noneA, Value.oneCell']
      have hsA : (noneA).size = 7 := rfl
      go_upto_region 14 with fail
      go_wp2_with (refine wpList_storeW rfl 38 _ _ rfl (g + 1 + 1) (by rfl) (noneA) (by rfl) 38 _ (HCZ.out) rfl (by rw [hsA]; exact sizeVL) hoA ?_; intro w9 hc9 hg9)
      have hb9 := HBW.out.grown hg9 HBW.out.size (fun k hk => by cases hk; exact HGS.out)
      refine bodyPost_ret (v := .tuple #[.agg (noneA), .bool false]) (results_row_tmp rfl _ w9 (g + 1 + 1) 38 (noneA) (0, 0) _ (.bool false) rfl rfl hc9 Tryz.underlying38 rfl (by rw [hsA]; exact sizeVL)) rfl ?_
      rw [HZ.out]
      exact GetP.none hb9

    | true =>
      have HZ : Hid (getS ⟨4, N, T, .mk k9 n9 t9 fs9 r9 ls9 ps9⟩ (.mk k n t fs r ls ps) = (strV r, true)) := getS_4 (show k = 3 by have := HMB.out; simpa using this)
      have HS : Hid (Calls Tryz.prog 62 #[.string (strB r)] W0 fun e w' => e = .returned (.agg #[.int .i64 2, .int .u64 ((0 : Nat) : Int), .string (strB r), .slice none ([] : List (Int × V)).length 0, .string (strB []), .slice none ([] : List V).length 0, .slice none ([] : List (V × V)).length 0]) ∧ Below W0.heap.size W0 w') := str_lit r W0
      clear HR HR9 x3 x4 x5 x6 x7 x8 x9 y1 y2 y3 y6
      go_enter Tryz.func40, Tryz.ntmps40
      go_upto_region 1 with fail
      rw [HW.out, HG.out]
      clear HW HG
      go_wp2_with fail
      refine HS.out.mono ?_
      rintro e w2 ⟨rfl, hb2⟩
      obtain ⟨-, -, hcz2, hbw2⟩ := HX.out w2 hb2
      have HBW2 := Lib.hid hbw2
      clear HS HX hb2 hbw2
      have hoA : (#[.int .i64 2, .int .u64 ((0 : Nat) : Int), .string (strB r), .slice none ([] : List (Int × V)).length 0, .string (strB []), .slice none ([] : List V).length 0, .slice none ([] : List (V × V)).length 0] : Array Value).all (·.oneCell') = true := by simp [Value.oneCell']
      have hsA : (#[.int .i64 2, .int .u64 ((0 : Nat) : Int), .string (strB r), .slice none ([] : List (Int × V)).length 0, .string (strB []), .slice none ([] : List V).length 0, .slice none ([] : List (V × V)).length 0] : Array Value).size = 7 := rfl
      skip
      go_wp2_with (refine wpList_storeW rfl 38 _ _ rfl (g + 1 + 1) (by rfl) (#[.int .i64 2, .int .u64 ((0 : Nat) : Int), .string (strB r), .slice none ([] : List (Int × V)).length 0, .string (strB []), .slice none ([] : List V).length 0, .slice none ([] : List (V × V)).length 0] : Array Value) (by rfl) 38 _ (hcz2) rfl (by rw [hsA]; exact sizeVL) hoA ?_; intro w9 hc9 hg9)
      have hb9 := HBW2.out.grown hg9 HBW2.out.size (fun k hk => by cases hk; exact HGS.out)
      refine bodyPost_ret (v := .tuple #[.agg (#[.int .i64 2, .int .u64 ((0 : Nat) : Int), .string (strB r), .slice none ([] : List (Int × V)).length 0, .string (strB []), .slice none ([] : List V).length 0, .slice none ([] : List (V × V)).length 0] : Array Value), .bool true]) (results_row_tmp rfl _ w9 (g + 1 + 1) 38 (#[.int .i64 2, .int .u64 ((0 : Nat) : Int), .string (strB r), .slice none ([] : List (Int × V)).length 0, .string (strB []), .slice none ([] : List V).length 0, .slice none ([] : List (V × V)).length 0] : Array Value) (0, 0) _ (.bool true) rfl rfl hc9 Tryz.underlying38 rfl (by rw [hsA]; exact sizeVL)) rfl ?_
      rw [HZ.out]
      exact GetP.val (Rep.leaf 2 0 r [] ⟨by decide, by decide⟩ (by decide) ⟨none, 0, none, 0, none, 0⟩) hb9

  have k4 : (K == 4) = false := by simpa using h4
  by_cases h5 : K = 5
  · subst h5
    cases kb with
    | false =>
      have HZ : Hid (getS ⟨5, N, T, .mk k9 n9 t9 fs9 r9 ls9 ps9⟩ (.mk k n t fs r ls ps) = (V.none, false)) := getS_5n (fun h => by have := HKB.out; rw [show k = 4 from h.1] at this; cases this)
      clear HR HR9 HX x3 x4 x5 x6 x7 x8 x9 y1 y2 y3 y6
      go_enter Tryz.func40, Tryz.ntmps40
      go_upto_region 1 with fail
      rw [HW.out, HG.out]
      clear HW HG
      have hoA : (noneA).all (·.oneCell') = true := by simp [noneA, Value.oneCell']
      have hsA : (noneA).size = 7 := rfl
      go_upto_region 14 with fail
      go_wp2_with (refine wpList_storeW rfl 38 _ _ rfl (g + 1 + 1) (by rfl) (noneA) (by rfl) 38 _ (HCZ.out) rfl (by rw [hsA]; exact sizeVL) hoA ?_; intro w9 hc9 hg9)
      have hb9 := HBW.out.grown hg9 HBW.out.size (fun k hk => by cases hk; exact HGS.out)
      refine bodyPost_ret (v := .tuple #[.agg (noneA), .bool false]) (results_row_tmp rfl _ w9 (g + 1 + 1) 38 (noneA) (0, 0) _ (.bool false) rfl rfl hc9 Tryz.underlying38 rfl (by rw [hsA]; exact sizeVL)) rfl ?_
      rw [HZ.out]
      exact GetP.none hb9

    | true =>
      obtain ⟨nb, hnb⟩ : ∃ b, decide ((0 : Int) ≤ N) = b := ⟨_, rfl⟩
      have HNB := Lib.hid hnb
      cases nb with
      | false =>
        have HZ : Hid (getS ⟨5, N, T, .mk k9 n9 t9 fs9 r9 ls9 ps9⟩ (.mk k n t fs r ls ps) = (V.none, false)) := getS_5n (fun h => by have := of_decide_eq_false HNB.out; exact this h.2.1)
        clear HR HR9 HX x3 x4 x5 x6 x7 x8 x9 y1 y2 y3 y6
        go_enter Tryz.func40, Tryz.ntmps40
        go_upto_region 1 with fail
        rw [HW.out, HG.out]
        clear HW HG
        have hoA : (noneA).all (·.oneCell') = true := by simp [noneA, Value.oneCell']
        have hsA : (noneA).size = 7 := rfl
        go_upto_region 14 with fail
        go_wp2_with (refine wpList_storeW rfl 38 _ _ rfl (g + 1 + 1) (by rfl) (noneA) (by rfl) 38 _ (HCZ.out) rfl (by rw [hsA]; exact sizeVL) hoA ?_; intro w9 hc9 hg9)
        have hb9 := HBW.out.grown hg9 HBW.out.size (fun k hk => by cases hk; exact HGS.out)
        refine bodyPost_ret (v := .tuple #[.agg (noneA), .bool false]) (results_row_tmp rfl _ w9 (g + 1 + 1) 38 (noneA) (0, 0) _ (.bool false) rfl rfl hc9 Tryz.underlying38 rfl (by rw [hsA]; exact sizeVL)) rfl ?_
        rw [HZ.out]
        exact GetP.none hb9

      | true =>
        obtain ⟨bi, hbi⟩ : ∃ b, b = inB T N (ls.length : Int) := ⟨_, rfl⟩
        have HIn : Hid (∀ W, Calls Tryz.prog 47 #[.int .i64 T, .int .i64 N, .int .i64 (ls.length : Int)] W fun e w' => e = .returned (.bool bi) ∧ w' = W) := fun W => by rw [hbi]; exact pin_any T N (ls.length : Int) W
        have HBI := Lib.hid hbi
        clear hbi
        cases bi with
        | false =>
          have HZ : Hid (getS ⟨5, N, T, .mk k9 n9 t9 fs9 r9 ls9 ps9⟩ (.mk k n t fs r ls ps) = (V.none, false)) := getS_5n (fun h => by
            have h0 := HBI.out
            rw [show inB T N (ls.length : Int) = true from inB_iff.2 ⟨h.2.2.1, h.2.2.2⟩] at h0
            cases h0)
          clear HR HR9 HX x3 x4 x5 x6 x7 x8 x9 y1 y2 y3 y6
          go_enter Tryz.func40, Tryz.ntmps40
          go_upto_region 1 with fail
          rw [HW.out, HG.out]
          clear HW HG
          go_wp2_with fail
          refine (HIn.out _).mono ?_
          rintro e w2 ⟨rfl, rfl⟩
          clear HIn
          have hoA : (noneA).all (·.oneCell') = true := by simp [noneA, Value.oneCell']
          have hsA : (noneA).size = 7 := rfl
          go_upto_region 14 with fail
          go_wp2_with (refine wpList_storeW rfl 38 _ _ rfl (g + 1 + 1) (by rfl) (noneA) (by rfl) 38 _ (HCZ.out) rfl (by rw [hsA]; exact sizeVL) hoA ?_; intro w9 hc9 hg9)
          have hb9 := HBW.out.grown hg9 HBW.out.size (fun k hk => by cases hk; exact HGS.out)
          refine bodyPost_ret (v := .tuple #[.agg (noneA), .bool false]) (results_row_tmp rfl _ w9 (g + 1 + 1) 38 (noneA) (0, 0) _ (.bool false) rfl rfl hc9 Tryz.underlying38 rfl (by rw [hsA]; exact sizeVL)) rfl ?_
          rw [HZ.out]
          exact GetP.none hb9

        | true =>
          have hn0 := of_decide_eq_true HNB.out
          obtain ⟨hn1, hn2⟩ := inB_iff.1 HBI.out.symm
          obtain ⟨m, rfl⟩ : ∃ m : Nat, N = m := ⟨N.toNat, by omega⟩
          obtain ⟨q, rfl⟩ : ∃ q : Nat, T = q := ⟨T.toNat, by omega⟩
          have hmq : m ≤ q := by omega
          have hql : q ≤ ls.length := by omega
          obtain ⟨ll, hll, hrow, hrl⟩ := (HR.out W0 HBW.out).listRow
          have hqc : q ≤ lc := by
            rw [hll, List.length_map] at hrow hql
            rcases hrow.capS with h | h
            · omega
            · rw [h] at hql; simp at hql; omega
          have hlen : ll.length = ls.length := by rw [hll, List.length_map]
          have hr2 : RowS vC W0 (slcS 7 la lc m q) ((ll.take q).drop m) := by
            have h1 := RowS.upto (a := la) (c := lc) (xs := ll) (by rw [hlen]; exact hrow) q (by omega)
            have hl2 : (ll.take q).length = q := by rw [List.length_take]; omega
            have h2 := RowS.from vC_len (a := la) (c := lc) (xs := ll.take q) (by rw [hl2]; exact h1) m (by omega)
            rw [hl2] at h2
            exact h2
          have hsl : ∀ W, (Instr.slice 35 (.slice la ls.length lc) (some (.int .i64 (m : Int))) (some (.int .i64 (q : Int))) none).run Tryz.prog W = .ok (slcS 7 la lc m q) W := slcS_lh Tryz.underlying35 infoVL la ls.length lc m q .i64 .i64 hmq hqc
          have hsl2 : ∀ W, (Instr.sliceAt 35 (.slice la ls.length lc) (some (.int .i64 (m : Int))) (some (.int .i64 (q : Int))) none).run Tryz.prog W = .ok (slcS 7 la lc m q) W := fun W => by
            rw [run_sliceAt_slice W _ _ _ _ _ (by rw [elem_of Tryz.underlying35]; exact Tryz.underlying35)]; exact hsl W
          have hl3 : ((ll.take q).drop m).length = q - m := by rw [List.length_drop, List.length_take]; omega
          have hC : Calls Tryz.prog 63 #[slcS 7 la lc m q] W0 (ValS (fun k => (S k ∧ k < w.heap.size) ∨ W0.heap.size ≤ k) (listV (((ll.take q).drop m).map Prod.fst)) W0) := by
            have h := plist_any (S := fun k => S k ∧ k < w.heap.size) (a := if lc = m then la else la.map fun x => x.add (m * 7)) (c := lc - m) (xl := (ll.take q).drop m) (w := W0) (by rw [hl3]; exact hr2) (fun p hp => hrl p (List.mem_of_mem_take (List.mem_of_mem_drop hp))) (by rw [hl3]; omega)
            rw [hl3] at h
            exact h
          have HZ0 : Hid (getS ⟨5, m, q, .mk k9 n9 t9 fs9 r9 ls9 ps9⟩ (.mk k n t fs r ls ps) = (listV (((ll.take q).drop m).map Prod.fst), true)) := by
            show _ = _
            rw [getS_5 (v := .mk k n t fs r ls ps) ⟨show k = 4 by have := HKB.out; simpa using this, by omega, by omega, by simp only [V.ls]; omega⟩]
            simp only [V.ls, Int.toNat_natCast]
            rw [hll, List.map_drop, List.map_take]
          generalize listV (((ll.take q).drop m).map Prod.fst) = x at hC HZ0
          obtain ⟨k8, n8, t8, fs8, r8, ls8, ps8⟩ := x
          have HZ : Hid (getS ⟨5, m, q, .mk k9 n9 t9 fs9 r9 ls9 ps9⟩ (.mk k n t fs r ls ps) = (.mk k8 n8 t8 fs8 r8 ls8 ps8, true)) := HZ0.out
          have HC := Lib.hid hC
          clear HBI HNB HZ0 hC hll hrow hrl hr2 hl3 hlen hn0 hn1 hn2 hqc hnb
          have hmq2 : (m : Int) ≤ (q : Int) := by omega
          have hql2 : (q : Int) ≤ (ls.length : Int) := by omega
          generalize slcS 7 la lc m q = SV at hsl hsl2 HC
          clear HR HR9 x3 x4 x5 x6 x7 x8 x9 y1 y2 y3 y6
          go_enter Tryz.func40, Tryz.ntmps40
          go_upto_region 1 with fail
          rw [HW.out, HG.out]
          clear HW HG
          go_wp2_with fail
          refine (HIn.out _).mono ?_
          rintro e w2 ⟨rfl, rfl⟩
          clear HIn
          go_wp2_with fail
          refine HC.out.mono ?_
          intro e w3 hv
          obtain ⟨fa8, la8, pa8, fc8, lc8, pc8, rfl, hr8, hb3⟩ := hv.lit
          obtain ⟨-, -, hcz3, hbw3⟩ := HX.out w3 hb3
          have HBW3 := Lib.hid hbw3
          have HLT := Lib.hid HCZ.out.lt
          have HRZ : Hid (∀ w9, w3.grownBy w9 (some (g + 1 + 1)) → Rep (fun k => S k ∨ w.heap.size ≤ k) w9 (.mk k8 n8 t8 fs8 r8 ls8 ps8) ⟨fa8, fc8, la8, lc8, pa8, pc8⟩) := fun w9 hg9 => (hr8.grew (Grew.ofGrown hg9) (fun k hk hm => by
            rw [show k = g + 1 + 1 from by simpa using hm] at hk
            have := HGS.out
            have := HLT.out
            rcases hk with hk | hk
            · have := hk.2; omega
            · omega)).mono (fun k hk => by
              rcases hk with hk | hk
              · exact .inl hk.1
              · exact .inr (Nat.le_trans HBW.out.size hk))
          clear HC HX hv hr8 hb3 hbw3 HCZ
          have hoA : (#[.int .i64 k8, .int .u64 (n8 : Int), .string (strB t8), .slice fa8 fs8.length fc8, .string (strB r8), .slice la8 ls8.length lc8, .slice pa8 ps8.length pc8] : Array Value).all (·.oneCell') = true := by simp [Value.oneCell']
          have hsA : (#[.int .i64 k8, .int .u64 (n8 : Int), .string (strB t8), .slice fa8 fs8.length fc8, .string (strB r8), .slice la8 ls8.length lc8, .slice pa8 ps8.length pc8] : Array Value).size = 7 := rfl
          skip
          go_wp2_with (refine wpList_storeW rfl 38 _ _ rfl (g + 1 + 1) (by rfl) (#[.int .i64 k8, .int .u64 (n8 : Int), .string (strB t8), .slice fa8 fs8.length fc8, .string (strB r8), .slice la8 ls8.length lc8, .slice pa8 ps8.length pc8] : Array Value) (by rfl) 38 _ (hcz3) rfl (by rw [hsA]; exact sizeVL) hoA ?_; intro w9 hc9 hg9)
          have hb9 := HBW3.out.grown hg9 HBW3.out.size (fun k hk => by cases hk; exact HGS.out)
          refine bodyPost_ret (v := .tuple #[.agg (#[.int .i64 k8, .int .u64 (n8 : Int), .string (strB t8), .slice fa8 fs8.length fc8, .string (strB r8), .slice la8 ls8.length lc8, .slice pa8 ps8.length pc8] : Array Value), .bool true]) (results_row_tmp rfl _ w9 (g + 1 + 1) 38 (#[.int .i64 k8, .int .u64 (n8 : Int), .string (strB t8), .slice fa8 fs8.length fc8, .string (strB r8), .slice la8 ls8.length lc8, .slice pa8 ps8.length pc8] : Array Value) (0, 0) _ (.bool true) rfl rfl hc9 Tryz.underlying38 rfl (by rw [hsA]; exact sizeVL)) rfl ?_
          rw [HZ.out]
          exact GetP.val (HRZ.out w9 hg9) hb9

  have k5 : (K == 5) = false := by simpa using h5
  have HZ : Hid (getS ⟨K, N, T, .mk k9 n9 t9 fs9 r9 ls9 ps9⟩ (.mk k n t fs r ls ps) = (V.none, false)) := getS_o h1 h2 h3 h4 h5
  clear HR HR9 HX x3 x4 x5 x6 x7 x8 x9 y1 y2 y3 y6 h1 h2 h3 h4 h5
  go_enter Tryz.func40, Tryz.ntmps40
  go_upto_region 1 with fail
  rw [HW.out, HG.out]
  clear HW HG
  have hoA : (noneA).all (·.oneCell') = true := by simp [noneA, Value.oneCell']
  have hsA : (noneA).size = 7 := rfl
  go_upto_region 14 with fail
  go_wp2_with (refine wpList_storeW rfl 38 _ _ rfl (g + 1 + 1) (by rfl) (noneA) (by rfl) 38 _ (HCZ.out) rfl (by rw [hsA]; exact sizeVL) hoA ?_; intro w9 hc9 hg9)
  have hb9 := HBW.out.grown hg9 HBW.out.size (fun k hk => by cases hk; exact HGS.out)
  refine bodyPost_ret (v := .tuple #[.agg (noneA), .bool false]) (results_row_tmp rfl _ w9 (g + 1 + 1) 38 (noneA) (0, 0) _ (.bool false) rfl rfl hc9 Tryz.underlying38 rfl (by rw [hsA]; exact sizeVL)) rfl ?_
  rw [HZ.out]
  exact GetP.none hb9
end
end Go.Proofs.YtcjflglpkpkflaaGreatDoor
namespace Go.Proofs.YtcjflglpkpkflaaGreatDoor
open Go Go.RowKit
set_option linter.unusedVariables false
theorem wV_pos (v : V) : 1 ≤ wV v := by rw [wV_eq]; omega
theorem wL_take : ∀ (l : List V) (n : Nat), wL (l.take n) ≤ wL l
  | [], n => by simp
  | v :: l, 0 => by simp [wL]
  | v :: l, n + 1 => by have := wL_take l n; rw [List.take_succ_cons, wL, wL]; omega
theorem wL_drop : ∀ (l : List V) (n : Nat), wL (l.drop n) ≤ wL l
  | [], n => by simp
  | v :: l, 0 => by simp
  | v :: l, n + 1 => by have := wL_drop l n; rw [List.drop_succ_cons, wL]; omega
theorem wV_none : wV V.none = 1 := by simp [V.none, wV, wF, wL, wP]
theorem getS_w (s : PS) (v : V) : wV (getS s v).1 ≤ wV v := by
  have h1 := wV_pos v
  have hE := wV_eq v
  unfold getS
  split
  · show wV (getV v s.n) ≤ _
    unfold getV
    split
    · rcases findA_mem (c := fieldC s.n) (f := Prod.snd) (d := V.none) v.fs with e | ⟨x, hx, e⟩
      · rw [e, wV_none]; exact h1
      · rw [e]; have := wF_mem v.fs x hx; omega
    · rw [wV_none]; exact h1
  · split
    · show wV (findV v s.v) ≤ _
      unfold findV
      split
      · rcases findA_mem (c := pairC s.v) (f := Prod.snd) (d := V.none) v.ps with e | ⟨x, hx, e⟩
        · rw [e, wV_none]; exact h1
        · rw [e]; have := wP_mem v.ps x hx; omega
      · rw [wV_none]; exact h1
    · split
      · show wV ((v.ls[s.n.toNat]?).getD V.none) ≤ _
        cases hq : v.ls[s.n.toNat]? with
        | none => show wV V.none ≤ _; rw [wV_none]; exact h1
        | some x => show wV x ≤ _; have := wL_mem v.ls x (List.mem_of_getElem? hq); omega
      · split
        · show wV (strV v.r) ≤ _
          simp only [strV, wV, wF, wL, wP, List.length_nil]; omega
        · split
          · show wV (listV _) ≤ _
            unfold listV
            split
            · rw [wV_none]; exact h1
            · have := wL_drop (v.ls.take s.t.toNat) s.n.toNat
              have := wL_take v.ls s.t.toNat
              simp only [wV, wF, wP, List.length_nil]; omega
          · show wV V.none ≤ _; rw [wV_none]; exact h1
theorem GetP.lit {SS : Nat → Prop} {w w' : World} {e : Ending} {k : Int} {n : Nat} {t r : List UInt8} {fs : List (Int × V)} {ls : List V} {ps : List (V × V)} {b : Bool} (h : GetP SS (.mk k n t fs r ls ps, b) w e w') : ∃ (fa la pa : Option Addr) (fc lc pc : Nat), e = .returned (.tuple #[.agg #[.int .i64 k, .int .u64 (n : Int), .string (strB t), .slice fa fs.length fc, .string (strB r), .slice la ls.length lc, .slice pa ps.length pc], .bool b]) ∧ Rep SS w' (.mk k n t fs r ls ps) ⟨fa, fc, la, lc, pa, pc⟩ ∧ Below w.heap.size w w' := by
  obtain ⟨⟨fa, fc, la, lc, pa, pc⟩, h1, h2, h3⟩ := h
  exact ⟨fa, la, pa, fc, lc, pc, by rw [h1, vG_lit], h2, h3⟩
/-- where a look along a path stands -/
def WayI (v0 : V) (p : List SQ) (w : World) (g m : Nat) (x : V) (a : A3) (b : Bool) (wr : World) : Prop :=
  CellsAt wr g 38 (vC (x, a)).toArray ∧ Rep (fun k => k ≠ g ∧ k ≠ g + 1) wr x a ∧ getP v0 (p.map Prod.fst) = getA x b ((p.drop m).map Prod.fst) ∧ rightV x = true ∧ wV x ≤ 1000000 ∧ CellsAt wr (g + 1) 38 noneA ∧ Below w.heap.size w wr
theorem lens_of_w {k : Int} {n : Nat} {t r : List UInt8} {fs : List (Int × V)} {ls : List V} {ps : List (V × V)} (h : wV (.mk k n t fs r ls ps) ≤ 1000000) : fs.length ≤ 1000000 ∧ ls.length ≤ 1000000 ∧ ps.length ≤ 1000000 := by
  rw [wV_eq] at h
  have h1 := wF_len fs
  have h2 := wL_len ls
  have h3 := wP_len ps
  simp only [V.fs, V.ls, V.ps] at h
  exact ⟨by omega, by omega, by omega⟩
section
variable {k : Int} {n : Nat} {t r : List UInt8} {fs : List (Int × V)} {ls : List V} {ps : List (V × V)} {fa la pa : Option Addr} {fc lc pc : Nat} {S S2 : Nat → Prop} {w : World} {ap : Option Addr} {cp : Nat} {p : List SQ}
set_option maxRecDepth 100000 in
set_option maxHeartbeats 16000000 in
theorem pget_any (hr : Rep S w (.mk k n t fs r ls ps) ⟨fa, fc, la, lc, pa, pc⟩) (hp : PathR S2 w (.slice ap p.length cp) p) (hR : rightV (.mk k n t fs r ls ps) = true) (hw : wV (.mk k n t fs r ls ps) ≤ 1000000) :
    Calls Tryz.prog 14 #[.agg #[.int .i64 k, .int .u64 (n : Int), .string (strB t), .slice fa fs.length fc, .string (strB r), .slice la ls.length lc, .slice pa ps.length pc], .slice ap p.length cp] w (GetP (fun _ => True) (getP (.mk k n t fs r ls ps) (p.map Prod.fst)) w) := by
  have hpl := hp.len
  unfold maxLen at hpl
  obtain ⟨W0, hW0⟩ : ∃ W0, W0 = (w.alloc (.cells #[.int .i64 k, .int .u64 (n : Int), .string (strB t), .slice fa fs.length fc, .string (strB r), .slice la ls.length lc, .slice pa ps.length pc] 38)).alloc (.cells noneA 38) := ⟨_, rfl⟩
  obtain ⟨g, hg⟩ : ∃ g, g = w.heap.size := ⟨_, rfl⟩
  have hb0 : Below w.heap.size w W0 := by rw [hW0]; exact ((Below.refl _ _).alloc (Nat.le_refl _) _).alloc (by simp) _
  have hcx : CellsAt W0 g 38 #[.int .i64 k, .int .u64 (n : Int), .string (strB t), .slice fa fs.length fc, .string (strB r), .slice la ls.length lc, .slice pa ps.length pc] := by rw [hW0, hg]; exact (CellsAt.new w _ _).stays ((Below.refl _ _).alloc (Nat.le_refl _) _)
  have hcz : CellsAt W0 (g + 1) 38 noneA := by
    have := CellsAt.new (w.alloc (.cells #[.int .i64 k, .int .u64 (n : Int), .string (strB t), .slice fa fs.length fc, .string (strB r), .slice la ls.length lc, .slice pa ps.length pc] 38)) noneA 38
    rw [hW0, hg]
    simpa using this
  have HI0 : Hid (WayI (.mk k n t fs r ls ps) p w g 0 (.mk k n t fs r ls ps) ⟨fa, fc, la, lc, pa, pc⟩ (k != 0) W0) := ⟨hcx, (hr.lt.stays hb0).mono (fun k hk => by have := hk.2; omega), rfl, hR, hw, hcz, hb0⟩
  have HP : Hid (∀ W, Below w.heap.size w W → PathR S2 W (.slice ap p.length cp) p) := fun W h => hp.stays h
  have c0 := hcx.cell 0 (v := .int .i64 k) rfl
  have HW : Hid ((w.alloc (.cells #[.int .i64 k, .int .u64 (n : Int), .string (strB t), .slice fa fs.length fc, .string (strB r), .slice la ls.length lc, .slice pa ps.length pc] 38)).alloc (.cells #[.int .i64 0, .int .u64 0, .string ⟨#[]⟩, .slice none 0 0, .string ⟨#[]⟩, .slice none 0 0, .slice none 0 0] 38) = W0) := hW0.symm
  have HG : Hid (w.heap.size = g) := hg.symm
  have HGG := HG
  clear hr hp hR hw hW0 hg hb0 hcx hcz
  go_enter Tryz.func14, Tryz.ntmps14
  go_upto_region 1 with fail
  rw [HW.out, HG.out]
  clear HW HG
  go_wp2_with fail
  clear c0
  go_loopw [6, 14] (fun is i wr => ∃ (m : Nat) (x : V) (a : A3) (b : Bool), m ≤ p.length ∧ i = .int .i64 m ∧ is = .bool b ∧ Hid (WayI (.mk k n t fs r ls ps) p w g m x a b wr)) (fun _ i _ => p.length - (intOf i).toNat)
  case atStart => exact ⟨0, .mk k n t fs r ls ps, ⟨fa, fc, la, lc, pa, pc⟩, (k != 0), Nat.zero_le _, rfl, rfl, HI0.out⟩
  case round =>
    clear HI0
    obtain ⟨m, ⟨k8, n8, t8, fs8, r8, ls8, ps8⟩, ⟨fa8, fc8, la8, lc8, pa8, pc8⟩, b, hm, rfl, rfl, HI⟩ := hrel
    obtain ⟨i1, i2, i3, i4, i5, i6, i7⟩ := HI.out
    replace i1 : CellsAt wr g 38 #[.int .i64 k8, .int .u64 (n8 : Int), .string (strB t8), .slice fa8 fs8.length fc8, .string (strB r8), .slice la8 ls8.length lc8, .slice pa8 ps8.length pc8] := i1
    by_cases h1 : m < p.length
    · obtain ⟨⟨⟨K, N, T, ⟨k', n', t', fs', r', ls', ps'⟩⟩, ⟨fa', fc', la', lc', pa', pc'⟩⟩, hq⟩ : ∃ x, p[m]? = some x := ⟨_, List.getElem?_eq_getElem h1⟩
      obtain ⟨bq, oq, rfl, hrx, x0, x1, x2, c0, c1, c2, c3, c4, c5, c6⟩ := (HP.out wr i7).at hq
      obtain ⟨l1, l2, l3⟩ := lens_of_w i5
      have HC : Hid (∀ o : Obj, Calls Tryz.prog 40 #[.agg #[.int .i64 K, .int .i64 N, .int .i64 T, .int .i64 k', .int .u64 (n' : Int), .string (strB t'), .slice fa' fs'.length fc', .string (strB r'), .slice la' ls'.length lc', .slice pa' ps'.length pc'], .agg #[.int .i64 k8, .int .u64 (n8 : Int), .string (strB t8), .slice fa8 fs8.length fc8, .string (strB r8), .slice la8 ls8.length lc8, .slice pa8 ps8.length pc8]] (wr.alloc o) (GetP (fun k => (k ≠ g ∧ k ≠ g + 1) ∨ (wr.alloc o).heap.size ≤ k) (getS ⟨K, N, T, .mk k' n' t' fs' r' ls' ps'⟩ (.mk k8 n8 t8 fs8 r8 ls8 ps8)) (wr.alloc o))) := fun o => by
        have hb : Below wr.heap.size wr (wr.alloc o) := (Below.refl _ _).alloc (Nat.le_refl _) _
        exact stepget_any (i2.stays hb) (hrx.2.stays hb) i4 hrx.1.2.1 hrx.1.2.2 l1 l2 l3
      have hI : getP (.mk k n t fs r ls ps) (p.map Prod.fst) = if (getS ⟨K, N, T, .mk k' n' t' fs' r' ls' ps'⟩ (.mk k8 n8 t8 fs8 r8 ls8 ps8)).2 then getA (getS ⟨K, N, T, .mk k' n' t' fs' r' ls' ps'⟩ (.mk k8 n8 t8 fs8 r8 ls8 ps8)).1 true ((p.drop (m + 1)).map Prod.fst) else (V.none, false) := by
        rw [i3, List.drop_eq_getElem_cons h1, List.map_cons, getA, (List.getElem?_eq_some_iff.1 hq).2]
      have hgr := getS_right i4 ⟨K, N, T, .mk k' n' t' fs' r' ls' ps'⟩
      have hgw := getS_w ⟨K, N, T, .mk k' n' t' fs' r' ls' ps'⟩ (.mk k8 n8 t8 fs8 r8 ls8 ps8)
      generalize getS ⟨K, N, T, .mk k' n' t' fs' r' ls' ps'⟩ (.mk k8 n8 t8 fs8 r8 ls8 ps8) = ob at HC hI hgr hgw
      obtain ⟨⟨k7, n7, t7, fs7, r7, ls7, ps7⟩, b7⟩ := ob
      have HGR : Hid (rightV (.mk k7 n7 t7 fs7 r7 ls7 ps7) = true ∧ wV (.mk k7 n7 t7 fs7 r7 ls7 ps7) ≤ 1000000) := ⟨hgr, Nat.le_trans hgw i5⟩
      have HIZ := Lib.hid hI
      have v0 := i1.cell 0 (v := .int .i64 k8) rfl
      have v1 := i1.cell 1 (v := .int .u64 (n8 : Int)) rfl
      have v2 := i1.cell 2 (v := .string (strB t8)) rfl
      have v3 := i1.cell 3 (v := .slice fa8 fs8.length fc8) rfl
      have v4 := i1.cell 4 (v := .string (strB r8)) rfl
      have v5 := i1.cell 5 (v := .slice la8 ls8.length lc8) rfl
      have v6 := i1.cell 6 (v := .slice pa8 ps8.length pc8) rfl
      have hgl : g < wr.heap.size := i1.lt
      have I1 := Lib.hid i1
      have I6 := Lib.hid i6
      have I7 := Lib.hid i7
      clear i1 i2 i3 i4 i5 i6 i7 l1 l2 l3 hq hrx hI hgr hgw HI
      go_wp2_with fail
      refine (HC.out _).mono ?_
      intro e w3 hv
      obtain ⟨fa7, la7, pa7, fc7, lc7, pc7, rfl, hr7, hb3⟩ := hv.lit
      have hb4 : Below wr.heap.size wr w3 := ((Below.refl _ _).alloc (Nat.le_refl _) _).trans (hb3.mono (by simp))
      have hcg := I1.out.stays hb4
      have HCZ := Lib.hid (I6.out.stays hb4)
      have HB3 := Lib.hid (I7.out.trans (hb4.mono I7.out.size))
      have HR7 := Lib.hid hr7
      have hoA : (#[.int .i64 k7, .int .u64 (n7 : Int), .string (strB t7), .slice fa7 fs7.length fc7, .string (strB r7), .slice la7 ls7.length lc7, .slice pa7 ps7.length pc7] : Array Value).all (·.oneCell') = true := by simp [Value.oneCell']
      have hsA : (#[.int .i64 k7, .int .u64 (n7 : Int), .string (strB t7), .slice fa7 fs7.length fc7, .string (strB r7), .slice la7 ls7.length lc7, .slice pa7 ps7.length pc7] : Array Value).size = 7 := rfl
      have hgz : g + 1 < wr.heap.size := I6.out.lt
      have HGZ : Hid (∀ k, ((k ≠ g ∧ k ≠ g + 1) ∨ wr.heap.size + 1 ≤ k) → (k ≠ g ∧ k ≠ g + 1)) := fun k hk => by
        rcases hk with hk | hk
        · exact hk
        · omega
      replace HR7 : Hid (Rep (fun k => k ≠ g ∧ k ≠ g + 1) w3 (.mk k7 n7 t7 fs7 r7 ls7 ps7) ⟨fa7, fc7, la7, lc7, pa7, pc7⟩) := HR7.out.mono (fun k hk => HGZ.out k (by simpa using hk))
      clear HC hv hr7 hb3 hb4 I1 I6 I7 HGZ v0 v1 v2 v3 v4 v5 v6 x0 x1 x2 c0 c1 c2 c3 c4 c5 c6 hgl hgz
      cases b7 with
      | false =>
        have HN : Hid (getP (.mk k n t fs r ls ps) (p.map Prod.fst) = (V.none, false)) := HIZ.out
        have hno := noneA_one
        have hsn : noneA.size = 7 := rfl
        go_wp2_with (first
          | (refine wpList_storeW rfl 38 _ _ rfl g (by rfl) (#[.int .i64 k7, .int .u64 (n7 : Int), .string (strB t7), .slice fa7 fs7.length fc7, .string (strB r7), .slice la7 ls7.length lc7, .slice pa7 ps7.length pc7] : Array Value) (by rfl) 38 _ hcg rfl (by rw [hsA]; exact sizeVL) hoA ?_; intro w4 hc4 hg4)
          | (refine wpList_storeW rfl 38 _ _ rfl (g + 1) (by rfl) noneA (by rfl) 38 _ (HCZ.out.grown hg4 (by simp)) rfl (by rw [hsn]; exact sizeVL) hno ?_; intro w5 hc5 hg5))
        have hgw : w.heap.size ≤ g := Nat.le_of_eq HGG.out
        have hb4 := HB3.out.grown hg4 HB3.out.size (fun k hk => by cases hk; exact hgw)
        have hb5 := hb4.grown hg5 hb4.size (fun k hk => by cases hk; omega)
        refine bodyPost_ret (v := .tuple #[.agg noneA, .bool false]) (results_row_tmp rfl _ w5 (g + 1) 38 noneA (0, 0) _ (.bool false) rfl rfl hc5 Tryz.underlying38 rfl (by rw [hsn]; exact sizeVL)) rfl ?_
        rw [HN.out]
        exact GetP.none hb5
      | true =>
        have HN : Hid (getP (.mk k n t fs r ls ps) (p.map Prod.fst) = getA (.mk k7 n7 t7 fs7 r7 ls7 ps7) true ((p.drop (m + 1)).map Prod.fst)) := HIZ.out
        go_wp2_with (refine wpList_storeW rfl 38 _ _ rfl g (by rfl) (#[.int .i64 k7, .int .u64 (n7 : Int), .string (strB t7), .slice fa7 fs7.length fc7, .string (strB r7), .slice la7 ls7.length lc7, .slice pa7 ps7.length pc7] : Array Value) (by rfl) 38 _ hcg rfl (by rw [hsA]; exact sizeVL) hoA ?_; intro w4 hc4 hg4)
        have hgw : w.heap.size ≤ g := Nat.le_of_eq HGG.out
        have hb4 := HB3.out.grown hg4 HB3.out.size (fun k hk => by cases hk; exact hgw)
        have HWY : Hid (WayI (.mk k n t fs r ls ps) p w g (m + 1) (.mk k7 n7 t7 fs7 r7 ls7 ps7) ⟨fa7, fc7, la7, lc7, pa7, pc7⟩ true w4) := ⟨hc4, HR7.out.grew (Grew.ofGrown hg4) (fun k hk hm => hk.1 (by simpa using hm)), HN.out, HGR.out.1, HGR.out.2, HCZ.out.grown hg4 (by simp), hb4⟩
        clear HN HGR HIZ HCZ HB3 HR7 hoA hsA hcg hc4 hg4 hgw hb4
        go_wp2_with fail
        go_roundw
        case rel => exact ⟨m + 1, _, _, true, h1, by go_num, rfl, HWY.out⟩
        case measure => simp only [intOf]; omega
    · have hI : getP (.mk k n t fs r ls ps) (p.map Prod.fst) = (.mk k8 n8 t8 fs8 r8 ls8 ps8, b) := by rw [i3, List.drop_of_length_le (by omega)]; rfl
      have HN := Lib.hid hI
      have I2 := Lib.hid i2
      have I7 := Lib.hid i7
      have hoA : (#[.int .i64 k8, .int .u64 (n8 : Int), .string (strB t8), .slice fa8 fs8.length fc8, .string (strB r8), .slice la8 ls8.length lc8, .slice pa8 ps8.length pc8] : Array Value).all (·.oneCell') = true := by simp [Value.oneCell']
      have hsA : (#[.int .i64 k8, .int .u64 (n8 : Int), .string (strB t8), .slice fa8 fs8.length fc8, .string (strB r8), .slice la8 ls8.length lc8, .slice pa8 ps8.length pc8] : Array Value).size = 7 := rfl
      clear i2 i3 i4 i5 i7 hI HI
      go_wp2_with (first
        | (refine wpList_loadW rfl 38 _ rfl g (by rfl) 38 _ i1 _ Tryz.underlying38 rfl (by rw [hsA]; exact sizeVL) ?_)
        | (refine wpList_storeW rfl 38 _ _ rfl (g + 1) (by rfl) (#[.int .i64 k8, .int .u64 (n8 : Int), .string (strB t8), .slice fa8 fs8.length fc8, .string (strB r8), .slice la8 ls8.length lc8, .slice pa8 ps8.length pc8] : Array Value) (by rfl) 38 _ i6 rfl (by rw [hsA]; exact sizeVL) hoA ?_; intro w5 hc5 hg5))
      have hgw : w.heap.size ≤ g := Nat.le_of_eq HGG.out
      have hb5 := I7.out.grown hg5 I7.out.size (fun k hk => by cases hk; omega)
      refine bodyPost_ret (v := .tuple #[.agg (#[.int .i64 k8, .int .u64 (n8 : Int), .string (strB t8), .slice fa8 fs8.length fc8, .string (strB r8), .slice la8 ls8.length lc8, .slice pa8 ps8.length pc8] : Array Value), .bool b]) (results_row_tmp rfl _ w5 (g + 1) 38 (#[.int .i64 k8, .int .u64 (n8 : Int), .string (strB t8), .slice fa8 fs8.length fc8, .string (strB r8), .slice la8 ls8.length lc8, .slice pa8 ps8.length pc8] : Array Value) (0, 0) _ (.bool b) rfl rfl hc5 Tryz.underlying38 rfl (by rw [hsA]; exact sizeVL)) rfl ?_
      rw [HN.out]
      exact GetP.val ((I2.out.grew (Grew.ofGrown hg5) (fun k hk hm => hk.2 (by simpa using hm))).any) hb5
end
end Go.Proofs.YtcjflglpkpkflaaGreatDoor
