/- Scripts, the document's: a line's act. -/
import Derived.Test.YtbcpciegdmminaaGreatDoorSrG
import Derived.Test.YtbcpciegdmminaaGreatDoorAnyK
namespace Go.Proofs.YtbcpciegdmminaaGreatDoor
open Go Go.RowKit
set_option linter.unusedVariables false
def sliceLen (v : Value) : Nat := match v with | .slice _ l _ => l | _ => 0
/-- the kind that the first words tell -/
def kindTo (x : Bs) (m : Nat) : Int := if kindOf x < m then kindOf x else 0
theorem kindTo_step (x : Bs) (m : Nat) (h : m < 12) : kindTo x (m + 1) = if 0 < m ∧ wordsL.getD m [] = x then (m : Int) else kindTo x m := by
  have hn : wordsL.Nodup := by decide
  have hl : wordsL.length = 12 := rfl
  unfold kindTo
  have hb := kind_bd x
  by_cases hm : x ∈ wordsL
  · have hk : kindOf x = (wordsL.idxOf x : Nat) := by unfold kindOf; rw [if_pos hm]
    have hlt := List.idxOf_lt_length_of_mem hm
    have hget : wordsL.getD (wordsL.idxOf x) [] = x := by
      rw [List.getD_eq_getElem?_getD, List.getElem?_eq_getElem hlt]
      exact List.getElem_idxOf hlt
    by_cases he : wordsL.idxOf x = m
    · rw [he] at hget hk
      by_cases h0 : 0 < m
      · rw [if_pos (show 0 < m ∧ wordsL.getD m [] = x from ⟨h0, hget⟩), hk, if_pos (by omega)]
      · rw [if_neg (show ¬ (0 < m ∧ wordsL.getD m [] = x) from fun e => h0 e.1), hk]
        obtain rfl : m = 0 := by omega
        rfl
    · have hne : ¬ (0 < m ∧ wordsL.getD m [] = x) := fun e => he (by
        have h1 : wordsL[m]? = some x := by
          have := e.2
          rw [List.getD_eq_getElem?_getD, List.getElem?_eq_getElem (by omega)] at this
          rw [List.getElem?_eq_getElem (by omega)]
          exact congrArg some this
        have h2 : wordsL[wordsL.idxOf x]? = some x := by rw [List.getElem?_eq_getElem hlt]; exact congrArg some (List.getElem_idxOf hlt)
        exact (List.getElem?_inj hlt hn).1 (h2.trans h1.symm))
      rw [if_neg hne, hk]
      by_cases hlt2 : wordsL.idxOf x < m
      · rw [if_pos (by omega), if_pos (by omega)]
      · rw [if_neg (by omega), if_neg (by omega)]
  · have hk : kindOf x = 0 := by unfold kindOf; rw [if_neg hm]
    have hne : ¬ (0 < m ∧ wordsL.getD m [] = x) := fun e => hm (by
      rw [← e.2, List.getD_eq_getElem?_getD, List.getElem?_eq_getElem (by omega)]
      exact List.getElem_mem _)
    rw [if_neg hne, hk]
    split <;> split <;> rfl
def wsPad (ws : List Bs) (xs : List Bs) : Prop := ∃ m, xs = ws ++ List.replicate m []
theorem wsPad_get {ws xs : List Bs} (h : wsPad ws xs) (j : Nat) : xs.getD j [] = ws.getD j [] := by
  obtain ⟨m, rfl⟩ := h
  rw [List.getD_eq_getElem?_getD, List.getD_eq_getElem?_getD]
  by_cases hj : j < ws.length
  · rw [List.getElem?_append_left hj]
  · rw [List.getElem?_append_right (by omega), List.getElem?_replicate, List.getElem?_eq_none (by omega : ws.length ≤ j)]
    split <;> rfl
/-- the act that the line seems to tell lies in block p -/
def GotR (Wb wx : World) (p : Nat) (A : Ac) : Prop := ∃ vk vt, CellsAt wx p 31 (rCells A.k A.a A.b A.c A.n A.bs vk vt) ∧ RActI wx vk vt A.keep A.torn ∧ Below Wb.heap.size Wb wx ∧ ∀ q, vk.ownBlock = some q ∨ vt.ownBlock = some q → Wb.heap.size ≤ q
theorem below_alH {W1 W : World} (h : Below W1.heap.size W1 W) (o : Obj) : Below W1.heap.size W1 (W.alloc o) := h.alloc h.size o
theorem gotR_of {Wb W : World} {p : Nat} {k a b c n : Int} {bs : Bs} (h : CellsAt W p 31 (rCells k a b c n bs nilS nilS)) (hb : Below Wb.heap.size Wb W) {A : Ac} (hA : A = ⟨k, a, b, c, n, bs, [], []⟩) : GotR Wb W p A :=
  ⟨nilS, nilS, by rw [hA]; exact h, ⟨by rw [hA]; exact RowL.nil _, by rw [hA]; exact RowS.nil _⟩, hb, fun q hq => by rcases hq with hq | hq <;> cases hq⟩
section
variable {W : World} {p : Nat} {T : TypeId} {k a b c n : Int} {bs : Bs} {vk vt : Value} (h : CellsAt W p T (rCells k a b c n bs vk vt))
include h
theorem rset1 (z : Int) : CellsAt (W.setCell ⟨p, 1, none⟩ (.int .i64 z)) p T (rCells k z b c n bs vk vt) := by have := h.set 1 (.int .i64 z); simpa [rCells] using this
theorem rset2 (z : Int) : CellsAt (W.setCell ⟨p, 2, none⟩ (.int .i64 z)) p T (rCells k a z c n bs vk vt) := by have := h.set 2 (.int .i64 z); simpa [rCells] using this
theorem rset3 (z : Int) : CellsAt (W.setCell ⟨p, 3, none⟩ (.int .i64 z)) p T (rCells k a b z n bs vk vt) := by have := h.set 3 (.int .i64 z); simpa [rCells] using this
theorem rset4 (z : Int) : CellsAt (W.setCell ⟨p, 4, none⟩ (.int .i64 z)) p T (rCells k a b c z bs vk vt) := by have := h.set 4 (.int .i64 z); simpa [rCells] using this
theorem rset5 (z : Bs) : CellsAt (W.setCell ⟨p, 5, none⟩ (.string (strB z))) p T (rCells k a b c n z vk vt) := by have := h.set 5 (.string (strB z)); simpa [rCells] using this
theorem rset6 (z : Value) : CellsAt (W.setCell ⟨p, 6, none⟩ z) p T (rCells k a b c n bs z vt) := by have := h.set 6 z; simpa [rCells] using this
theorem rset7 (z : Value) : CellsAt (W.setCell ⟨p, 7, none⟩ z) p T (rCells k a b c n bs vk z) := by have := h.set 7 z; simpa [rCells] using this
end
theorem gotR_of9 {Wb W : World} {p : Nat} {vk vt : Value} {KE : List Int} {TO : List (Int × Bs)} (h : CellsAt W p 31 (rCells 9 0 0 0 0 [] vk vt)) (hk : RowL IV W vk KE) (ht : RowS rtC W vt TO) (hb : Below Wb.heap.size Wb W) (hq : ∀ q, vk.ownBlock = some q ∨ vt.ownBlock = some q → Wb.heap.size ≤ q) {A : Ac} (hA : A = ⟨9, 0, 0, 0, 0, [], KE, TO⟩) : GotR Wb W p A :=
  ⟨vk, vt, by rw [hA]; exact h, ⟨by rw [hA]; exact hk, by rw [hA]; exact ht⟩, hb, hq⟩
theorem flat_one {α : Type} (f : α → Value) : ∀ xs : List α, xs.flatMap (fun z => [f z]) = xs.map f
  | [] => rfl
  | x :: xs => by rw [List.flatMap_cons, flat_one f xs]; rfl
theorem ownI_S {E : TypeId} {B : Nat} {w : World} {v : Value} {xs : List Int} (h : OwnL E IV B w v xs) : OwnS E 1 (fun z => [IV z]) B w v xs := by unfold OwnS; rw [flat_one]; exact h
theorem ownS_I {E : TypeId} {B : Nat} {w : World} {v : Value} {xs : List Int} (h : OwnS E 1 (fun z => [IV z]) B w v xs) : OwnL E IV B w v xs := by unfold OwnS at h; rw [flat_one] at h; exact h
theorem step_pushS {α : Type} {cs : α → List Value} {E T : TypeId} {size B : Nat} {w : World} {v : Value} {xs : List α} {P : Program} {ops : Array Oper} {o : Oper} {a : Act} {K : Act → World → Prop} {Q : Exit → Act → World → Prop} {EE : Prop} (hcs : ∀ x, (cs x).length = size) (hf : ∀ x : α, (cs x).all Value.oneCell' = true) {z : Value} {bytes : Nat} (ht : P.underlying T = some (.slice E))
    (hinf : (P.info? E).map (fun i => (i.zero, i.size, i.bytes)) = some (some z, size, bytes)) (hz : z.cells.size = size) (hbs : bytes ≤ 1000) (hown : OwnS E size cs B w v xs) (x : α) (h63 : xs.length ≤ 100000000) (hbase : B ≤ w.heap.size)
    (hgd : o.guard = none) (s y : Operand) (ho : o.op = .call { callee := .builtin .append, args := #[s, y], argTypes := #[T, T] }) (hs : a.eval s = v)
    (us : Array Value) (e' : TypeId) (c : Nat) (hx : a.eval y = .slice (some ⟨w.heap.size, 0, none⟩) 1 c) (hu : us.toList = cs x)
    (h : ∀ v' w', OwnS E size cs B w' v' (xs ++ [x]) → w.grownBy w' v.ownBlock → NewOrSame w v v' → K (a.put o.dst v') w') :
    if Region.wanted o (yielded ops a.tmps) = true then Oper.wp P o a (w.alloc (.cells us e')) K Q else EE := by
  have hw : Region.wanted o (yielded ops a.tmps) = true := by simp [Region.wanted, hgd]
  rw [if_pos hw]
  obtain ⟨i, hi, hz0, hz1, hz2⟩ := info_parts hinf
  have hul : us.size = size := by rw [← Array.length_toList, hu, hcs]
  have hsrc : Src P size T (.slice (some ⟨w.heap.size, 0, none⟩) 1 c) 1 us.toList (w.alloc (.cells us e')) := by
    refine Src.ofSlice _ ht ⟨w.heap.size, 0, none⟩ 1 c us.toList (by simpa using hul) ?_ (fun u hq => List.all_eq_true.1 (hf x) u (by rw [← hu]; exact hq))
    intro j u hj
    have hadd : (⟨w.heap.size, 0, none⟩ : Addr).add j = ⟨w.heap.size, j, none⟩ := by unfold Addr.add; split <;> simp_all
    rw [hadd, cell_of_row (w.alloc (.cells us e')) w.heap.size j us e' (0, 0) (heap_alloc_new w _)]
    simpa using hj
  have hby : (xs.length + 1) * bytes ≤ 140737488355328 := by
    have := Nat.mul_le_mul (show xs.length + 1 ≤ 100000001 by omega) hbs
    omega
  obtain ⟨v', w', h1, h2, h3, h4, h5⟩ := run_append_src (w.alloc (.cells us e')) B T T o.type E i z size bytes ht hi hz0 hz1 hz2 hz v xs.length (xs.flatMap cs) (World.ownsRow.alloc hown _) _ 1 us.toList hsrc (by unfold maxLen; omega) hby (by simp; omega)
  refine Lib.wp_append_run _ s y T T ho v _ hs hx v' w' h1 (h v' w' ?_ (grownBy_trans (World.grownBy_alloc w _ _) h3) (fun k hk => ?_))
  · unfold OwnS
    rw [hu] at h2
    simpa using h2
  · rcases h4 k hk with h' | h'
    · exact .inl h'
    · exact .inr (by simp at h'; omega)
set_option maxRecDepth 100000 in
set_option maxHeartbeats 8000000 in
theorem rparse_any (line : Bs) (hl : line.length ≤ 1000) (w : World) :
    Calls Tryz.prog 18 #[.string (strB line)] w fun e w' => ∃ vk vt A, A = (refP line).getD (ac0 0) ∧ e = .returned (.tuple #[.agg (rCells A.k A.a A.b A.c A.n A.bs vk vt), .bool (refP line).isSome]) ∧ RActI w' vk vt A.keep A.torn ∧ (∀ q, vk.ownBlock = some q ∨ vt.ownBlock = some q → w.heap.size ≤ q) ∧ Below w.heap.size w w' := by
  obtain ⟨ws, hws⟩ : ∃ ws, ws = spl 32 line := ⟨_, rfl⟩
  have HLA : Hid (lenA line = lenF (kindOf (ws.getD 0 [])) ws) := by show _ = _; rw [hws]; rfl
  have HRP : Hid (refP line = if rightA (lenA line) && lineA (lenA line) == line then some (lenA line) else none) := rfl
  have HWN : Hid (ws ≠ []) := by show _ ≠ _; rw [hws]; exact spl_ne 32 line
  have HWL : Hid (∀ x ∈ ws, x.length ≤ 1000) := fun x hx => Nat.le_trans (spl_le 32 line x (hws ▸ hx)) hl
  have HPN : Hid (ws.length ≤ 1001) := by show _ ≤ _; have := spl_len 32 line; rw [hws]; omega
  obtain ⟨W0, hW0⟩ : ∃ W0, W0 = w.alloc (.cells (rCells 0 0 0 0 0 [] nilS nilS) 31) := ⟨_, rfl⟩
  obtain ⟨r, hr⟩ : ∃ r, r = w.heap.size := ⟨_, rfl⟩
  have hb0 : Below w.heap.size w W0 := by rw [hW0]; exact (Below.refl _ _).alloc (Nat.le_refl _) _
  have hc0 : CellsAt W0 r 31 (rCells 0 0 0 0 0 [] nilS nilS) := by rw [hW0, hr]; exact CellsAt.new w _ _
  have hpart := rpart_any line 32 (by omega) W0
  rw [← hws] at hpart
  have HPART := Lib.hid hpart
  have HW0 : Hid (W0 = w.alloc (.cells #[.int .i64 0, .int .i64 0, .int .i64 0, .int .i64 0, .int .i64 0, .string ⟨#[]⟩, .slice none 0 0, .slice none 0 0] 31)) := hW0
  have HR := Lib.hid hr
  have HB0 := Lib.hid hb0
  have HC0 := Lib.hid hc0
  have HLN := Lib.hid hl
  clear hW0 hr hb0 hc0 hpart hws hl
  go_enter Tryz.func18, Tryz.ntmps18
  go_upto_region 1 with fail
  rw [← HW0.out, ← HR.out]
  go_wp2_with fail
  refine HPART.out.mono ?_
  rintro e w1 ⟨g1, cap1, rfl, ho1, hb1⟩
  have HO1 := Lib.hid ho1
  have HB1 := Lib.hid hb1
  clear ho1 hb1 HPART
  go_wp2_with fail
  go_loopw [4] (fun v wr => ∃ xs, OwnL 9 SV W0.heap.size wr v xs ∧ Hid (wsPad ws xs) ∧ Hid (Below W0.heap.size W0 wr)) (fun v _ => 5 - sliceLen v)
  case atStart => exact ⟨ws, HO1.out, ⟨0, by simp⟩, HB1.out⟩
  case round =>
    obtain ⟨xs, how, HPD, HBR⟩ := hrel
    have hne : xs ≠ [] := by obtain ⟨m, h⟩ := HPD.out; rw [h]; simp [HWN.out]
    obtain ⟨g, cap, rfl, hgB, hglt, hcp, hfz, hcl⟩ := OwnL.block how hne
    have HOW := Lib.hid how
    clear how
    by_cases h5 : xs.length < 5
    · clear hcl hfz hne
      go_wp2_with (at_builtin; go_must (refine wpList_pushL SV_one Tryz.underlying33 infoSt rfl (by decide) HOW.out [] (by omega) HBR.out.size rfl _ _ rfl (by rfl) _ _ _ (by rfl) (by rfl) ?_))
      intro v3 w3 ho3 hg3 hn3
      have hb3 := below_own HBR.out HOW.out hg3 HBR.out.size
      have hwp3 : wsPad ws (xs ++ [[]]) := by
        obtain ⟨m, h⟩ := HPD.out
        exact ⟨m + 1, by rw [h, List.replicate_succ', List.append_assoc]⟩
      obtain ⟨g3, c3, rfl, -, -, -, -, -⟩ := OwnL.block ho3 (by simp)
      have HO3 := Lib.hid ho3
      have HB3 := Lib.hid hb3
      have HP3 := Lib.hid hwp3
      clear ho3 hb3 hg3 hn3 hwp3
      go_wp2_with fail
      go_roundw
      case rel => exact ⟨_, HO3.out, HP3.out, HB3.out⟩
      case measure => simp only [sliceLen, List.length_append, List.length_singleton]; omega
    · obtain ⟨Wb, rfl⟩ : ∃ Wb : World, Wb = wr := ⟨_, rfl⟩
      have hbw : Below w.heap.size w Wb := HB0.out.trans (HBR.out.mono HB0.out.size)
      have HCW : Hid (∀ W, Below Wb.heap.size Wb W → ∀ j, j < 5 → W.cell? ⟨g, j, none⟩ = some (.string (strB (ws.getD j [])))) := fun W h j hj => by
        have h1 := OwnL.stays HOW.out h
        obtain ⟨g', c', e', -, -, -, -, h2⟩ := OwnL.block h1 hne
        cases e'
        rw [← wsPad_get HPD.out j]
        exact h2 j _ (by rw [List.getD_eq_getElem?_getD, List.getElem?_eq_getElem (by omega)]; rfl)
      have HCR : Hid (CellsAt Wb r 31 (rCells 0 0 0 0 0 [] nilS nilS)) := HC0.out.stays HBR.out
      have HBW := Lib.hid hbw
      have HGL := Lib.hid hglt
      obtain ⟨N, hN⟩ : ∃ N, N = xs.length := ⟨_, rfl⟩
      rw [← hN] at h5 ⊢
      have hN5 : 5 ≤ N := by omega
      clear hcl hfz hne hbw hglt hN h5 HPD HOW hcp hgB HBR HC0
      obtain ⟨W1, hW1⟩ : ∃ W1, W1 = Wb.alloc (.cells #[.int .i64 0, .int .i64 0, .int .i64 0, .int .i64 0, .int .i64 0, .string ⟨#[]⟩, .slice none 0 0, .slice none 0 0] 31) := ⟨_, rfl⟩
      obtain ⟨p, hp⟩ : ∃ p, p = Wb.heap.size := ⟨_, rfl⟩
      have hc1 : CellsAt W1 p 31 (rCells 0 0 0 0 0 [] (.slice none 0 0) (.slice none 0 0)) := by rw [hW1, hp]; exact CellsAt.new Wb _ _
      have h1b : Below Wb.heap.size Wb W1 := by rw [hW1]; exact (Below.refl _ _).alloc (Nat.le_refl _) _
      have e0 := hc1.cell 0 (v := .int .i64 0) rfl
      have e1 := hc1.cell 1 (v := .int .i64 0) rfl
      have e2 := hc1.cell 2 (v := .int .i64 0) rfl
      have e3 := hc1.cell 3 (v := .int .i64 0) rfl
      have e4 := hc1.cell 4 (v := .int .i64 0) rfl
      have e5 := hc1.cell 5 (v := .string ⟨#[]⟩) rfl
      have e6 := hc1.cell 6 (v := .slice none 0 0) rfl
      have e7 := hc1.cell 7 (v := .slice none 0 0) rfl
      have f0 := hc1.free 0
      have f1 := hc1.free 1
      have f2 := hc1.free 2
      have f3 := hc1.free 3
      have f4 := hc1.free 4
      have f5 := hc1.free 5
      have f6 := hc1.free 6
      have f7 := hc1.free 7
      have HW1 := Lib.hid hW1
      have HP := Lib.hid hp
      have HC1 := Lib.hid hc1
      have H1B := Lib.hid h1b
      clear hW1 hp hc1 h1b
      go_upto_region 5 with (first | (rw [← HW1.out, ← HP.out]) | fail)
      have hgs := grown_set8 (W := W1) (g := p) (.int .i64 0) (.int .i64 0) (.int .i64 0) (.int .i64 0) (.int .i64 0) (.string ⟨#[]⟩) (.slice none 0 0) (.slice none 0 0)
      have hc2 : CellsAt ((((((((W1.setCell ⟨p, 0, none⟩ (.int .i64 0)).setCell ⟨p, 1, none⟩ (.int .i64 0)).setCell ⟨p, 2, none⟩ (.int .i64 0)).setCell ⟨p, 3, none⟩ (.int .i64 0)).setCell ⟨p, 4, none⟩ (.int .i64 0)).setCell ⟨p, 5, none⟩ (.string ⟨#[]⟩)).setCell ⟨p, 6, none⟩ (.slice none 0 0)).setCell ⟨p, 7, none⟩ (.slice none 0 0)) p 31 (rCells 0 0 0 0 0 [] (.slice none 0 0) (.slice none 0 0)) := rcells_set8 HC1.out 0 0 0 0 0 [] (.slice none 0 0) (.slice none 0 0)
      have hb2 := H1B.out.grown hgs H1B.out.size (fun k hk => by cases hk; exact Nat.le_of_eq HP.out.symm)
      clear e0 e1 e2 e3 e4 e5 e6 e7 f0 f1 f2 f3 f4 f5 f6 f7 hgs
      generalize ((((((((W1.setCell ⟨p, 0, none⟩ (.int .i64 0)).setCell ⟨p, 1, none⟩ (.int .i64 0)).setCell ⟨p, 2, none⟩ (.int .i64 0)).setCell ⟨p, 3, none⟩ (.int .i64 0)).setCell ⟨p, 4, none⟩ (.int .i64 0)).setCell ⟨p, 5, none⟩ (.string ⟨#[]⟩)).setCell ⟨p, 6, none⟩ (.slice none 0 0)).setCell ⟨p, 7, none⟩ (.slice none 0 0)) = W2 at hc2 hb2 ⊢
      have HC2 := Lib.hid hc2
      have HB2 := Lib.hid hb2
      have HWD := Lib.hid (rwords_any W2)
      clear hc2 hb2 HC1 H1B HW1
      go_wp2_with fail
      refine HWD.out.mono ?_
      rintro e w3 ⟨gq, rfl, hoq, hb3⟩
      have HOQ := Lib.hid hoq
      have HB3 := Lib.hid (HB2.out.trans (hb3.mono HB2.out.size))
      have HC3 := Lib.hid (HC2.out.stays hb3)
      have HPQ : Hid (p < gq) := by
        show _ < _
        have h1 := (World.ownsRow.lt hoq gq rfl).1
        have h2 := HC2.out.lt
        omega
      clear hoq hb3 HC2 HB2 HWD
      obtain ⟨x, hx⟩ : ∃ x, x = ws.getD 0 [] := ⟨_, rfl⟩
      have HX := Lib.hid hx
      clear hx
      go_upto_region 6 with fail
      go_loopw [24] (fun i wr => ∃ m : Nat, m ≤ 12 ∧ i = .int .i64 m ∧ Hid (CellsAt wr p 31 (rCells (kindTo x m) 0 0 0 0 [] (.slice none 0 0) (.slice none 0 0))) ∧ Hid (OwnL 9 SV 0 wr (.slice (some ⟨gq, 0, none⟩) 12 12) wordsL) ∧ Hid (Below Wb.heap.size Wb wr)) (fun i _ => 12 - (intOf i).toNat)
      case atStart => exact ⟨0, by omega, rfl, by show CellsAt _ _ _ _; rw [show kindTo x 0 = 0 from by unfold kindTo; rw [if_neg (by have := (kind_bd x).1; omega)]]; exact HC3.out, own_mono HOQ.out (Nat.zero_le _), HB3.out⟩
      case round =>
        obtain ⟨m, hm, rfl, HCM, HQ, HBM⟩ := hrel
        by_cases h12 : m < 12
        · have c0 := HCW.out _ HBM.out 0 (by omega)
          rw [← HX.out] at c0
          obtain ⟨y, hy⟩ : ∃ y, y = wordsL.getD m [] := ⟨_, rfl⟩
          have hlw : wordsL.length = 12 := rfl
          have c1 := ownCell' HQ.out (show wordsL[m]? = some y by rw [hy, List.getD_eq_getElem?_getD, List.getElem?_eq_getElem (by omega)]; rfl)
          replace c1 : wr.cell? ⟨gq, m, none⟩ = some (.string (strB y)) := c1
          have c2 := HCM.out.cell 0 (v := .int .i64 (kindTo x m)) rfl
          have f2 := HCM.out.free 0
          have HKT := Lib.hid (kindTo_step x m h12)
          rw [← hy] at HKT
          clear hy hlw
          by_cases h0 : m = 0
          · subst h0
            rw [if_neg (fun e => Nat.lt_irrefl 0 e.1)] at HKT
            clear c2 f2
            go_wp2_with fail
            go_roundw
            case rel => exact ⟨1, by omega, by go_num, by show CellsAt _ _ _ _; rw [HKT.out]; exact HCM.out, HQ.out, HBM.out⟩
            case measure => simp only [intOf]; omega
          · have t0 : decide (0 < m) = true := decide_eq_true (by omega)
            by_cases hyx : y = x
            · have q1 : ((strB y).toList == (strB x).toList) = true := by rw [hyx]; exact beq_self_eq_true _
              have HK2 : Hid (kindTo x (m + 1) = (m : Int)) := by show _ = _; rw [HKT.out, if_pos ⟨by omega, hyx⟩]
              clear hyx HKT h0
              go_wp2_with fail
              go_roundw
              case rel =>
                have hgs : wr.grownBy (wr.setCell ⟨p, 0, none⟩ (.int .i64 m)) (some p) := grownBy_setCell (grownBy_refl _ _) ⟨p, 0, none⟩ (.inl rfl) _
                refine ⟨m + 1, by omega, by go_num, ?_, own_grownS HQ.out hgs (fun q hq e => ?_), HBM.out.grown hgs HBM.out.size (fun k hk => by cases hk; exact Nat.le_of_eq HP.out.symm)⟩
                · show CellsAt _ _ _ _
                  rw [HK2.out]
                  have := HCM.out.set 0 (.int .i64 m)
                  simpa [rCells] using this
                · have h1 : gq = q := by simpa [Value.ownBlock] using hq
                  exact Nat.ne_of_lt HPQ.out ((Option.some.inj e).trans h1.symm)
              case measure => simp only [intOf]; omega
            · have q1 : ((strB y).toList == (strB x).toList) = false := beq_eq_false_iff_ne.2 (fun e => hyx (by rw [strB_tl, strB_tl] at e; exact e))
              have HK2 : Hid (kindTo x (m + 1) = kindTo x m) := by show _ = _; rw [HKT.out, if_neg (fun e => hyx e.2)]
              clear hyx HKT c2 f2 h0
              go_wp2_with fail
              go_roundw
              case rel => exact ⟨m + 1, by omega, by go_num, by show CellsAt _ _ _ _; rw [HK2.out]; exact HCM.out, HQ.out, HBM.out⟩
              case measure => simp only [intOf]; omega
        · obtain rfl : m = 12 := by omega
          obtain ⟨Ws, rfl⟩ : ∃ Ws : World, Ws = wr := ⟨_, rfl⟩
          rw [show kindTo x 12 = kindOf x from by unfold kindTo; rw [if_pos (by have := (kind_bd x).2; omega)]] at HCM
          have HK := Lib.hid (kind_bd x)
          rw [← HX.out] at HLA
          generalize kindOf x = k at HCM HK HLA
          clear HX HQ HC3 HB3 HOQ HPQ
          have k0 := HCM.out.cell 0 (v := .int .i64 k) rfl
          go_upto_block 4 with fail
          clear k0
          go_cut [9, 11, 12] from 43 to 164 (fun v9 v11 v12 wx => GotR Wb wx p (lenF k ws))
          case first =>
            have HWJ : Hid (∀ j, (ws.getD j []).length ≤ 1000) := fun j => by
              rw [List.getD_eq_getElem?_getD]
              by_cases hj : j < ws.length
              · rw [List.getElem?_eq_getElem hj]; exact HWL.out _ (List.getElem_mem hj)
              · rw [List.getElem?_eq_none (by omega)]; simp
            have hpWs : p < Ws.heap.size := HCM.out.lt
            have hWbp : Wb.heap.size ≤ p := Nat.le_of_eq HP.out.symm
            have hgp : ¬ g = p := by have h1 := HGL.out; have h2 := HP.out; omega
            have hpg : ¬ p = g := fun e => hgp e.symm
            have hn1 : (1 : Int) < (N : Int) := by omega
            have hn2 : (2 : Int) < (N : Int) := by omega
            have hn3 : (3 : Int) < (N : Int) := by omega
            have hn4 : (4 : Int) < (N : Int) := by omega
            have hk1 := HK.out.1
            have hk2 := HK.out.2
            clear HK HLA HRP HWN HPN HLN HWL HW0 HR HCR HBW HB0
            have c0 := HCM.out.cell 0 (v := .int .i64 k) rfl
            by_cases k1 : k = 1
            · as_aux_lemma =>
              subst k1
              obtain ⟨y, hy⟩ : ∃ y, y = ws.getD 1 [] := ⟨_, rfl⟩
              have d1 := HCW.out Ws HBM.out 1 (by omega)
              have hyl := HWJ.out 1
              rw [← hy] at d1 hyl
              have HZ : Hid (lenF 1 ws = ⟨1, 0, 0, 0, 0, unhexL y, [], []⟩) := by show _ = _; rw [hy, lenF, if_pos rfl]; rfl
              have HU := Lib.hid (runhex_any y (by omega) Ws)
              clear hy hk1 hk2
              go_wp2_with fail
              refine HU.out.mono ?_
              rintro e w5 ⟨rfl, hb5⟩
              have hc5 := HCM.out.stays hb5
              have HB5 := Lib.hid (HBM.out.trans (hb5.mono HBM.out.size))
              have e5 := hc5.cell 5 (v := .string (strB [])) rfl
              have f5 := hc5.free 5
              have HC5 := Lib.hid hc5
              clear hb5 hc5 HU c0 d1
              go_wp2_with fail
              go_meet
              exact gotR_of (rset5 HC5.out _) (HB5.out.setCell hWbp _) HZ.out
            by_cases k3 : k = 3 ∨ k = 6 ∨ k = 11
            · obtain ⟨y, hy⟩ : ∃ y, y = ws.getD 1 [] := ⟨_, rfl⟩
              have d1 := HCW.out Ws HBM.out 1 (by omega)
              have hyl := HWJ.out 1
              rw [← hy] at d1 hyl
              have HZ : Hid (lenF k ws = ⟨k, (numL y : Nat), 0, 0, 0, [], [], []⟩) := by show _ = _; rw [hy, lenF, if_neg k1, if_pos k3]; rfl
              have HU := Lib.hid (rnum_any y (by omega) Ws)
              have e5 := HCM.out.cell 1 (v := .int .i64 0) rfl
              have f5 := HCM.out.free 1
              clear hy hk1 hk2
              rcases k3 with rfl | rfl | rfl
              all_goals
                go_wp2_with fail
                refine HU.out.mono ?_
                rintro e w5 ⟨rfl, rfl⟩
                go_wp2_with fail
                go_meet
                exact gotR_of (rset1 HCM.out _) (HBM.out.setCell hWbp _) HZ.out
            by_cases k4 : k = 4
            · as_aux_lemma =>
              subst k4
              obtain ⟨y1, hy1⟩ : ∃ y, y = ws.getD 1 [] := ⟨_, rfl⟩
              obtain ⟨y2, hy2⟩ : ∃ y, y = ws.getD 2 [] := ⟨_, rfl⟩
              obtain ⟨y3, hy3⟩ : ∃ y, y = ws.getD 3 [] := ⟨_, rfl⟩
              obtain ⟨y4, hy4⟩ : ∃ y, y = ws.getD 4 [] := ⟨_, rfl⟩
              have d1 := HCW.out Ws HBM.out 1 (by omega)
              have d2 := HCW.out Ws HBM.out 2 (by omega)
              have d3 := HCW.out Ws HBM.out 3 (by omega)
              have HD4 : Hid (∀ W, Below Wb.heap.size Wb W → W.cell? ⟨g, 4, none⟩ = some (.string (strB y4))) := fun W h => by rw [hy4]; exact HCW.out W h 4 (by omega)
              have d4 := HD4.out Ws HBM.out
              have hl1 := HWJ.out 1
              have hl2 := HWJ.out 2
              have hl3 := HWJ.out 3
              rw [← hy1] at d1 hl1
              rw [← hy2] at d2 hl2
              rw [← hy3] at d3 hl3
              have HZ : Hid (lenF 4 ws = ⟨4, (numL y1 : Nat), (numL y2 : Nat), (numL y3 : Nat), polL2 y4, [], [], []⟩) := by show _ = _; rw [hy1, hy2, hy3, hy4, lenF, if_neg (by decide), if_neg (by decide), if_pos rfl]; rfl
              have HU1 : Hid (∀ W, Calls Tryz.prog 42 #[.string (strB y1)] W fun e w' => e = .returned (.int .i64 ((numL y1 : Nat) : Int)) ∧ w' = W) := fun W => rnum_any y1 (by omega) W
              have HU2 : Hid (∀ W, Calls Tryz.prog 42 #[.string (strB y2)] W fun e w' => e = .returned (.int .i64 ((numL y2 : Nat) : Int)) ∧ w' = W) := fun W => rnum_any y2 (by omega) W
              have HU3 : Hid (∀ W, Calls Tryz.prog 42 #[.string (strB y3)] W fun e w' => e = .returned (.int .i64 ((numL y3 : Nat) : Int)) ∧ w' = W) := fun W => rnum_any y3 (by omega) W
              have e1 := HCM.out.cell 1 (v := .int .i64 0) rfl
              have f1 := HCM.out.free 1
              have e2 := HCM.out.cell 2 (v := .int .i64 0) rfl
              have f2 := HCM.out.free 2
              have e3 := HCM.out.cell 3 (v := .int .i64 0) rfl
              have f3 := HCM.out.free 3
              generalize ((numL y1 : Nat) : Int) = z1 at HZ HU1
              generalize ((numL y2 : Nat) : Int) = z2 at HZ HU2
              generalize ((numL y3 : Nat) : Int) = z3 at HZ HU3
              have HS0 : Hid (∀ W, Below Wb.heap.size Wb W → W.cell? ⟨g, 1, none⟩ = some (.string (strB y1)) ∧ W.cell? ⟨g, 2, none⟩ = some (.string (strB y2)) ∧ W.cell? ⟨g, 3, none⟩ = some (.string (strB y3))) := fun W h => by rw [hy1, hy2, hy3]; exact ⟨HCW.out W h 1 (by omega), HCW.out W h 2 (by omega), HCW.out W h 3 (by omega)⟩
              clear hy1 hy2 hy3 hy4 hk1 hk2 hl1 hl2 hl3
              have HS : Hid (∀ W, Below Wb.heap.size Wb W → W.cell? ⟨g, 1, none⟩ = some (.string (strB y1)) ∧ W.cell? ⟨g, 2, none⟩ = some (.string (strB y2)) ∧ W.cell? ⟨g, 3, none⟩ = some (.string (strB y3))) := HS0.out
              have hbm := HBM.out
              go_upto_region 19 with fail
              go_region_held3 (fun W => W.cell? ⟨g, 1, none⟩ = some (.string (strB y1)) ∧ W.cell? ⟨g, 2, none⟩ = some (.string (strB y2)) ∧ W.cell? ⟨g, 3, none⟩ = some (.string (strB y3)))
                (first | (with_reducible assumption) | (refine HS.out _ ?_; (repeat (first | (with_reducible assumption) | (with_reducible refine Below.setCell ?_ hWbp _) | (with_reducible refine Below.drew ?_))); done))
                ((first
                  | (go_at_call 42; (with_reducible refine (HU1.out _).mono ?_); rintro e w6 ⟨rfl, rfl⟩)
                  | (go_at_call 42; (with_reducible refine (HU2.out _).mono ?_); rintro e w7 ⟨rfl, rfl⟩)
                  | (go_at_call 42; (with_reducible refine (HU3.out _).mono ?_); rintro e w8 ⟨rfl, rfl⟩)))
              have hc9 := rset3 (rset2 (rset1 (HCM.out.stays (Below.refl _ _).drew) z1) z2) z3
              have hb9 : Below Wb.heap.size Wb (((Ws.drew.setCell ⟨p, 1, none⟩ (.int .i64 z1)).setCell ⟨p, 2, none⟩ (.int .i64 z2)).setCell ⟨p, 3, none⟩ (.int .i64 z3)) := ((HBM.out.drew.setCell hWbp _).setCell hWbp _).setCell hWbp _
              clear d1 d2 d3 d4 e1 e2 e3 f1 f2 f3 HU1 HU2 HU3 c0
              replace hc9 : CellsAt (((Ws.setCell ⟨p, 1, none⟩ (.int .i64 z1)).setCell ⟨p, 2, none⟩ (.int .i64 z2)).setCell ⟨p, 3, none⟩ (.int .i64 z3)).drew p 31 (rCells 4 z1 z2 z3 0 [] nilS nilS) := hc9
              replace hb9 : Below Wb.heap.size Wb (((Ws.setCell ⟨p, 1, none⟩ (.int .i64 z1)).setCell ⟨p, 2, none⟩ (.int .i64 z2)).setCell ⟨p, 3, none⟩ (.int .i64 z3)).drew := hb9
              generalize (((Ws.setCell ⟨p, 1, none⟩ (.int .i64 z1)).setCell ⟨p, 2, none⟩ (.int .i64 z2)).setCell ⟨p, 3, none⟩ (.int .i64 z3)).drew = W9 at hc9 hb9 ⊢
              have d4 := HD4.out W9 hb9
              have e4 := hc9.cell 4 (v := .int .i64 0) rfl
              have f4 := hc9.free 4
              have HC9 := Lib.hid hc9
              have HB9 := Lib.hid hb9
              clear hc9 hb9
              by_cases ho : y4 = [111, 117, 114, 115]
              · have q1 : ((strB y4).toList == [111, 117, 114, 115]) = true := by rw [ho, strB_tl]; rfl
                have q2 : ((strB y4).toList == [116, 104, 101, 105, 114, 115]) = false := by rw [ho, strB_tl]; rfl
                have HP4 : Hid (polL2 y4 = 1) := by show _ = _; rw [ho]; rfl
                rw [HP4.out] at HZ
                clear ho
                go_wp2_with fail
                go_meet
                exact gotR_of (rset4 HC9.out 1) (HB9.out.setCell hWbp _) HZ.out
              · by_cases ht : y4 = [116, 104, 101, 105, 114, 115]
                · have q1 : ((strB y4).toList == [111, 117, 114, 115]) = false := by rw [ht, strB_tl]; rfl
                  have q2 : ((strB y4).toList == [116, 104, 101, 105, 114, 115]) = true := by rw [ht, strB_tl]; rfl
                  have HP4 : Hid (polL2 y4 = 2) := by show _ = _; rw [ht]; rfl
                  rw [HP4.out] at HZ
                  clear ho ht
                  go_wp2_with fail
                  go_meet
                  exact gotR_of (rset4 HC9.out 2) (HB9.out.setCell hWbp _) HZ.out
                · have q1 : ((strB y4).toList == [111, 117, 114, 115]) = false := by rw [strB_tl]; exact beq_eq_false_iff_ne.2 ho
                  have q2 : ((strB y4).toList == [116, 104, 101, 105, 114, 115]) = false := by rw [strB_tl]; exact beq_eq_false_iff_ne.2 ht
                  have HP4 : Hid (polL2 y4 = 0) := by show _ = _; unfold polL2; rw [if_neg ht, if_neg ho]
                  rw [HP4.out] at HZ
                  clear ho ht
                  go_wp2_with fail
                  go_meet
                  exact gotR_of HC9.out HB9.out HZ.out
            by_cases k5 : k = 5
            · as_aux_lemma =>
              subst k5
              obtain ⟨y1, hy1⟩ : ∃ y, y = ws.getD 1 [] := ⟨_, rfl⟩
              obtain ⟨y2, hy2⟩ : ∃ y, y = ws.getD 2 [] := ⟨_, rfl⟩
              have d1 := HCW.out Ws HBM.out 1 (by omega)
              have d2 := HCW.out Ws HBM.out 2 (by omega)
              have hl1 := HWJ.out 1
              have hl2 := HWJ.out 2
              rw [← hy1] at d1 hl1
              rw [← hy2] at d2 hl2
              have HZ : Hid (lenF 5 ws = ⟨5, (numL y1 : Nat), (numL y2 : Nat), 0, 0, [], [], []⟩) := by show _ = _; rw [hy1, hy2, lenF, if_neg (by decide), if_neg (by decide), if_neg (by decide), if_pos rfl]; rfl
              have HU1 : Hid (∀ W, Calls Tryz.prog 42 #[.string (strB y1)] W fun e w' => e = .returned (.int .i64 ((numL y1 : Nat) : Int)) ∧ w' = W) := fun W => rnum_any y1 (by omega) W
              have HU2 : Hid (∀ W, Calls Tryz.prog 42 #[.string (strB y2)] W fun e w' => e = .returned (.int .i64 ((numL y2 : Nat) : Int)) ∧ w' = W) := fun W => rnum_any y2 (by omega) W
              have e1 := HCM.out.cell 1 (v := .int .i64 0) rfl
              have f1 := HCM.out.free 1
              have e2 := HCM.out.cell 2 (v := .int .i64 0) rfl
              have f2 := HCM.out.free 2
              generalize ((numL y1 : Nat) : Int) = z1 at HZ HU1
              generalize ((numL y2 : Nat) : Int) = z2 at HZ HU2
              have HS0 : Hid (∀ W, Below Wb.heap.size Wb W → W.cell? ⟨g, 1, none⟩ = some (.string (strB y1)) ∧ W.cell? ⟨g, 2, none⟩ = some (.string (strB y2))) := fun W h => by rw [hy1, hy2]; exact ⟨HCW.out W h 1 (by omega), HCW.out W h 2 (by omega)⟩
              clear hy1 hy2 hk1 hk2 hl1 hl2
              have HS : Hid (∀ W, Below Wb.heap.size Wb W → W.cell? ⟨g, 1, none⟩ = some (.string (strB y1)) ∧ W.cell? ⟨g, 2, none⟩ = some (.string (strB y2))) := HS0.out
              have hbm := HBM.out
              go_upto_region 25 with fail
              go_region_held3 (fun W => W.cell? ⟨g, 1, none⟩ = some (.string (strB y1)) ∧ W.cell? ⟨g, 2, none⟩ = some (.string (strB y2)))
                (first | (with_reducible assumption) | (refine HS.out _ ?_; (repeat (first | (with_reducible assumption) | (with_reducible refine Below.setCell ?_ hWbp _) | (with_reducible refine Below.drew ?_))); done))
                ((first
                  | (go_at_call 42; (with_reducible refine (HU1.out _).mono ?_); rintro e w6 ⟨rfl, rfl⟩)
                  | (go_at_call 42; (with_reducible refine (HU2.out _).mono ?_); rintro e w7 ⟨rfl, rfl⟩)))
              go_wp2_with fail
              go_meet
              exact gotR_of (rset2 (rset1 (HCM.out.stays (Below.refl _ _).drew) z1) z2) ((HBM.out.drew.setCell hWbp _).setCell hWbp _) HZ.out
            by_cases k8 : k = 8
            · as_aux_lemma =>
              subst k8
              obtain ⟨y, hy⟩ : ∃ y, y = ws.getD 1 [] := ⟨_, rfl⟩
              have HD1 : Hid (∀ W, Below Wb.heap.size Wb W → W.cell? ⟨g, 1, none⟩ = some (.string (strB y))) := fun W h => by rw [hy]; exact HCW.out W h 1 (by omega)
              have d1 := HD1.out Ws HBM.out
              have hyl := HWJ.out 1
              rw [← hy] at hyl
              have HU := Lib.hid (rnum_any y (by omega) Ws)
              have e5 := HCM.out.cell 1 (v := .int .i64 0) rfl
              have f5 := HCM.out.free 1
              have HB2 : Hid (Below Wb.heap.size Wb (Ws.setCell ⟨p, 1, none⟩ (.int .i64 ((numL y : Nat) : Int)))) := HBM.out.setCell hWbp _
              by_cases ho : y = offW
              · have q1 : ((strB y).toList == [111, 102, 102]) = true := by rw [ho, strB_tl]; rfl
                have HZ : Hid (lenF 8 ws = ⟨8, -1, 0, 0, 0, [], [], []⟩) := by show _ = _; rw [lenF, if_neg (by decide), if_neg (by decide), if_neg (by decide), if_neg (by decide), if_pos rfl, ← hy, if_pos ho]; rfl
                clear hy hk1 hk2 ho
                go_wp2_with fail
                refine HU.out.mono ?_
                rintro e w5 ⟨rfl, rfl⟩
                go_wp2_with fail
                go_meet
                exact gotR_of (rset1 (rset1 HCM.out _) _) (HB2.out.setCell hWbp _) HZ.out
              · have q1 : ((strB y).toList == [111, 102, 102]) = false := by rw [strB_tl]; exact beq_eq_false_iff_ne.2 ho
                have HZ : Hid (lenF 8 ws = ⟨8, (numL y : Nat), 0, 0, 0, [], [], []⟩) := by show _ = _; rw [lenF, if_neg (by decide), if_neg (by decide), if_neg (by decide), if_neg (by decide), if_pos rfl, ← hy, if_neg ho]; rfl
                clear hy hk1 hk2 ho
                go_wp2_with fail
                refine HU.out.mono ?_
                rintro e w5 ⟨rfl, rfl⟩
                go_wp2_with fail
                go_meet
                exact gotR_of (rset1 HCM.out _) HB2.out HZ.out
            by_cases k9 : k = 9
            · as_aux_lemma =>
              subst k9
              obtain ⟨y2, hy2⟩ : ∃ y, y = ws.getD 2 [] := ⟨_, rfl⟩
              obtain ⟨y4, hy4⟩ : ∃ y, y = ws.getD 4 [] := ⟨_, rfl⟩
              obtain ⟨KE, hKE⟩ : ∃ K : List Int, K = if y2 = [45] then [] else (spl 44 y2).map fun s => ((numL s : Nat) : Int) := ⟨_, rfl⟩
              obtain ⟨TO, hTO⟩ : ∃ K : List (Int × Bs), K = if y4 = [45] then [] else (spl 44 y4).map tornL := ⟨_, rfl⟩
              have HZ : Hid (lenF 9 ws = ⟨9, 0, 0, 0, 0, [], KE, TO⟩) := by show _ = _; rw [lenF, if_neg (by decide), if_neg (by decide), if_neg (by decide), if_neg (by decide), if_neg (by decide), if_pos rfl, hKE, hTO, hy2, hy4]; rfl
              have HD2 : Hid (∀ W, Below Wb.heap.size Wb W → W.cell? ⟨g, 2, none⟩ = some (.string (strB y2)) ∧ W.cell? ⟨g, 4, none⟩ = some (.string (strB y4))) := fun W h => by rw [hy2, hy4]; exact ⟨HCW.out W h 2 (by omega), HCW.out W h 4 (by omega)⟩
              have hl2 := HWJ.out 2
              have hl4 := HWJ.out 4
              rw [← hy2] at hl2
              rw [← hy4] at hl4
              clear hy2 hy4 hk1 hk2 HWJ HCW
              have HKE := Lib.hid hKE
              have HTO := Lib.hid hTO
              clear hKE hTO
              obtain ⟨d2, d4⟩ := HD2.out Ws HBM.out
              obtain ⟨b2, hq2⟩ : ∃ b, ((strB y2).toList == [45]) = b := ⟨_, rfl⟩
              have HQ2 : Hid (((strB y2).toList == [45]) = b2) := hq2
              go_upto_region 31 with fail
              go_upto_if 115 with fail
              clear hq2
              go_cut [9] from 115 to 132 (fun v9 wx => ∃ vk, Hid (CellsAt wx p 31 (rCells 9 0 0 0 0 [] vk (.slice none 0 0))) ∧ OwnL 3 IV Ws.heap.size wx vk KE ∧ Hid (Below Wb.heap.size Wb wx) ∧ Hid (Ws.heap.size ≤ wx.heap.size))
              case first =>
                by_cases h45 : y2 = [45]
                · obtain rfl : b2 = true := by rw [← HQ2.out, h45, strB_tl]; rfl
                  have HK0 : Hid (KE = []) := by show _ = _; rw [HKE.out, if_pos h45]
                  clear h45
                  go_wp2_with fail
                  go_meet
                  exact ⟨_, HCM.out, by rw [HK0.out]; exact OwnL.nil _ _, HBM.out, Nat.le_refl _⟩
                · obtain rfl : b2 = false := by rw [← HQ2.out, strB_tl]; exact beq_eq_false_iff_ne.2 h45
                  have HK0 : Hid (KE = (spl 44 y2).map fun s => ((numL s : Nat) : Int)) := by show _ = _; rw [HKE.out, if_neg h45]
                  have HPA := Lib.hid (rpart_any y2 44 (by omega) Ws)
                  have HRL : Hid (∀ x ∈ spl 44 y2, x.length ≤ 1000) := fun x hx => by have := spl_le 44 y2 x hx; omega
                  have hrn := spl_len 44 y2
                  have HRN := Lib.hid (spl_ne 44 y2)
                  obtain ⟨R, hR⟩ : ∃ R, R = spl 44 y2 := ⟨_, rfl⟩
                  rw [← hR] at HK0 HPA HRL hrn HRN
                  clear h45 hR
                  go_wp2_with fail
                  refine HPA.out.mono ?_
                  rintro e w5 ⟨gR, capR, rfl, hoR, hb5⟩
                  have HC5 := Lib.hid (HCM.out.stays hb5)
                  have HB5 := Lib.hid (HBM.out.trans (hb5.mono HBM.out.size))
                  have hgR := (World.ownsRow.lt hoR gR rfl)
                  have HOR := Lib.hid hoR
                  have HS5 := Lib.hid hb5.size
                  clear hoR hb5 HPA d2 d4
                  go_wp2_with fail
                  go_loopw [121] (fun i wr => ∃ (m : Nat) (vk : Value), m ≤ R.length ∧ i = .int .i64 m ∧ OwnL 3 IV w5.heap.size wr vk ((R.take m).map fun s => ((numL s : Nat) : Int)) ∧ Hid (CellsAt wr p 31 (rCells 9 0 0 0 0 [] vk (.slice none 0 0))) ∧ Hid (OwnL 9 SV Ws.heap.size wr (.slice (some ⟨gR, 0, none⟩) R.length capR) R) ∧ Hid (Below Wb.heap.size Wb wr) ∧ Hid (w5.heap.size ≤ wr.heap.size)) (fun i _ => R.length - (intOf i).toNat)
                  case atStart => exact ⟨0, _, Nat.zero_le _, rfl, OwnL.nil _ _, HC5.out, HOR.out, HB5.out, Nat.le_refl _⟩
                  case round =>
                    obtain ⟨m, vk, hm, rfl, how, HC, HO, HB, HSZ⟩ := hrel
                    by_cases h1 : m < R.length
                    · obtain ⟨s, hs⟩ : ∃ s, R[m]? = some s := ⟨_, List.getElem?_eq_getElem h1⟩
                      have c1 := ownCell' HO.out hs
                      replace c1 : wr.cell? ⟨gR, m, none⟩ = some (.string (strB s)) := c1
                      have HSL : Hid (s.length ≤ 1000) := HRL.out s (List.mem_of_getElem? hs)
                      have HTK : Hid ((R.take (m + 1)).map (fun s => ((numL s : Nat) : Int)) = (R.take m).map (fun s => ((numL s : Nat) : Int)) ++ [((numL s : Nat) : Int)]) := by show _ = _; rw [List.take_add_one, hs]; simp
                      obtain ⟨cur, hcur⟩ : ∃ cur, cur = (R.take m).map (fun s => ((numL s : Nat) : Int)) := ⟨_, rfl⟩
                      have hcl : cur.length ≤ 100000000 := by rw [hcur, List.length_map, List.length_take]; omega
                      rw [← hcur] at how HTK
                      have HST : Hid (∀ W, Below wr.heap.size wr W → OwnS 3 1 (fun z => [IV z]) w5.heap.size W vk cur ∧ CellsAt W p 31 (rCells 9 0 0 0 0 [] vk (.slice none 0 0)) ∧ OwnL 9 SV Ws.heap.size W (.slice (some ⟨gR, 0, none⟩) R.length capR) R ∧ Below Wb.heap.size Wb W ∧ w5.heap.size ≤ W.heap.size) := fun W h => ⟨ownI_S (OwnL.stays how h), HC.out.stays h, OwnL.stays HO.out h, HB.out.trans (h.mono HB.out.size), Nat.le_trans HSZ.out h.size⟩
                      have HNU : Hid (∀ W, Calls Tryz.prog 42 #[.string (strB s)] W fun e w' => e = .returned (.int .i64 ((numL s : Nat) : Int)) ∧ Below W.heap.size W w') := fun W => (rnum_any s (by have := HSL.out; omega) W).mono (fun e w' h => ⟨h.1, by rw [h.2]; exact Below.refl _ _⟩)
                      generalize ((numL s : Nat) : Int) = Z at HTK HNU
                      have d6 := HC.out.cell 6 (v := vk) rfl
                      have hlt : ∀ q, vk.ownBlock = some q → w5.heap.size ≤ q := fun q hq => (World.ownsRow.lt how q hq).1
                      have hdL : Below wr.heap.size wr wr.drew := (Below.refl _ _).drew
                      have hp5 : p < w5.heap.size := by have := HS5.out; omega
                      have HLT := Lib.hid hlt
                      have hrl : R.length ≤ 1001 := by omega
                      have hzl : (cur ++ [Z]).length = cur.length + 1 := by simp
                      clear hs hcur how hlt hrn
                      go_upto_region 35 with fail
                      go_region_law ((first
                        | (go_simp; go_at_call 42; (with_reducible refine (HNU.out _).mono ?_); rintro e w8 ⟨rfl, hb8⟩; have hdL := hdL.trans (hb8.mono hdL.size); have y6 := (HST.out _ hdL).2.1.cell 6 (v := vk) rfl; have y6l := (HST.out _ hdL).2.1.lt; have y6n := Nat.ne_of_lt y6l)
                        | (refine step_pushS (cs := fun z : Int => [IV z]) (size := 1) (fun _ => rfl) (fun _ => rfl) Tryz.underlying23 infoI1 rfl (by decide) (HST.out _ hdL).1 Z hcl (HST.out _ hdL).2.2.2.2 rfl _ _ rfl (by rfl) _ _ _ (by rfl) (by rfl) ?_; intro v6 w6 o6 g6 n6; have hst := HST.out _ hdL; have hc6 := hst.2.1.grown g6 (fun e => by have := HLT.out _ e; omega); have e6 := hc6.cell 6 (v := vk) rfl; have f6 := hc6.free 6; obtain ⟨a6, c6, rfl, -, -⟩ := (OwnS.row o6).shape (fun _ => rfl); rw [hzl] at o6)))
                      all_goals go_wp2_with fail
                      all_goals go_roundw
                      all_goals first
                        | (have hgs : w6.grownBy (w6.setCell ⟨p, 6, none⟩ (.slice a6 (cur.length + 1) c6)) (some p) := grownBy_setCell (grownBy_refl _ _) ⟨p, 6, none⟩ (.inl rfl) _
                           exact ⟨m + 1, _, h1, by go_num, by rw [HTK.out]; exact own_grownS (ownS_I o6) hgs (fun q hq e => by have h1 := (World.ownsRow.lt o6 q hq).1; have h2 := Option.some.inj e; omega), rset6 hc6 _,
                             own_grownS (own_grownS hst.2.2.1 g6 (fun q hq e => by have h1 := HLT.out _ e; have h2 : gR = q := (by simpa [Value.ownBlock] using hq); omega)) hgs (fun q hq e => by have h2 : gR = q := (by simpa [Value.ownBlock] using hq); have h3 := Option.some.inj e; omega),
                             (hst.2.2.2.1.grown g6 hst.2.2.2.1.size (fun k hk => by have := HLT.out _ hk; omega)).grown hgs (Nat.le_trans hst.2.2.2.1.size g6.size) (fun k hk => by cases hk; exact hWbp), by show _ ≤ _; rw [World.size_setCell]; exact Nat.le_trans hst.2.2.2.2 g6.size⟩)
                        | (simp only [intOf]; omega)
                    · obtain rfl : m = R.length := by omega
                      rw [List.take_length, ← HK0.out] at how
                      go_wp2_with fail
                      go_meet
                      exact ⟨_, HC.out, own_mono how HS5.out, HB.out, Nat.le_trans HS5.out HSZ.out⟩
              case rest =>
                obtain ⟨vk, HC, how, HB, HSW⟩ := hcut
                obtain ⟨Wk, rfl⟩ : ∃ Wk : World, Wk = wc := ⟨_, rfl⟩
                have HOK := Lib.hid how
                have HVL : Hid (∀ q, vk.ownBlock = some q → Ws.heap.size ≤ q ∧ q < Wk.heap.size) := fun q hq => World.ownsRow.lt how q hq
                obtain ⟨-, d4⟩ := HD2.out Wk HB.out
                clear how d2 c0
                by_cases h45 : y4 = [45]
                · have q1 : ((strB y4).toList == [45]) = true := by rw [h45, strB_tl]; rfl
                  have HT0 : Hid (TO = []) := by show _ = _; rw [HTO.out, if_pos h45]
                  clear h45
                  go_wp2_with fail
                  go_meet
                  exact gotR_of9 HC.out (OwnL.row HOK.out) (by rw [HT0.out]; exact RowS.nil _) HB.out (fun q hq => by rcases hq with hq | hq; exact Nat.le_trans HBM.out.size (HVL.out q hq).1; cases hq) HZ.out
                · have q1 : ((strB y4).toList == [45]) = false := by rw [strB_tl]; exact beq_eq_false_iff_ne.2 h45
                  have HT0 : Hid (TO = (spl 44 y4).map tornL) := by show _ = _; rw [HTO.out, if_neg h45]
                  have HPA := Lib.hid (rpart_any y4 44 (by omega) Wk)
                  have HRL : Hid (∀ x ∈ spl 44 y4, x.length ≤ 1000) := fun x hx => by have := spl_le 44 y4 x hx; omega
                  have hrn := spl_len 44 y4
                  have HRN := Lib.hid (spl_ne 44 y4)
                  obtain ⟨R, hR⟩ : ∃ R, R = spl 44 y4 := ⟨_, rfl⟩
                  rw [← hR] at HT0 HPA HRL hrn HRN
                  clear h45 hR
                  go_wp2_with fail
                  refine HPA.out.mono ?_
                  rintro e w5 ⟨gR, capR, rfl, hoR, hb5⟩
                  have HC5 := Lib.hid (HC.out.stays hb5)
                  have HB5 := Lib.hid (HB.out.trans (hb5.mono HB.out.size))
                  have hgR := (World.ownsRow.lt hoR gR rfl)
                  have HOR := Lib.hid hoR
                  have HS5 := Lib.hid hb5.size
                  have HK5 : Hid (OwnL 3 IV Ws.heap.size w5 vk KE) := OwnL.stays HOK.out hb5
                  clear hoR hb5 HPA d4 HC HB HOK
                  have hp5 : p < Wk.heap.size := by have := HSW.out; omega
                  go_wp2_with fail
                  go_loopw [142] (fun i wr => ∃ (m : Nat) (vt : Value), m ≤ R.length ∧ i = .int .i64 m ∧ OwnS 59 2 rtC w5.heap.size wr vt ((R.take m).map tornL) ∧ Hid (CellsAt wr p 31 (rCells 9 0 0 0 0 [] vk vt)) ∧ Hid (OwnL 3 IV Ws.heap.size wr vk KE) ∧ Hid (OwnL 9 SV Wk.heap.size wr (.slice (some ⟨gR, 0, none⟩) R.length capR) R) ∧ Hid (Below Wb.heap.size Wb wr) ∧ Hid (w5.heap.size ≤ wr.heap.size)) (fun i _ => R.length - (intOf i).toNat)
                  case atStart => exact ⟨0, _, Nat.zero_le _, rfl, OwnS.nil _ _, HC5.out, HK5.out, HOR.out, HB5.out, Nat.le_refl _⟩
                  case round =>
                    obtain ⟨m, vt, hm, rfl, how, HC, HK, HO, HB, HSZ⟩ := hrel
                    by_cases h1 : m < R.length
                    · obtain ⟨s, hs⟩ : ∃ s, R[m]? = some s := ⟨_, List.getElem?_eq_getElem h1⟩
                      have c1 := ownCell' HO.out hs
                      replace c1 : wr.cell? ⟨gR, m, none⟩ = some (.string (strB s)) := c1
                      have hsl : s.length ≤ 1000 := HRL.out s (List.mem_of_getElem? hs)
                      have HTK : Hid ((R.take (m + 1)).map tornL = (R.take m).map tornL ++ [tornL s]) := by show _ = _; rw [List.take_add_one, hs]; simp
                      obtain ⟨cur, hcur⟩ : ∃ cur, cur = (R.take m).map tornL := ⟨_, rfl⟩
                      have hcl : cur.length ≤ 100000000 := by rw [hcur, List.length_map, List.length_take]; omega
                      rw [← hcur] at how HTK
                      have HPP := Lib.hid (rpart_any s 58 (by omega) wr)
                      have hPn := spl_len 58 s
                      have hPe := spl_ne 58 s
                      have HPL : Hid (∀ x ∈ spl 58 s, x.length ≤ 1000) := fun x hx => by have := spl_le 58 s x hx; omega
                      have HTN : Hid (tornL s = (((numL ((spl 58 s).getD 0 []) : Nat) : Int), unhexL ((spl 58 s).getD 1 []))) := rfl
                      obtain ⟨P, hP⟩ : ∃ P, P = spl 58 s := ⟨_, rfl⟩
                      rw [← hP] at HPP hPn hPe HPL HTN
                      have HOW := Lib.hid how
                      clear hs hcur how hP
                      go_wp2_with fail
                      refine HPP.out.mono ?_
                      rintro e w6 ⟨gP, cP, rfl, hoP, hb6⟩
                      have hs6 := hb6.size
                      go_wp2_with (at_builtin; go_must (refine wpList_pushL SV_one Tryz.underlying33 infoSt rfl (by decide) hoP [] (by omega) hs6 rfl _ _ rfl (by rfl) _ _ _ (by rfl) (by rfl) ?_))
                      intro v7 w7 ho7 hg7 hn7
                      have hb7 : Below wr.heap.size wr w7 := below_own hb6 hoP hg7 hs6
                      obtain ⟨N7, hN7⟩ : ∃ N, N = (P ++ [[]]).length := ⟨_, rfl⟩
                      have hn2 : 2 ≤ N7 := by rw [hN7, List.length_append]; have := List.length_pos_iff.2 hPe; simp; omega
                      obtain ⟨g7, cp7, rfl, -, -, -, -, hcl7⟩ := OwnL.block ho7 (by simp)
                      rw [← hN7]
                      have hpd : wsPad P (P ++ [[]]) := ⟨1, rfl⟩
                      have HX : Hid (∀ W, Below w7.heap.size w7 W → W.cell? ⟨g7, 0, none⟩ = some (.string (strB (P.getD 0 []))) ∧ W.cell? ⟨g7, 1, none⟩ = some (.string (strB (P.getD 1 [])))) := fun W h => by
                        have h2 := OwnL.stays ho7 h
                        obtain ⟨g', c', e', -, -, -, -, h3⟩ := OwnL.block h2 (by simp)
                        cases e'
                        rw [← wsPad_get hpd 0, ← wsPad_get hpd 1]
                        exact ⟨h3 0 _ (by rw [List.getD_eq_getElem?_getD, List.getElem?_eq_getElem (by omega)]; rfl), h3 1 _ (by rw [List.getD_eq_getElem?_getD, List.getElem?_eq_getElem (by omega)]; rfl)⟩
                      have hl0 : (P.getD 0 []).length ≤ 1000 := by
                        rw [List.getD_eq_getElem?_getD, List.getElem?_eq_getElem (List.length_pos_iff.2 hPe)]; exact HPL.out _ (List.getElem_mem _)
                      have hl1 : (P.getD 1 []).length ≤ 1000 := by
                        rw [List.getD_eq_getElem?_getD]
                        by_cases hj : 1 < P.length
                        · rw [List.getElem?_eq_getElem hj]; exact HPL.out _ (List.getElem_mem hj)
                        · rw [List.getElem?_eq_none (by omega)]; simp
                      obtain ⟨X0, hX0⟩ : ∃ X, X = P.getD 0 [] := ⟨_, rfl⟩
                      obtain ⟨X1, hX1⟩ : ∃ X, X = P.getD 1 [] := ⟨_, rfl⟩
                      rw [← hX0, ← hX1] at HX
                      rw [← hX0] at hl0 HTN
                      rw [← hX1] at hl1 HTN
                      have HNU : Hid (∀ W, Calls Tryz.prog 42 #[.string (strB X0)] W fun e w' => e = .returned (.int .i64 ((numL X0 : Nat) : Int)) ∧ Below W.heap.size W w') := fun W => (rnum_any X0 (by omega) W).mono (fun e w' h => ⟨h.1, by rw [h.2]; exact Below.refl _ _⟩)
                      have HUX : Hid (∀ W, Calls Tryz.prog 41 #[.string (strB X1)] W fun e w' => e = .returned (.string (strB (unhexL X1))) ∧ Below W.heap.size W w') := fun W => runhex_any X1 (by omega) W
                      generalize ((numL X0 : Nat) : Int) = Z at HTN HNU
                      generalize unhexL X1 = U at HTN HUX
                      rw [HTN.out] at HTK
                      have hrl : R.length ≤ 1001 := by omega
                      have hzl : (cur ++ [(Z, U)]).length = cur.length + 1 := by simp
                      have h67 : Below wr.heap.size wr w7 := hb7
                      have HST : Hid (∀ W, Below w7.heap.size w7 W → OwnS 59 2 rtC w5.heap.size W vt cur ∧ CellsAt W p 31 (rCells 9 0 0 0 0 [] vk vt) ∧ OwnL 3 IV Ws.heap.size W vk KE ∧ OwnL 9 SV Wk.heap.size W (.slice (some ⟨gR, 0, none⟩) R.length capR) R ∧ Below Wb.heap.size Wb W ∧ w5.heap.size ≤ W.heap.size) := fun W h => by
                        have h2 := h67.trans (h.mono h67.size)
                        exact ⟨OwnS.stays HOW.out h2, HC.out.stays h2, OwnL.stays HK.out h2, OwnL.stays HO.out h2, HB.out.trans (h2.mono HB.out.size), Nat.le_trans HSZ.out h2.size⟩
                      have hd0 : Below w7.heap.size w7 w7.drew := (Below.refl _ _).drew
                      obtain ⟨x0, x1⟩ := HX.out w7 (Below.refl _ _)
                      obtain ⟨s0, s1, -, -, -, -⟩ := HST.out w7 (Below.refl _ _)
                      have hn0 : 0 < N7 := by omega
                      have hn1 : (1 : Int) < (N7 : Int) := by omega
                      have x7 := s1.cell 7 (v := vt) rfl
                      have HTL : Hid (∀ q, vt.ownBlock = some q → w5.heap.size ≤ q) := fun q hq => (World.ownsRow.lt HOW.out q hq).1
                      clear hoP hb6 ho7 hg7 hn7 hb7 hcl7 hpd hX0 hX1 h67 s0 s1 HPP hPn hPe hl0 hl1 hsl c1 HPL HTN HC HK HO HB HSZ HOW hN7 hs6
                      go_upto_region 42 with fail
                      have HS4 : Hid (∀ W, Below w7.heap.size w7 W → Below w7.heap.size w7 W ∧ W.cell? ⟨g7, 0, none⟩ = some (.string (strB X0)) ∧ W.cell? ⟨g7, 1, none⟩ = some (.string (strB X1)) ∧ W.cell? ⟨p, 7, none⟩ = some vt) := fun W h => ⟨h, (HX.out W h).1, (HX.out W h).2, (HST.out W h).2.1.cell 7 rfl⟩
                      refine wp_region_noPanic ?_
                      refine wp_region_K (fun W => W.cell? ⟨g7, 0, none⟩ = some (.string (strB X0)) ∧ W.cell? ⟨g7, 1, none⟩ = some (.string (strB X1)) ∧ W.cell? ⟨p, 7, none⟩ = some vt) 12 (by kernel_rfl) (HS4.out _ hd0).2 (fun hC0 => ?_)
                      refine wpAnyK_skip (i := 0) (oi := ⟨some 150, _, _, _, _, _⟩) (v := ?_) rfl (by kernel_rfl) (by kernel_rfl) (by kernel_rfl) (by decide) (fun _ _ _ h => h) (Or.inl ⟨by rfl, ?_⟩) (fun _ => by assumption) ?_
                      rotate_left
                      focus (intro wq hSq; (try dsimp only at hSq); go_simp; try (with_reducible rfl))
                      try simp only [Act.put, List.setIfInBounds_toArray, List.set_cons_zero, List.set_cons_succ]
                      refine wpAnyK_take (i := 1) (oi := ⟨some 151, _, _, _, _, _⟩) (v := ?_) [12] rfl (by kernel_rfl) (by kernel_rfl) (by kernel_rfl) (by kernel_rfl) (fun _ _ _ h => h) (Or.inl ⟨by rfl, ?_⟩) (by assumption) ?_
                      rotate_left
                      focus (intro wq hSq; (try dsimp only at hSq); go_simp; try (with_reducible rfl))
                      try simp only [Act.put, List.setIfInBounds_toArray, List.set_cons_zero, List.set_cons_succ]
                      refine wpAnyK_skip (i := 2) (oi := ⟨some 152, _, _, _, _, _⟩) (v := ?_) rfl (by kernel_rfl) (by kernel_rfl) (by kernel_rfl) (by decide) (fun _ _ _ h => h) (Or.inl ⟨by rfl, ?_⟩) (fun _ => by assumption) ?_
                      rotate_left
                      focus (intro wq hSq; (try dsimp only at hSq); go_simp; try (with_reducible rfl))
                      try simp only [Act.put, List.setIfInBounds_toArray, List.set_cons_zero, List.set_cons_succ]
                      refine wpAnyK_skip (i := 3) (oi := ⟨some 153, _, _, _, _, _⟩) (v := ?_) rfl (by kernel_rfl) (by kernel_rfl) (by kernel_rfl) (by decide) (fun _ _ _ h => h) (Or.inl ⟨by rfl, ?_⟩) (fun _ => by assumption) ?_
                      rotate_left
                      focus (intro wq hSq; (try dsimp only at hSq); go_simp; try (with_reducible rfl))
                      try simp only [Act.put, List.setIfInBounds_toArray, List.set_cons_zero, List.set_cons_succ]
                      refine wpAnyK_take (i := 4) (oi := ⟨some 154, _, _, _, _, _⟩) (v := ?_) [5, 10, 11, 12] rfl (by kernel_rfl) (by kernel_rfl) (by kernel_rfl) (by kernel_rfl) (fun _ _ _ h => h) (Or.inl ⟨by rfl, ?_⟩) (by assumption) ?_
                      rotate_left
                      focus (intro wq hSq; (try dsimp only at hSq); go_simp; try (with_reducible rfl))
                      try simp only [Act.put, List.setIfInBounds_toArray, List.set_cons_zero, List.set_cons_succ]
                      refine wpAnyK_skip (i := 6) (oi := ⟨some 156, _, _, _, _, _⟩) (v := ?_) rfl (by kernel_rfl) (by kernel_rfl) (by kernel_rfl) (by decide) (fun _ _ _ h => h) (Or.inl ⟨by rfl, ?_⟩) (fun _ => by assumption) ?_
                      rotate_left
                      focus (intro wq hSq; (try dsimp only at hSq); go_simp; try (with_reducible rfl))
                      try simp only [Act.put, List.setIfInBounds_toArray, List.set_cons_zero, List.set_cons_succ]
                      refine wpAnyK_skip (i := 7) (oi := ⟨some 157, _, _, _, _, _⟩) (v := ?_) rfl (by kernel_rfl) (by kernel_rfl) (by kernel_rfl) (by decide) (fun _ _ _ h => h) (Or.inl ⟨by rfl, ?_⟩) (fun _ => by assumption) ?_
                      rotate_left
                      focus (intro wq hSq; (try dsimp only at hSq); go_simp; try (with_reducible rfl))
                      try simp only [Act.put, List.setIfInBounds_toArray, List.set_cons_zero, List.set_cons_succ]
                      refine wpAnyK_take (i := 8) (oi := ⟨some 158, _, _, _, _, _⟩) (v := ?_) [9, 10, 11, 12] rfl (by kernel_rfl) (by kernel_rfl) (by kernel_rfl) (by kernel_rfl) (fun _ _ _ h => h) (Or.inl ⟨by rfl, ?_⟩) (by assumption) ?_
                      rotate_left
                      focus (intro wq hSq; (try dsimp only at hSq); go_simp; try (with_reducible rfl))
                      try simp only [Act.put, List.setIfInBounds_toArray, List.set_cons_zero, List.set_cons_succ]
                      refine wpAnyK_ready (rs := [5]) (by kernel_rfl) (by simp) ?_
                      refine AllReadyK.cons (o := _) rfl (fun K hK => ?_) AllReadyK.nil
                      go_simp
                      go_at_call 42
                      refine (HNU.out _).mono ?_
                      rintro e w8 ⟨rfl, hb8⟩
                      have hd8 := hd0.trans (hb8.mono hd0.size)
                      go_wp2_with fail
                      refine hK.out _ _ (HS4.out _ hd8).2 ?_
                      clear hK K
                      try simp only [Act.put, List.setIfInBounds_toArray, List.set_cons_zero, List.set_cons_succ]
                      refine wpAnyK_ready (rs := [9]) (by kernel_rfl) (by simp) ?_
                      refine AllReadyK.cons (o := _) rfl (fun K hK => ?_) AllReadyK.nil
                      go_simp
                      go_at_call 41
                      refine (HUX.out _).mono ?_
                      rintro e w9 ⟨rfl, hb9⟩
                      have hd9 := hd8.trans (hb9.mono hd8.size)
                      go_wp2_with fail
                      refine hK.out _ _ (HS4.out _ hd9).2 ?_
                      clear hK K
                      try simp only [Act.put, List.setIfInBounds_toArray, List.set_cons_zero, List.set_cons_succ]
                      have hC2 := (HS4.out _ hd9).2
                      refine wpAnyK_skip (i := 10) (oi := ⟨some 160, _, _, _, _, _⟩) (v := ?_) rfl (by kernel_rfl) (by kernel_rfl) (by kernel_rfl) (by decide) (fun _ _ _ h => h) (Or.inl ⟨by rfl, ?_⟩) (fun _ => by assumption) ?_
                      rotate_left
                      focus (intro wq hSq; (try dsimp only at hSq); go_simp; try (with_reducible rfl))
                      try simp only [Act.put, List.setIfInBounds_toArray, List.set_cons_zero, List.set_cons_succ]
                      refine wpAnyK_ready (rs := [11]) (by kernel_rfl) (by simp) ?_
                      refine AllReadyK.cons (o := _) rfl (fun K hK => ?_) AllReadyK.nil
                      go_simp
                      refine hK.out _ _ (HS4.out _ (below_alH hd9 _)).2 ?_
                      clear hK K
                      try simp only [Act.put, List.setIfInBounds_toArray, List.set_cons_zero, List.set_cons_succ]
                      refine wpAnyK_ready (rs := [12]) (by kernel_rfl) (by simp) ?_
                      refine AllReadyK.last (o := _) rfl (by kernel_rfl) (fun K hK => ?_) AllReadyK.nil
                      refine step_pushS rtC_len rtC_one Tryz.underlying29 infoRT rfl (by decide) (HST.out _ hd9).1 (Z, U) hcl (HST.out _ hd9).2.2.2.2.2 rfl _ _ rfl (by rfl) _ _ _ (by rfl) (by rfl) ?_
                      intro v6 w6 o6 g6 n6
                      have hst := HST.out _ hd9
                      have hc6 := hst.2.1.grown g6 (fun e => by have := HTL.out _ e; omega)
                      have e6 := hc6.cell 7 (v := vt) rfl
                      have f6 := hc6.free 7
                      obtain ⟨a6, c6, rfl, -, -⟩ := (OwnS.row o6).shape rtC_len
                      rw [hzl] at o6
                      try rw [hzl]
                      refine hK.out _ _ ?_
                      clear hK K
                      try simp only [Act.put, List.setIfInBounds_toArray]
                      refine wpAnyK_late (i := 13) (oi := ⟨some 163, _, _, _, _, _⟩) (v := ?_) rfl (by kernel_rfl) (by kernel_rfl) (by kernel_rfl) (by decide) (fun _ _ _ h => h) (Or.inl ⟨by rfl, ?_⟩) (by kernel_rfl) ?_
                      rotate_left
                      focus (intro wq hSq; (try dsimp only at hSq); go_simp; try (with_reducible rfl))
                      try dsimp only [Act.put]
                      refine wpAnyK_ready (rs := [14]) (by kernel_rfl) (by simp) ?_
                      refine AllReadyK.last (o := _) rfl (by kernel_rfl) (fun K hK => ?_) AllReadyK.nil
                      go_simp
                      refine hK.out _ _ ?_
                      clear hK K
                      refine wpAnyK_done (by kernel_rfl) ?_ _
                      refine NoPanic.normal ?_
                      go_wp2_with fail
                      go_roundw
                      case rel =>
                        have hgs : w6.grownBy (w6.setCell ⟨p, 7, none⟩ (.slice a6 (cur.length + 1) c6)) (some p) := grownBy_setCell (grownBy_refl _ _) ⟨p, 7, none⟩ (.inl rfl) _
                        exact ⟨m + 1, _, h1, by go_num, by rw [HTK.out]; exact own_grownS o6 hgs (fun q hq e => by have h1 := (World.ownsRow.lt o6 q hq).1; have h2 := Option.some.inj e; omega), rset7 hc6 _,
                          own_grownS (own_grownS hst.2.2.1 g6 (fun q hq e => by have h1 := HTL.out _ e; have h2 := (HVL.out q hq).2; omega)) hgs (fun q hq e => by have h2 := (HVL.out q hq).1; have h3 := Option.some.inj e; omega),
                          own_grownS (own_grownS hst.2.2.2.1 g6 (fun q hq e => by have h1 := HTL.out _ e; have h2 : gR = q := (by simpa [Value.ownBlock] using hq); omega)) hgs (fun q hq e => by have h2 : gR = q := (by simpa [Value.ownBlock] using hq); have h3 := Option.some.inj e; omega),
                          (hst.2.2.2.2.1.grown g6 hst.2.2.2.2.1.size (fun k hk => by have := HTL.out _ hk; have := HS5.out; omega)).grown hgs (Nat.le_trans hst.2.2.2.2.1.size g6.size) (fun k hk => by cases hk; exact hWbp), by show _ ≤ _; rw [World.size_setCell]; exact Nat.le_trans hst.2.2.2.2.2 g6.size⟩
                      case measure => simp only [intOf]; omega
                    · obtain rfl : m = R.length := by omega
                      rw [List.take_length, ← HT0.out] at how
                      have HOW := Lib.hid how
                      clear how
                      go_wp2_with fail
                      go_meet
                      exact gotR_of9 HC.out (OwnL.row HK.out) (OwnS.row HOW.out) HB.out (fun q hq => by rcases hq with hq | hq; exact Nat.le_trans HBM.out.size (HVL.out q hq).1; exact Nat.le_trans HBM.out.size (Nat.le_trans HSW.out (Nat.le_trans HS5.out (World.ownsRow.lt HOW.out q hq).1))) HZ.out
            have HZ : Hid (lenF k ws = ⟨k, 0, 0, 0, 0, [], [], []⟩) := by show _ = _; rw [lenF, if_neg k1, if_neg k3, if_neg k4, if_neg k5, if_neg k8, if_neg k9]; rfl
            have t1 : (k == 1) = false := by simpa using k1
            have t3 : (k == 3) = false := by simpa using fun e => k3 (.inl e)
            have t6 : (k == 6) = false := by simpa using fun e => k3 (.inr (.inl e))
            have t11 : (k == 11) = false := by simpa using fun e => k3 (.inr (.inr e))
            have t4 : (k == 4) = false := by simpa using k4
            have t5 : (k == 5) = false := by simpa using k5
            have t8 : (k == 8) = false := by simpa using k8
            have t9 : (k == 9) = false := by simpa using k9
            clear k1 k3 k4 k5 k8 k9
            go_wp2_with fail
            go_meet
            exact gotR_of HCM.out HBM.out HZ.out
          case rest =>
            obtain ⟨vk, vt, hc, hrw, hbx, hqx⟩ := hcut
            obtain ⟨wx, rfl⟩ : ∃ wx : World, wx = wc := ⟨_, rfl⟩
            rw [HLA.out] at HRP
            clear HLA HCM HBM HK
            generalize lenF k ws = A at hc hrw HRP
            obtain ⟨K, a, b, c, n, bs, keep, torn⟩ := A
            have HRP2 : Hid (refP line = if rightA ⟨K, a, b, c, n, bs, keep, torn⟩ && lineA ⟨K, a, b, c, n, bs, keep, torn⟩ == line then some ⟨K, a, b, c, n, bs, keep, torn⟩ else none) := HRP.out
            have hrw' : RActI wx vk vt keep torn := hrw
            obtain ⟨ak, ck, rfl, -, -⟩ := hrw'.1.shape
            obtain ⟨at', ct, rfl, -, -⟩ := hrw'.2.shape rtC_len
            have HQX : Hid (∀ q, (Value.slice ak keep.length ck).ownBlock = some q ∨ (Value.slice at' torn.length ct).ownBlock = some q → r < q) := fun q hq => Nat.lt_of_lt_of_le HCR.out.lt (hqx q hq)
            clear hqx
            have hcp : CellsAt wx p 31 (rCells K a b c n bs (.slice ak keep.length ck) (.slice at' torn.length ct)) := hc
            have HCPW : Hid (∀ W, Below wx.heap.size wx W → CellsAt W p 31 (rCells K a b c n bs (.slice ak keep.length ck) (.slice at' torn.length ct)) ∧ CellsAt W r 31 (rCells 0 0 0 0 0 [] nilS nilS) ∧ RActI W (.slice ak keep.length ck) (.slice at' torn.length ct) keep torn) := fun W h => ⟨hcp.stays h, (HCR.out.stays hbx).stays h, hrw'.stays h⟩
            have HRI := Lib.hid (rright_any (w := wx) K a b c n bs hrw')
            have HBX := Lib.hid (HBW.out.trans (hbx.mono HBW.out.size))
            have c0 := hcp.cell 0 (v := .int .i64 K) rfl
            have c1 := hcp.cell 1 (v := .int .i64 a) rfl
            have c2 := hcp.cell 2 (v := .int .i64 b) rfl
            have c3 := hcp.cell 3 (v := .int .i64 c) rfl
            have c4 := hcp.cell 4 (v := .int .i64 n) rfl
            have c5 := hcp.cell 5 (v := .string (strB bs)) rfl
            have c6 := hcp.cell 6 (v := .slice ak keep.length ck) rfl
            have c7 := hcp.cell 7 (v := .slice at' torn.length ct) rfl
            clear hc hrw hbx hcp hrw' HRP
            go_wp2_with fail
            refine HRI.out.mono ?_
            rintro e w4 ⟨rfl, hb4⟩
            clear c0 c1 c2 c3 c4 c5 c6 c7 HRI
            have HB4 := Lib.hid hb4
            clear hb4
            cases hr : rightA ⟨K, a, b, c, n, bs, keep, torn⟩ with
            | false =>
              have HZ : Hid (refP line = none) := by show _ = _; rw [HRP2.out, hr]; rfl
              have hcr := (HCPW.out w4 HB4.out).2.1
              have HCRR := Lib.hid hcr
              have e0 := hcr.cell 0 (v := .int .i64 0) rfl
              have e1 := hcr.cell 1 (v := .int .i64 0) rfl
              have e2 := hcr.cell 2 (v := .int .i64 0) rfl
              have e3 := hcr.cell 3 (v := .int .i64 0) rfl
              have e4 := hcr.cell 4 (v := .int .i64 0) rfl
              have e5 := hcr.cell 5 (v := .string (strB [])) rfl
              have e6 := hcr.cell 6 (v := nilS) rfl
              have e7 := hcr.cell 7 (v := nilS) rfl
              have f0 := hcr.free 0
              have f1 := hcr.free 1
              have f2 := hcr.free 2
              have f3 := hcr.free 3
              have f4 := hcr.free 4
              have f5 := hcr.free 5
              have f6 := hcr.free 6
              have f7 := hcr.free 7
              clear hcr hr
              go_wp2_with fail
              have hgz := grown_set8 (W := w4) (g := r) (.int .i64 0) (.int .i64 0) (.int .i64 0) (.int .i64 0) (.int .i64 0) (.string ⟨#[]⟩) (.slice none 0 0) (.slice none 0 0)
              have hcz : CellsAt ((((((((w4.setCell ⟨r, 0, none⟩ (.int .i64 0)).setCell ⟨r, 1, none⟩ (.int .i64 0)).setCell ⟨r, 2, none⟩ (.int .i64 0)).setCell ⟨r, 3, none⟩ (.int .i64 0)).setCell ⟨r, 4, none⟩ (.int .i64 0)).setCell ⟨r, 5, none⟩ (.string ⟨#[]⟩)).setCell ⟨r, 6, none⟩ (.slice none 0 0)).setCell ⟨r, 7, none⟩ (.slice none 0 0)) r 31 (rCells 0 0 0 0 0 [] (.slice none 0 0) (.slice none 0 0)) := rcells_set8 HCRR.out 0 0 0 0 0 [] (.slice none 0 0) (.slice none 0 0)
              have hbz := (HBX.out.trans (HB4.out.mono HBX.out.size)).grown hgz (HBX.out.trans (HB4.out.mono HBX.out.size)).size (fun k hk => by cases hk; exact Nat.le_of_eq HR.out.symm)
              clear e0 e1 e2 e3 e4 e5 e6 e7 f0 f1 f2 f3 f4 f5 f6 f7 hgz
              generalize ((((((((w4.setCell ⟨r, 0, none⟩ (.int .i64 0)).setCell ⟨r, 1, none⟩ (.int .i64 0)).setCell ⟨r, 2, none⟩ (.int .i64 0)).setCell ⟨r, 3, none⟩ (.int .i64 0)).setCell ⟨r, 4, none⟩ (.int .i64 0)).setCell ⟨r, 5, none⟩ (.string ⟨#[]⟩)).setCell ⟨r, 6, none⟩ (.slice none 0 0)).setCell ⟨r, 7, none⟩ (.slice none 0 0)) = W9 at hcz hbz ⊢
              have e0 := hcz.cell 0 (v := .int .i64 0) rfl
              have e1 := hcz.cell 1 (v := .int .i64 0) rfl
              have e2 := hcz.cell 2 (v := .int .i64 0) rfl
              have e3 := hcz.cell 3 (v := .int .i64 0) rfl
              have e4 := hcz.cell 4 (v := .int .i64 0) rfl
              have e5 := hcz.cell 5 (v := .string ⟨#[]⟩) rfl
              have e6 := hcz.cell 6 (v := .slice none 0 0) rfl
              have e7 := hcz.cell 7 (v := .slice none 0 0) rfl
              exact bodyPost_ret (v := .tuple #[.agg (rCells 0 0 0 0 0 [] (.slice none 0 0) (.slice none 0 0)), .bool false]) (by simp [results, Tryz.results18, go_sem, e0, e1, e2, e3, e4, e5, e6, e7, rCells, strB]) rfl ⟨.slice none 0 0, .slice none 0 0, ac0 0, by rw [HZ.out]; rfl, by rw [HZ.out]; rfl, ⟨RowL.nil _, RowS.nil _⟩, (fun q hq => by rcases hq with hq | hq <;> cases hq), hbz⟩
            | true =>
              have hli := rline_any (w := w4) K a b c n bs hr (HCPW.out w4 HB4.out).2.2
              have hrp := HRP2.out
              obtain ⟨L, hL⟩ : ∃ L, L = lineA ⟨K, a, b, c, n, bs, keep, torn⟩ := ⟨_, rfl⟩
              rw [← hL, hr] at hrp
              rw [← hL] at hli
              have HLI := Lib.hid hli
              have HRP3 := Lib.hid hrp
              clear hL hli hrp HRP2
              have hcp4 := (HCPW.out w4 HB4.out).1
              have c0 := hcp4.cell 0 (v := .int .i64 K) rfl
              have c1 := hcp4.cell 1 (v := .int .i64 a) rfl
              have c2 := hcp4.cell 2 (v := .int .i64 b) rfl
              have c3 := hcp4.cell 3 (v := .int .i64 c) rfl
              have c4 := hcp4.cell 4 (v := .int .i64 n) rfl
              have c5 := hcp4.cell 5 (v := .string (strB bs)) rfl
              have c6 := hcp4.cell 6 (v := .slice ak keep.length ck) rfl
              have c7 := hcp4.cell 7 (v := .slice at' torn.length ct) rfl
              clear hcp4
              clear hr
              go_wp2_with fail
              refine HLI.out.mono ?_
              rintro e w5 ⟨rfl, hb5⟩
              clear c0 c1 c2 c3 c4 c5 c6 c7 HLI
              have hb5x := HB4.out.trans (hb5.mono HB4.out.size)
              have hcr := (HCPW.out w5 hb5x).2.1
              have HCRR := Lib.hid hcr
              have HB5 := Lib.hid hb5x
              have e0 := hcr.cell 0 (v := .int .i64 0) rfl
              have e1 := hcr.cell 1 (v := .int .i64 0) rfl
              have e2 := hcr.cell 2 (v := .int .i64 0) rfl
              have e3 := hcr.cell 3 (v := .int .i64 0) rfl
              have e4 := hcr.cell 4 (v := .int .i64 0) rfl
              have e5 := hcr.cell 5 (v := .string (strB [])) rfl
              have e6 := hcr.cell 6 (v := nilS) rfl
              have e7 := hcr.cell 7 (v := nilS) rfl
              have f0 := hcr.free 0
              have f1 := hcr.free 1
              have f2 := hcr.free 2
              have f3 := hcr.free 3
              have f4 := hcr.free 4
              have f5 := hcr.free 5
              have f6 := hcr.free 6
              have f7 := hcr.free 7
              clear hcr hb5 hb5x
              by_cases heq : L = line
              · have HZ : Hid (refP line = some ⟨K, a, b, c, n, bs, keep, torn⟩) := by show _ = _; rw [HRP3.out, heq]; simp
                have q1 : ((strB L).toList == (strB line).toList) = true := by rw [heq]; exact beq_self_eq_true _
                have hcp5 := (HCPW.out w5 HB5.out).1
                have c0 := hcp5.cell 0 (v := .int .i64 K) rfl
                have c1 := hcp5.cell 1 (v := .int .i64 a) rfl
                have c2 := hcp5.cell 2 (v := .int .i64 b) rfl
                have c3 := hcp5.cell 3 (v := .int .i64 c) rfl
                have c4 := hcp5.cell 4 (v := .int .i64 n) rfl
                have c5 := hcp5.cell 5 (v := .string (strB bs)) rfl
                have c6 := hcp5.cell 6 (v := .slice ak keep.length ck) rfl
                have c7 := hcp5.cell 7 (v := .slice at' torn.length ct) rfl
                have HRAO : Hid (∀ W', w5.grownBy W' (some r) → RActI W' (.slice ak keep.length ck) (.slice at' torn.length ct) keep torn) := fun W' hg =>
                  ⟨(Grew.ofGrown hg).row (HCPW.out w5 HB5.out).2.2.1 (fun k hk hm => by have h1 := HQX.out k (.inl hk); rw [List.mem_singleton.1 hm] at h1; exact Nat.lt_irrefl _ h1), (Grew.ofGrown hg).row (HCPW.out w5 HB5.out).2.2.2 (fun k hk hm => by have h1 := HQX.out k (.inr hk); rw [List.mem_singleton.1 hm] at h1; exact Nat.lt_irrefl _ h1)⟩
                clear heq hcp5
                go_wp2_with fail
                have hgz := grown_set8 (W := w5) (g := r) (.int .i64 K) (.int .i64 a) (.int .i64 b) (.int .i64 c) (.int .i64 n) (.string (strB bs)) (.slice ak keep.length ck) (.slice at' torn.length ct)
                have hcz := rcells_set8 HCRR.out K a b c n bs (.slice ak keep.length ck) (.slice at' torn.length ct)
                have hbz := (HBX.out.trans (HB5.out.mono HBX.out.size)).grown hgz (HBX.out.trans (HB5.out.mono HBX.out.size)).size (fun k hk => by cases hk; exact Nat.le_of_eq HR.out.symm)
                have hrz : RActI ((((((((w5.setCell ⟨r, 0, none⟩ (.int .i64 K)).setCell ⟨r, 1, none⟩ (.int .i64 a)).setCell ⟨r, 2, none⟩ (.int .i64 b)).setCell ⟨r, 3, none⟩ (.int .i64 c)).setCell ⟨r, 4, none⟩ (.int .i64 n)).setCell ⟨r, 5, none⟩ (.string (strB bs))).setCell ⟨r, 6, none⟩ (.slice ak keep.length ck)).setCell ⟨r, 7, none⟩ (.slice at' torn.length ct)) (.slice ak keep.length ck) (.slice at' torn.length ct) keep torn := HRAO.out _ hgz
                clear e0 e1 e2 e3 e4 e5 e6 e7 f0 f1 f2 f3 f4 f5 f6 f7 c0 c1 c2 c3 c4 c5 c6 c7 hgz
                generalize ((((((((w5.setCell ⟨r, 0, none⟩ (.int .i64 K)).setCell ⟨r, 1, none⟩ (.int .i64 a)).setCell ⟨r, 2, none⟩ (.int .i64 b)).setCell ⟨r, 3, none⟩ (.int .i64 c)).setCell ⟨r, 4, none⟩ (.int .i64 n)).setCell ⟨r, 5, none⟩ (.string (strB bs))).setCell ⟨r, 6, none⟩ (.slice ak keep.length ck)).setCell ⟨r, 7, none⟩ (.slice at' torn.length ct)) = W9 at hcz hbz hrz ⊢
                have e0 := hcz.cell 0 (v := .int .i64 K) rfl
                have e1 := hcz.cell 1 (v := .int .i64 a) rfl
                have e2 := hcz.cell 2 (v := .int .i64 b) rfl
                have e3 := hcz.cell 3 (v := .int .i64 c) rfl
                have e4 := hcz.cell 4 (v := .int .i64 n) rfl
                have e5 := hcz.cell 5 (v := .string (strB bs)) rfl
                have e6 := hcz.cell 6 (v := .slice ak keep.length ck) rfl
                have e7 := hcz.cell 7 (v := .slice at' torn.length ct) rfl
                exact bodyPost_ret (v := .tuple #[.agg (rCells K a b c n bs (.slice ak keep.length ck) (.slice at' torn.length ct)), .bool true]) (by simp [results, Tryz.results18, go_sem, e0, e1, e2, e3, e4, e5, e6, e7, rCells]) rfl ⟨_, _, ⟨K, a, b, c, n, bs, keep, torn⟩, by rw [HZ.out]; rfl, by rw [HZ.out]; rfl, hrz, (fun q hq => by have h1 := HQX.out q hq; have h2 := HR.out; omega), hbz⟩
              · have HZ : Hid (refP line = none) := by
                  show _ = _
                  rw [HRP3.out, if_neg]
                  simpa using heq
                have q1 : ((strB L).toList == (strB line).toList) = false := beq_eq_false_iff_ne.2 (fun e => heq (by rw [strB_tl, strB_tl] at e; exact e))
                clear heq
                go_wp2_with fail
                have hgz := grown_set8 (W := w5) (g := r) (.int .i64 0) (.int .i64 0) (.int .i64 0) (.int .i64 0) (.int .i64 0) (.string ⟨#[]⟩) (.slice none 0 0) (.slice none 0 0)
                have hcz : CellsAt ((((((((w5.setCell ⟨r, 0, none⟩ (.int .i64 0)).setCell ⟨r, 1, none⟩ (.int .i64 0)).setCell ⟨r, 2, none⟩ (.int .i64 0)).setCell ⟨r, 3, none⟩ (.int .i64 0)).setCell ⟨r, 4, none⟩ (.int .i64 0)).setCell ⟨r, 5, none⟩ (.string ⟨#[]⟩)).setCell ⟨r, 6, none⟩ (.slice none 0 0)).setCell ⟨r, 7, none⟩ (.slice none 0 0)) r 31 (rCells 0 0 0 0 0 [] (.slice none 0 0) (.slice none 0 0)) := rcells_set8 HCRR.out 0 0 0 0 0 [] (.slice none 0 0) (.slice none 0 0)
                have hbz := (HBX.out.trans (HB5.out.mono HBX.out.size)).grown hgz (HBX.out.trans (HB5.out.mono HBX.out.size)).size (fun k hk => by cases hk; exact Nat.le_of_eq HR.out.symm)
                clear e0 e1 e2 e3 e4 e5 e6 e7 f0 f1 f2 f3 f4 f5 f6 f7 hgz
                generalize ((((((((w5.setCell ⟨r, 0, none⟩ (.int .i64 0)).setCell ⟨r, 1, none⟩ (.int .i64 0)).setCell ⟨r, 2, none⟩ (.int .i64 0)).setCell ⟨r, 3, none⟩ (.int .i64 0)).setCell ⟨r, 4, none⟩ (.int .i64 0)).setCell ⟨r, 5, none⟩ (.string ⟨#[]⟩)).setCell ⟨r, 6, none⟩ (.slice none 0 0)).setCell ⟨r, 7, none⟩ (.slice none 0 0)) = W9 at hcz hbz ⊢
                have e0 := hcz.cell 0 (v := .int .i64 0) rfl
                have e1 := hcz.cell 1 (v := .int .i64 0) rfl
                have e2 := hcz.cell 2 (v := .int .i64 0) rfl
                have e3 := hcz.cell 3 (v := .int .i64 0) rfl
                have e4 := hcz.cell 4 (v := .int .i64 0) rfl
                have e5 := hcz.cell 5 (v := .string ⟨#[]⟩) rfl
                have e6 := hcz.cell 6 (v := .slice none 0 0) rfl
                have e7 := hcz.cell 7 (v := .slice none 0 0) rfl
                exact bodyPost_ret (v := .tuple #[.agg (rCells 0 0 0 0 0 [] (.slice none 0 0) (.slice none 0 0)), .bool false]) (by simp [results, Tryz.results18, go_sem, e0, e1, e2, e3, e4, e5, e6, e7, rCells, strB]) rfl ⟨.slice none 0 0, .slice none 0 0, ac0 0, by rw [HZ.out]; rfl, by rw [HZ.out]; rfl, ⟨RowL.nil _, RowS.nil _⟩, (fun q hq => by rcases hq with hq | hq <;> cases hq), hbz⟩
end Go.Proofs.YtbcpciegdmminaaGreatDoor
