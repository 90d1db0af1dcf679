/- The finder's push: a trip goes on by all edges from where it leads. -/
import Derived.Test.YthabjnppmhlomaaDoorPnH
import Derived.Deep.DeepCutAuto
import Derived.Deep.CutRange
import Derived.Deep.AppendLies
import Derived.Deep.MidRow
namespace Go.Proofs.YthabjnppmhlomaaDoor
open Go Go.RowKit
set_option linter.unusedVariables false
theorem infoZ : (Tryd.prog.info? 3).map (fun i => (i.zero, i.size, i.bytes)) = some (some (.int .i64 0), 1, 8) := by kernel_rfl
theorem sizeT : (Tryd.prog.info? 56).map (·.size) = some 3 := by kernel_rfl
theorem zeroT (w : World) : (zeroValue 56).run Tryd.prog w = .ok (.agg #[.int .i64 0, .int .i64 0, .slice none 0 0]) w := by kernel_rfl
theorem zeroS (w : World) : (zeroValue 23).run Tryd.prog w = .ok (.slice none 0 0) w := by kernel_rfl
def BT (Bm : Int → Option TM) : Int → Option Tr := fun v => (Bm v).map Prod.fst
def PsP (B b0 F mf mb : Nat) (L : List Eg) (w : World) (lv : Value) (fr : Int → Option Value) (X : List Int) (t : Tr) (s nb : Nat) (e : Ending) (w' : World) : Prop :=
  e = .returned (.tuple #[]) ∧ ∃ qv' Bm' Qm' nb', FI B b0 F mf mb L w' lv qv' fr Bm' Qm' nb' ∧ nb' ≤ nb + (fromV L t.to).length ∧ Mid L (BT Bm') (Qm'.map Prod.fst) X t s (fromV L t.to).length ∧ Below b0 w w'
def FoldR (B b0 F mf mb : Nat) (L : List Eg) (w : World) (lv : Value) (fr : Int → Option Value) (X : List Int) (t : TM) (s nb T0 : Nat) (k : Nat) (wr : World) : Prop :=
  ∃ qv Bm Qm nb', FI B b0 F mf mb L wr lv qv fr Bm Qm nb' ∧ nb' ≤ nb + k ∧ Mid L (BT Bm) (Qm.map Prod.fst) X t.1 s k ∧ Below b0 w wr ∧ tOk (fun k => k = F ∨ qv.ownBlock = some k) wr t ∧ CellsAt wr T0 56 #[.int .i64 t.1.to, .int .i64 t.1.sum, tV t] ∧ qv.ownBlock ≠ some T0
theorem CellsAt.allocC {w : World} {b : Nat} {cs : Array Value} {T : TypeId} {o : Obj} (h : CellsAt w b T cs) : CellsAt (w.alloc o) b T cs := h.stays ((Below.refl _ _).alloc (Nat.le_refl _) o)
theorem CellsAt.new' {w : World} {b : Nat} {cs : Array Value} {T : TypeId} (h : b = w.heap.size) : CellsAt (w.alloc (.cells cs T)) b T cs := by rw [h]; exact CellsAt.new w cs T
theorem grown_then {w w' : World} {row : Option Nat} {g : Nat} {T : TypeId} {cs : Array Value} {G : Prop} (hg : w.grownBy w' row) (hc : CellsAt w g T cs) (hne : row ≠ some g) (h : CellsAt w' g T cs → G) : G := h (hc.grown hg hne)
theorem far_hi {w w' : World} {row : Option Nat} {lo hi : Nat} (hg : w.grownBy w' row) (hv : ∀ k, row = some k → lo ≤ k ∧ k < hi) : ∀ b o, hi ≤ b → b < w.heap.size → w'.cell? ⟨b, o, none⟩ = w.cell? ⟨b, o, none⟩ := fun b o h1 h2 =>
  World.cell?_of_block (a := ⟨b, o, none⟩) (hg.block b h2 (fun e => by have := (hv b e.symm).2; omega))
theorem far_lo {w w' : World} {row : Option Nat} {lo hi : Nat} (hg : w.grownBy w' row) (hv : ∀ k, row = some k → lo ≤ k ∧ k < hi) : ∀ b o, b < lo → b < w.heap.size → w'.cell? ⟨b, o, none⟩ = w.cell? ⟨b, o, none⟩ := fun b o h1 h2 =>
  World.cell?_of_block (a := ⟨b, o, none⟩) (hg.block b h2 (fun e => by have := (hv b e.symm).1; omega))
theorem frz_hi {w w' : World} {row : Option Nat} {lo hi : Nat} (hg : w.grownBy w' row) (hv : ∀ k, row = some k → lo ≤ k ∧ k < hi) : ∀ b o, hi ≤ b → b < w.heap.size → w'.frozen? ⟨b, o, none⟩ = w.frozen? ⟨b, o, none⟩ := fun b o h1 h2 => by
  simp only [World.frozen?, hg.block b h2 (fun e => by have := (hv b e.symm).2; omega)]
theorem frz_lo {w w' : World} {row : Option Nat} {lo hi : Nat} (hg : w.grownBy w' row) (hv : ∀ k, row = some k → lo ≤ k ∧ k < hi) : ∀ b o, b < lo → b < w.heap.size → w'.frozen? ⟨b, o, none⟩ = w.frozen? ⟨b, o, none⟩ := fun b o h1 h2 => by
  simp only [World.frozen?, hg.block b h2 (fun e => by have := (hv b e.symm).1; omega)]
theorem bcell {W w1 : World} (hb : Below W.heap.size W w1) : (∀ b o, b < W.heap.size → w1.cell? ⟨b, o, none⟩ = W.cell? ⟨b, o, none⟩) ∧ (∀ b o, b < W.heap.size → w1.frozen? ⟨b, o, none⟩ = W.frozen? ⟨b, o, none⟩) :=
  ⟨fun b o h => hb.cell (p := ⟨b, o, none⟩) h, fun b o h => hb.frozen (p := ⟨b, o, none⟩) h⟩
theorem own_ne {w : World} {B n size z : Nat} {E T : TypeId} {v : Value} {xs : List Value} {c : Array Value} (ho : w.ownsRow B E size v n xs) (hc : CellsAt w z T c) (hT : E ≠ T) : ∀ k, v.ownBlock = some k → some z ≠ some k := fun k hk e => by
  cases e
  rcases ho.2 with ⟨h1, _⟩ | ⟨g, cap, cur, h1, h2, h3, _⟩
  · rw [h1] at hk; cases hk
  · rw [h1] at hk
    cases hk
    unfold CellsAt at hc
    rw [h3] at hc
    cases hc
    exact hT rfl
/-- behind the new trip's making: where it lies, and its path -/
def Post5 (W2 : World) (d sm : Int) (tp : List Int) (i : Nat) (p7 : Value) (wx : World) : Prop := ∃ (b7 gg cg : Nat), p7 = .pointer (some ⟨b7, 0, none⟩) ∧ CellsAt wx b7 56 #[.int .i64 d, .int .i64 sm, .slice (some ⟨gg, 0, none⟩) (tp.length + 1) cg] ∧ RowZ wx (.slice (some ⟨gg, 0, none⟩) (tp.length + 1) cg) (tp ++ [(i : Int)]) ∧ W2.heap.size ≤ gg ∧ gg < wx.heap.size ∧ W2.heap.size ≤ b7 ∧ Below W2.heap.size W2 wx
theorem Post5.drew {W2 : World} {d sm : Int} {tp : List Int} {i : Nat} {p7 : Value} {wx : World} (h : Post5 W2 d sm tp i p7 wx) : Post5 W2 d sm tp i p7 wx.drew :=
  let ⟨b7, gg, cg, h1, h2, h3, h4, h5, h6, h7⟩ := h
  ⟨b7, gg, cg, h1, h2, h3, h4, h5, h6, h7.drew⟩
theorem row5 {w6 : World} {B gg cg : Nat} {tp : List Int} {i : Nat} (ho : w6.ownsRow B 3 1 (.slice (some ⟨gg, 0, none⟩) (tp.length + 1) cg) (tp.length + 1) (tp.map IV ++ [.int .i64 (i : Int)])) : RowZ w6 (.slice (some ⟨gg, 0, none⟩) (tp.length + 1) cg) (tp ++ [(i : Int)]) := by
  have := Row.ofOwn ho
  unfold RowZ
  simpa [IV] using this
theorem Post5.alloc {W2 w6 : World} {d s1 sm : Int} {tp : List Int} {i gg cg : Nat} (hs : sm = s1) (ho : w6.ownsRow W2.heap.size 3 1 (.slice (some ⟨gg, 0, none⟩) (tp.length + 1) cg) (tp.length + 1) (tp.map IV ++ [.int .i64 (i : Int)])) (hb : Below W2.heap.size W2 w6) :
    Post5 W2 d sm tp i (.pointer (some ⟨w6.heap.size, 0, none⟩)) (w6.alloc (.cells #[.int .i64 d, .int .i64 s1, .slice (some ⟨gg, 0, none⟩) (tp.length + 1) cg] 56)) := by
  subst hs
  have hl := World.ownsRow.lt ho gg rfl
  exact ⟨_, gg, cg, rfl, CellsAt.new w6 _ _, Row.stays (row5 ho) ((Below.refl _ _).alloc (Nat.le_refl _) _), hl.1, by simp; omega, hb.size, below_al hb _⟩
theorem Post5.set {W2 w6 : World} {d s1 sm : Int} {tp : List Int} {i gg cg z : Nat} (hs : sm = s1) (hz : W2.heap.size ≤ z) (ho : w6.ownsRow W2.heap.size 3 1 (.slice (some ⟨gg, 0, none⟩) (tp.length + 1) cg) (tp.length + 1) (tp.map IV ++ [.int .i64 (i : Int)])) (hb : Below W2.heap.size W2 w6)
    (hc : CellsAt w6 z 56 #[.int .i64 0, .int .i64 0, .slice none 0 0]) :
    Post5 W2 d sm tp i (.pointer (some ⟨z, 0, none⟩)) (((w6.setCell ⟨z, 0, none⟩ (.int .i64 d)).setCell ⟨z, 1, none⟩ (.int .i64 s1)).setCell ⟨z, 2, none⟩ (.slice (some ⟨gg, 0, none⟩) (tp.length + 1) cg)) := by
  subst hs
  have hl := World.ownsRow.lt ho gg rfl
  have hg := grown_three (g := z) (a := 0) (b := 1) (d := 2) (u := .int .i64 d) (v := .int .i64 sm) (x := .slice (some ⟨gg, 0, none⟩) (tp.length + 1) cg) (grownBy_refl w6 (some z))
  have hne := own_ne ho hc (by decide)
  exact ⟨z, gg, cg, rfl, by simpa using ((hc.set 0 (.int .i64 d)).set 1 (.int .i64 sm)).set 2 (.slice (some ⟨gg, 0, none⟩) (tp.length + 1) cg), row5 (own_grown ho hg hne), hl.1, by have := hg.size; omega, hz, hb.grown hg hb.size (fun k hk => by cases hk; exact hz)⟩
theorem useful2 {B : Nat} {w w' : World} (h : Below B w w') : w.heap.size ≤ w'.heap.size := h.size
theorem useful {P G : Prop} (h : P) (k : P → G) : G := k h
theorem grew_setCells1 {g : Nat} {a : World} : ∀ (vs : List Value) (o : Nat) {w : World}, a.grownBy w (some g) → a.grownBy (w.setCells g o vs) (some g)
  | [], _, _, h => h
  | v :: r, o, w, h => grew_setCells1 r (o + 1) (grownBy_setCell h ⟨g, o, none⟩ (.inl rfl) v)
theorem cells_set3 {w : World} {g : Nat} {T : TypeId} {c0 c1 c2 v0 v1 v2 : Value} (h : CellsAt w g T #[c0, c1, c2]) : CellsAt (w.setCells g 0 [v0, v1, v2]) g T #[v0, v1, v2] := by
  simp only [World.setCells]
  simpa using ((h.set 0 v0).set 1 v1).set 2 v2
/-- three cells are stored into a block that is known whole, in a region that draws its order -/
theorem step_store3 {P : Program} {w : World} {ops : Array Oper} {o : Oper} {a : Act} {K : Act → World → Prop} {Q : Exit → Act → World → Prop} {EE : Prop} (hgd : o.guard = none) (E : TypeId) (x y : Operand) (hop : o.op = Op.store E x y) (g : Nat) (hx : a.eval x = .pointer (some ⟨g, 0, none⟩)) (v0 v1 v2 : Value) (hy : a.eval y = .agg #[v0, v1, v2])
    (T : TypeId) (c0 c1 c2 : Value) (hc : CellsAt w g T #[c0, c1, c2]) (hi : (P.info? E).map (·.size) = some 3) (h1 : (#[v0, v1, v2] : Array Value).all (·.oneCell') = true)
    (h : ∀ w', CellsAt w g T #[c0, c1, c2] → CellsAt w' g T #[v0, v1, v2] → w.grownBy w' (some g) → K (a.put o.dst undef) w') : if Region.wanted o (yielded ops a.tmps) = true then Oper.wp P o a w K Q else EE := by
  have hw : Region.wanted o (yielded ops a.tmps) = true := by simp [Region.wanted, hgd]
  rw [if_pos hw]
  have ht : w.there g 0 (#[v0, v1, v2] : Array Value).size := fun j hj => by
    rw [Nat.zero_add]
    have hj' : j < 3 := by simpa using hj
    exact ⟨by rw [hc.cell j (Array.getElem?_eq_getElem (show j < (#[c0, c1, c2] : Array Value).size by simpa using hj'))]; rfl, hc.free j⟩
  exact wp_store_mid E x y hop g 0 _ hx hy ht hi h1 (h _ hc (cells_set3 hc) (grew_setCells1 _ _ (grownBy_refl _ _)))
theorem FoldR.stays {B b0 F mf mb : Nat} {L : List Eg} {w wr w' : World} {lv : Value} {fr : Int → Option Value} {X : List Int} {t : TM} {s nb T0 k : Nat} (h : FoldR B b0 F mf mb L w lv fr X t s nb T0 k wr) (hb : Below wr.heap.size wr w') : FoldR B b0 F mf mb L w lv fr X t s nb T0 k w' := by
  obtain ⟨qv, Bm, Qm, nb', h1, h2, h3, h4, h5, h6, h7⟩ := h
  exact ⟨qv, Bm, Qm, nb', h1.stays hb, h2, h3, h4.trans (hb.mono (by have := h1.lo; have := h1.q.1.2.2.2; omega)), h5.stays hb, h6.stays hb, h7⟩
theorem below_drewQ {w w' : World} {B n : Nat} (h : Below B w w') : Below B w (w'.drewN n) := ⟨h.os, h.tape, h.output, h.size, h.block⟩
section
variable {B b0 F mf mb : Nat} {L : List Eg} {w : World} {lv qv : Value} {fr : Int → Option Value} {Bm : Int → Option TM} {Qm : List TM} {nb : Nat}
set_option maxRecDepth 100000 in
set_option maxHeartbeats 2000000 in
theorem push_any (hL : RightE L) (hlen : L.length ≤ 3000) (h : FI B b0 F mf mb L w lv qv fr Bm Qm nb) (t : TM) (ht : tOk (fun k => k = F ∨ qv.ownBlock = some k) w t) {X : List Int} {s : Nat} (hM : Mid L (BT Bm) (Qm.map Prod.fst) X t.1 s 0) (hnb : nb ≤ 3000) :
    Calls Tryd.prog 30 #[.pointer (some ⟨F, 0, none⟩), .agg #[.int .i64 t.1.to, .int .i64 t.1.sum, tV t]] w (PsP B b0 F mf mb L w lv fr X t.1 s nb) := by
  obtain ⟨⟨tt, ts, tp⟩, ta, tc⟩ := t
  simp only [tV]
  obtain ⟨W0, hW0⟩ : ∃ W0, W0 = w.alloc (.cells #[.int .i64 tt, .int .i64 ts, .slice ta tp.length tc] 56) := ⟨_, rfl⟩
  have hb0 : Below w.heap.size w W0 := by rw [hW0]; exact (Below.refl _ _).alloc (Nat.le_refl _) _
  obtain ⟨T0, hT0⟩ : ∃ T0, T0 = w.heap.size := ⟨_, rfl⟩
  have hcT : CellsAt W0 T0 56 #[.int .i64 tt, .int .i64 ts, .slice ta tp.length tc] := by rw [hW0, hT0]; exact CellsAt.new w _ _
  have hFI0 := h.stays hb0
  have htn : i64 tt := ht.1
  obtain ⟨nf, hmf⟩ := hFI0.frm
  have hrow := (h.frow tt).1
  obtain ⟨fa, fc, hfv, -, -⟩ := hrow.gen.shape
  have hfl : (idxs L tt).length = (fromV L tt).length := by simp [idxs]
  rw [hfl] at hfv
  have c1 : W0.cell? ⟨F, 1, none⟩ = some (.map (some mf)) := hFI0.q.1.1.cell 1 rfl
  have d0 : W0.cell? ⟨T0, 0, none⟩ = some (.int .i64 tt) := hcT.cell 0 rfl
  have hlkN : ∀ q : Nat, (Instr.lookup 58 (.map (some mf)) (.int .i64 tt) false).run Tryd.prog (W0.drewN q) = .ok (.slice fa (fromV L tt).length fc) (W0.drewN q) := fun q => by
    have := lookI1_run (hmf.drewN q) Tryd.underlying3 Tryd.underlying58 (zeroS _) tt htn
    change _ = Result.ok (frV fr tt) _ at this
    rw [hfv] at this
    exact this
  have HW := Lib.hid hW0
  have HT := Lib.hid hT0
  have HFV := Lib.hid hfv
  have HREL : Hid (FoldR B b0 F mf mb L w lv fr X ((⟨tt, ts, tp⟩, ta, tc) : TM) s nb T0 0 W0) := ⟨qv, Bm, Qm, nb, hFI0, by omega, hM, hb0.mono (by have := h.lo; have := h.q.1.2.2.2; omega), ht.stays hb0, hcT, fun e => by have := (h.q.1.2.1.lt T0 e).2; omega⟩
  have hfroml : (fromV L tt).length ≤ 3000 := by
    refine Nat.le_trans (List.length_filter_le _ _) ?_
    simpa using hlen
  clear h ht hM hb0 hcT hFI0 hmf hrow hfl hW0 hT0 hfv
  go_enter Tryd.func30, Tryd.ntmps30
  go_upto_region 1 with fail
  rw [← HW.out, ← HT.out]
  go_quiet (fail)
  have HREL2 : Hid (FoldR B b0 F mf mb L w lv fr X ((⟨tt, ts, tp⟩, ta, tc) : TM) s nb T0 0 (W0.drewN nq)) := HREL.out.stays (below_drewQ (Below.refl _ _))
  generalize W0.drewN nq = W1 at HREL2 ⊢
  clear HREL hlkN c1 d0 HW HT
  go_wp2_with fail
  go_loopw [18] (fun u wr => ∃ k : Nat, u = .int .i64 k ∧ k ≤ (fromV L tt).length ∧ Hid (FoldR B b0 F mf mb L w lv fr X ((⟨tt, ts, tp⟩, ta, tc) : TM) s nb T0 k wr)) (fun u _ => (fromV L tt).length - (intOf u).toNat)
  case atStart => exact ⟨0, rfl, Nat.zero_le _, HREL2.out⟩
  case round =>
    clear HREL2
    obtain ⟨k, rfl, hk, HR⟩ := hrel
    by_cases h1 : k < (fromV L tt).length
    · obtain ⟨qv, Bm, Qm, nb', hFI, hnb', hM, hbe, htk, hcT, hqT⟩ := HR.out
      have hi := List.getElem?_eq_getElem h1
      generalize (fromV L tt)[k] = i at hi
      obtain ⟨e, he, hes⟩ := fromV_mem.1 (List.mem_of_getElem? hi)
      have hrow := (hFI.frow tt).1
      rw [HFV.out] at hrow
      have hix : (idxs L tt)[k]? = some (i : Int) := by simp [idxs, hi]
      have hrow' : RowL IV wr (.slice fa (idxs L tt).length fc) (idxs L tt) := by
        rw [show (idxs L tt).length = (fromV L tt).length by simp [idxs]]; exact hrow
      obtain ⟨fa', fc', hq, -, hcell⟩ := hrow'.shape
      cases hq
      obtain ⟨fb, fo, rfl, e0⟩ := hcell k _ hix
      obtain ⟨la, lc, rfl, hLl, hlc⟩ := hFI.row.shape eC_len
      obtain ⟨lb, lo, rfl, hec⟩ := hlc i e he
      have e1 : wr.cell? ⟨lb, lo + i * 3, none⟩ = some (.int .i64 e.src) := by simpa using hec 0 _ rfl
      have e2 : wr.cell? ⟨lb, lo + i * 3 + 1, none⟩ = some (.int .i64 e.dst) := by rw [Nat.add_assoc]; exact hec 1 _ rfl
      have e3 : wr.cell? ⟨lb, lo + i * 3 + 2, none⟩ = some (.int .i64 e.cost) := by rw [Nat.add_assoc]; exact hec 2 _ rfl
      have e4 : wr.cell? ⟨F, 0, none⟩ = some (.slice (some ⟨lb, lo, none⟩) L.length lc) := hFI.q.1.1.cell 0 rfl
      have hiL := (List.getElem?_eq_some_iff.1 he).1
      unfold maxLen at hLl
      have HFI := Lib.hid hFI
      have HM := Lib.hid hM
      have HBE := Lib.hid hbe
      have HTK := Lib.hid htk
      have HCT := Lib.hid hcT
      have HQT := Lib.hid hqT
      have HI := Lib.hid hi
      have HE := Lib.hid he
      have HES := Lib.hid hes
      have hnb2 := hnb'
      have e0' : wr.cell? ⟨fb, fo + k, none⟩ = some (.int .i64 (i : Int)) := e0
      clear HR hFI hM hbe htk hcT hqT hi he hes hrow hix hrow' hcell hlc hec hnb' e0
      have hb : IsT L ⟨tt, ts, tp⟩ := HM.out.trip.1
      have hbd := hb.bd hL
      have hbde := hL.at HE.out
      simp only at hbd
      have hplen : tp.length ≤ 401 := by omega
      have hsum : 0 ≤ ts ∧ ts ≤ 420478976 := by omega
      obtain ⟨W2, hW2⟩ : ∃ W2, W2 = wr.alloc (.cells #[.int .i64 e.src, .int .i64 e.dst, .int .i64 e.cost] 52) := ⟨_, rfl⟩
      obtain ⟨g6, hg6⟩ : ∃ g6, g6 = wr.heap.size := ⟨_, rfl⟩
      have hb2 : Below wr.heap.size wr W2 := by rw [hW2]; exact (Below.refl _ _).alloc (Nat.le_refl _) _
      have hcE : CellsAt W2 g6 52 #[.int .i64 e.src, .int .i64 e.dst, .int .i64 e.cost] := by rw [hW2, hg6]; exact CellsAt.new wr _ _
      have hcT2 := HCT.out.stays hb2
      have htk2 := HTK.out.stays hb2
      have HCL : Hid (∀ W, Below W2.heap.size W2 W → Calls Tryd.prog 22 #[.slice ta tp.length tc] W fun e w' => ∃ (a' : Option Addr) (c' : Nat), e = .returned (.slice a' tp.length c') ∧ OwnL 3 IV W.heap.size w' (.slice a' tp.length c') tp ∧ Below W.heap.size W w' ∧ Below W2.heap.size W2 w' ∧ W2.heap.size ≤ W.heap.size) := fun W hW =>
        (cloneZ_any _ tp W (Row.stays htk2.2.2.2.1 hW) (by omega)).mono fun _ _ ⟨v', h1, h2, h3⟩ => by
          obtain ⟨a', c', rfl, -, -⟩ := h2.row.shape
          exact ⟨a', c', h1, h2, h3, hW.trans (h3.mono hW.size), hW.size⟩
      have HS : Hid (∀ W, Below W2.heap.size W2 W → Below W2.heap.size W2 W ∧ W.cell? ⟨g6, 1, none⟩ = some (.int .i64 e.dst) ∧ W.cell? ⟨g6, 2, none⟩ = some (.int .i64 e.cost) ∧ W.cell? ⟨T0, 1, none⟩ = some (.int .i64 ts) ∧ W.cell? ⟨T0, 2, none⟩ = some (.slice ta tp.length tc)) := fun W hW => by
        have h1 := hcE.stays hW
        have h2 := hcT2.stays hW
        exact ⟨hW, h1.cell 1 rfl, h1.cell 2 rfl, h2.cell 1 rfl, h2.cell 2 rfl⟩
      have HW2 := Lib.hid hW2
      have HG6 := Lib.hid hg6
      have HB2 := Lib.hid hb2
      have HCE := Lib.hid hcE
      have HBD := Lib.hid hbde
      have wz1 : IntKind.i64.wrap (ts + e.cost) = ts + e.cost := IntWalk.i64_in _ (by omega)
      obtain ⟨sm, hsm⟩ : ∃ sm, sm = ts + e.cost := ⟨_, rfl⟩
      have HSM := Lib.hid hsm
      clear hb hbd hbde hW2 hg6 hb2 hcE hcT2 htk2 hsm
      go_upto_region 5 with fail
      rw [← HW2.out, ← HG6.out]
      clear e0' e1 e2 e3 e4
      go_cut [7] from 29 to 42 (fun p7 wx => Post5 W2 e.dst sm tp i p7 wx)
      case first =>
        obtain ⟨i0, hi0, hz0, hz1, hz2⟩ := info_parts infoZ
        have hd0 : Below W2.heap.size W2 W2 := Below.refl _ _
        have hd1 : Below W2.heap.size W2 W2.drew := hd0.drew
        go_region_held3 (fun W => Below W2.heap.size W2 W ∧ W.cell? ⟨g6, 1, none⟩ = some (.int .i64 e.dst) ∧ W.cell? ⟨g6, 2, none⟩ = some (.int .i64 e.cost) ∧ W.cell? ⟨T0, 1, none⟩ = some (.int .i64 ts) ∧ W.cell? ⟨T0, 2, none⟩ = some (.slice ta tp.length tc))
          ((refine HS.out _ ?_; (repeat (first | (with_reducible assumption) | (with_reducible refine below_al ?_ _) | (with_reducible refine Below.drew ?_) | (with_reducible refine Below.setCell ?_ (by first | exact Nat.le_refl _ | (simp; done) | (simp; omega) | omega) _) | (with_reducible exact Below.refl _ _))); done))
          ((first
            | (go_at_call 22; (with_reducible refine (HCL.out _ ?_).mono ?_); (focus ((repeat (first | (with_reducible assumption) | (with_reducible refine below_al ?_ _) | (with_reducible refine Below.drew ?_) | (with_reducible exact Below.refl _ _))); done)); rintro e5 w5 ⟨a5, c5, rfl, ho5, hb5, hb7, hlo5⟩; have ho5' : w5.ownsRow W2.heap.size 3 1 (.slice a5 tp.length c5) tp.length (tp.map IV) := own_mono ho5 hlo5; have hv5 : ∀ k, (Value.slice a5 tp.length c5).ownBlock = some k → _ ≤ k ∧ k < w5.heap.size := fun k hk => World.ownsRow.lt ho5 k hk; have hs7 := hb7.size; have hs5 := hb5.size; (try (refine useful (P := W2.heap.size < w5.heap.size) ?_ ?_; (focus (simp at hs5; omega)); intro q1)); (try (refine useful (P := W2.heap.size + 1 < w5.heap.size) ?_ ?_; (focus (simp at hs5; omega)); intro q2)); obtain ⟨hc5, hf5⟩ := bcell hb5)
            | (refine step_append_lies _ (by rfl) _ _ 23 (by rfl) W2.heap.size 3 i0 _ 1 8 Tryd.underlying23 hi0 hz0 hz1 hz2 rfl (by omega) (.slice a5 tp.length c5) tp.length (tp.map IV) (by rfl) ?_ ⟨_, 0, none⟩ 1 1 [.int .i64 (i : Int)] (by rfl) (by rfl) (World.news_of_block (cs := #[.int .i64 (i : Int)]) (t := 3) (fr := (0, 0)) ?_) (by simp [Value.oneCell']) (by omega) (by unfold maxLen; omega) (by omega) (useful2 (B := W2.heap.size) ?_) _ rfl ?_; (focus ((repeat (first | (with_reducible exact ho5') | (with_reducible refine World.ownsRow.alloc ?_ _))); done)); (focus ((show CellsAt _ _ 3 #[.int .i64 (i : Int)]; repeat (first | (with_reducible exact CellsAt.new _ _ _) | (with_reducible refine CellsAt.new' ?_; simp; done) | (with_reducible refine CellsAt.allocC ?_) | (with_reducible refine CellsAt.drew ?_) | (with_reducible refine CellsAt.stays ?_ hb5))); done)); (focus ((repeat (first | (with_reducible assumption) | (with_reducible refine below_al ?_ _) | (with_reducible refine Below.drew ?_) | (with_reducible exact Below.refl _ _))); done)); intro gg cg w6 ho6 hg6 lies6 lt6; refine useful (P := Below W2.heap.size W2 w6) ?_ ?_; (focus (refine Below.grown ?_ hg6 (useful2 (B := W2.heap.size) ?_) (fun k hk => (World.ownsRow.lt ho5' k hk).1) <;> ((repeat (first | (with_reducible assumption) | (with_reducible refine below_al ?_ _) | (with_reducible refine Below.drew ?_) | (with_reducible exact Below.refl _ _))); done))); intro hb8; have hzz := hb8.size; have hf1 := far_hi hg6 hv5; have hf2 := far_lo hg6 hv5; have hf3 := frz_hi hg6 hv5; have hf4 := frz_lo hg6 hv5)))
        all_goals clear hi0 hz0 hz1 hz2
        all_goals go_wp2_with fail
        all_goals go_meet
        all_goals first
          | exact Post5.alloc HSM.out ho6 hb8
          | exact (Post5.alloc HSM.out ho6 hb8).drew
          | exact Post5.set HSM.out (by first | exact Nat.le_refl _ | (simp; done) | omega) ho6 hb8 (CellsAt.grown (by (repeat (first | (with_reducible exact CellsAt.new _ _ _) | (with_reducible refine CellsAt.new' ?_; simp; done) | (with_reducible refine CellsAt.allocC ?_) | (with_reducible refine CellsAt.drew ?_) | (with_reducible refine CellsAt.stays ?_ hb5)))) hg6 (fun hk => by have hkk := hv5 _ hk; first | omega | (simp at hkk; done) | (simp at hkk; omega)))
          | exact (Post5.set HSM.out (by first | exact Nat.le_refl _ | (simp; done) | omega) ho6 hb8 (CellsAt.grown (by (repeat (first | (with_reducible exact CellsAt.new _ _ _) | (with_reducible refine CellsAt.new' ?_; simp; done) | (with_reducible refine CellsAt.allocC ?_) | (with_reducible refine CellsAt.drew ?_) | (with_reducible refine CellsAt.stays ?_ hb5)))) hg6 (fun hk => by have hkk := hv5 _ hk; first | omega | (simp at hkk; done) | (simp at hkk; omega)))).drew
      case rest =>
        obtain ⟨b7, gg, cg, rfl, hc7, hr7, hgg, hgl, hb7l, hbW⟩ := hcut
        obtain ⟨we, rfl⟩ : ∃ we : World, we = wc := ⟨_, rfl⟩
        have hbc : Below wr.heap.size wr we := HB2.out.trans (hbW.mono HB2.out.size)
        have hFIc := HFI.out.stays hbc
        have hcE := HCE.out.stays hbW
        have hsz2 := HB2.out.size
        have hlenx : (tp ++ [(i : Int)]).length = tp.length + 1 := by simp
        have hnx : tOk (fun k => k = F ∨ qv.ownBlock = some k) we ((⟨e.dst, sm, tp ++ [(i : Int)]⟩, some ⟨gg, 0, none⟩, cg) : TM) := by
          have hq := fun k (hk : qv.ownBlock = some k) => (HFI.out.q.1.2.1.lt k hk).2
          have hF := HFI.out.q.1.1.lt
          have hB := HBD.out
          have hS := HSM.out
          refine ⟨⟨by simp only; omega, by simp only; omega⟩, ⟨by simp only; omega, by simp only; omega⟩, by simp only [hlenx]; omega, ?_, fun k hk => ?_⟩
          · unfold tV; simp only [hlenx]; exact hr7
          · obtain rfl : gg = k := by simpa [tV, Value.ownBlock] using hk
            refine ⟨fun h => ?_, hgl⟩
            rcases h with h | h
            · omega
            · have := hq _ h; omega
        have HNX := Lib.hid hnx
        obtain ⟨⟨⟨ot, os, op⟩, oa, oc⟩, hold⟩ : ∃ x : TM, x = (Bm e.dst).getD (⟨0, 0, []⟩, none, 0) := ⟨_, rfl⟩
        obtain ⟨isb, hisb⟩ : ∃ b, b = (Bm e.dst).isSome := ⟨_, rfl⟩
        have HLK : Hid (∀ W, Below we.heap.size we W → (Instr.lookup 59 (.map (some mb)) (.int .i64 e.dst) true).run Tryd.prog W = .ok (.tuple #[.agg #[.int .i64 ot, .int .i64 os, .slice oa op.length oc], .bool isb]) W) := fun W hW => by
          have h1 := lookI_run (hFIc.stays hW).best Tryd.underlying3 Tryd.underlying59 (zeroT W) e.dst ⟨by have := HBD.out; omega, by have := HBD.out; omega⟩
          rw [h1, hisb]
          cases hq : Bm e.dst with
          | none => rw [hq] at hold; cases hold; rfl
          | some x => rw [hq] at hold; obtain rfl : _ = x := hold; rfl
        have HS6 : Hid (∀ W, Below we.heap.size we W → Below we.heap.size we W ∧ W.cell? ⟨F, 2, none⟩ = some (.map (some mb)) ∧ W.cell? ⟨g6, 1, none⟩ = some (.int .i64 e.dst) ∧ (Instr.lookup 59 (.map (some mb)) (.int .i64 e.dst) true).run Tryd.prog W = .ok (.tuple #[.agg #[.int .i64 ot, .int .i64 os, .slice oa op.length oc], .bool isb]) W) := fun W hW =>
          ⟨hW, (hFIc.stays hW).q.1.1.cell 2 rfl, (hcE.stays hW).cell 1 rfl, HLK.out W hW⟩
        have HOLD := Lib.hid hold
        have HIS := Lib.hid hisb
        have HFC := Lib.hid hFIc
        have HC7 := Lib.hid hc7
        have HBW := Lib.hid hbW
        have HCE2 := Lib.hid hcE
        clear hbc hFIc hcE hnx hold hisb hc7 hr7 hbW HLK hlenx
        go_upto_region 6 with fail
        go_cut [8, 9] from 43 to 52 (fun p8 v9 wx => ∃ (b8 : Nat), p8 = .pointer (some ⟨b8, 0, none⟩) ∧ v9 = .bool isb ∧ CellsAt wx b8 56 #[.int .i64 ot, .int .i64 os, .slice oa op.length oc] ∧ Below we.heap.size we wx)
        case first =>
          have hd0 : Below we.heap.size we we := Below.refl _ _
          go_region_held3 (fun W => Below we.heap.size we W ∧ W.cell? ⟨F, 2, none⟩ = some (.map (some mb)) ∧ W.cell? ⟨g6, 1, none⟩ = some (.int .i64 e.dst) ∧ (Instr.lookup 59 (.map (some mb)) (.int .i64 e.dst) true).run Tryd.prog W = .ok (.tuple #[.agg #[.int .i64 ot, .int .i64 os, .slice oa op.length oc], .bool isb]) W)
            (exact HS6.out _ (by (repeat (first | (with_reducible assumption) | (with_reducible refine below_al ?_ _) | (with_reducible refine Below.drew ?_) | (with_reducible refine Below.setCell ?_ (by first | exact Nat.le_refl _ | (simp; done) | (simp; omega) | omega) _) | (with_reducible exact Below.refl _ _)))))
            (fail)
          all_goals go_wp2_with fail
          all_goals go_meet
          all_goals exact ⟨we.heap.size, rfl, rfl, CellsAt.new we _ _, (below_al hd0 _).drew⟩
        case rest =>
          obtain ⟨b8, rfl, rfl, hc8, hb8⟩ := hcut
          obtain ⟨wf, rfl⟩ : ∃ wf : World, wf = wc := ⟨_, rfl⟩
          have hFf := HFC.out.stays hb8
          have hc7f := HC7.out.stays hb8
          have hcEf := HCE2.out.stays hb8
          have hnxf := HNX.out.stays hb8
          have HBF : Hid (Below wr.heap.size wr wf) := (HB2.out.trans (HBW.out.mono HB2.out.size)).trans (hb8.mono (Nat.le_trans HB2.out.size HBW.out.size))
          have hBT : ∀ b, BT Bm e.dst = some b → isb = true ∧ b = ⟨ot, os, op⟩ := fun b hb => by
            unfold BT at hb
            obtain ⟨x, hx, rfl⟩ := Option.map_eq_some_iff.1 hb
            have h1 := HIS.out
            have h2 := HOLD.out
            rw [hx] at h1 h2
            exact ⟨h1, congrArg Prod.fst h2.symm⟩
          have hBTo : isb = true → BT Bm e.dst = some ⟨ot, os, op⟩ ∧ tOk (fun k => k = F ∨ qv.ownBlock = some k) wf ((⟨ot, os, op⟩, oa, oc) : TM) := fun hb => by
            have h1 := HIS.out
            have h2 := HOLD.out
            rw [hb] at h1
            obtain ⟨x, hx⟩ := Option.isSome_iff_exists.1 h1.symm
            rw [hx] at h2
            obtain rfl : _ = x := h2
            exact ⟨by unfold BT; rw [hx]; rfl, hFf.trips _ _ hx⟩
          have HBT := Lib.hid hBT
          have HBTo := Lib.hid hBTo
          have hlenx : (tp ++ [(i : Int)]).length = tp.length + 1 := by simp
          have u0 := hc7f.cell 0 rfl
          have u1 := hc7f.cell 1 rfl
          have u2 := hc7f.cell 2 rfl
          have x0 := hc8.cell 0 rfl
          have x1 := hc8.cell 1 rfl
          have x2 := hc8.cell 2 rfl
          have HFF := Lib.hid hFf
          have HC7F := Lib.hid hc7f
          have HCEF := Lib.hid hcEf
          have HNXF := Lib.hid hnxf
          clear hFf hc7f hcEf hnxf hBT hBTo hc8 hb8
          go_upto_region 7 with fail
          go_cut [60] from 53 to 60 (fun x wx => ∃ c : Bool, x = .bool c ∧ Below wf.heap.size wf wx ∧ Hid (c = true → ∀ b, BT Bm e.dst = some b → ordT (extT ⟨tt, ts, tp⟩ e i) b < 0) ∧ Hid (c = false → ∃ b, BT Bm e.dst = some b ∧ ¬ ordT (extT ⟨tt, ts, tp⟩ e i) b < 0))
          case first =>
            cases isb with
            | false =>
              have HF0 : Hid (true = false → ∃ b, BT Bm e.dst = some b ∧ ¬ ordT (extT ⟨tt, ts, tp⟩ e i) b < 0) := fun h => by cases h
              have HT : Hid (true = true → ∀ b, BT Bm e.dst = some b → ordT (extT ⟨tt, ts, tp⟩ e i) b < 0) := fun _ b hb => by have := (HBT.out b hb).1; cases this
              clear u0 u1 u2 x0 x1 x2
              go_wp2_with fail
              go_meet
              exact ⟨true, rfl, Below.refl _ _, Lib.hid (fun _ => HT.out trivial), HF0⟩
            | true =>
              obtain ⟨hB1, hok⟩ := HBTo.out rfl
              have HB1 := Lib.hid hB1
              have hor := order_any ⟨e.dst, sm, tp ++ [(i : Int)]⟩ ⟨ot, os, op⟩ (tV ((⟨e.dst, sm, tp ++ [(i : Int)]⟩, some ⟨gg, 0, none⟩, cg) : TM)) (tV ((⟨ot, os, op⟩, oa, oc) : TM)) wf HNXF.out.2.2.2.1 hok.2.2.2.1 HNXF.out.2.2.1 hok.2.2.1
              simp only [tV, hlenx] at hor
              have HOR : Hid (Calls _ _ _ wf _) := hor
              have HEX : Hid (extT ⟨tt, ts, tp⟩ e i = ⟨e.dst, sm, tp ++ [(i : Int)]⟩) := by have := HSM.out; subst this; rfl
              clear hB1 hok hor
              obtain ⟨R, hR⟩ : ∃ R, R = ordT ⟨e.dst, sm, tp ++ [(i : Int)]⟩ ⟨ot, os, op⟩ := ⟨_, rfl⟩
              rw [← hR] at HOR
              have HR := Lib.hid hR
              clear hR
              by_cases h0 : R < 0
              · have HT : Hid (true = true → ∀ b, BT Bm e.dst = some b → ordT (extT ⟨tt, ts, tp⟩ e i) b < 0) := fun _ b hb => by
                  rw [HB1.out] at hb; cases hb
                  rw [HEX.out, ← HR.out]; exact h0
                have HF0 : Hid (true = false → ∃ b, BT Bm e.dst = some b ∧ ¬ ordT (extT ⟨tt, ts, tp⟩ e i) b < 0) := fun h => by cases h
                have e0 : decide (R < 0) = true := decide_eq_true h0
                clear h0
                go_wp2_with fail
                refine HOR.out.mono ?_
                rintro e' w9 ⟨rfl, hb9⟩
                clear HOR
                go_wp2_with fail
                go_meet
                exact ⟨true, rfl, hb9, Lib.hid (fun _ => HT.out trivial), HF0⟩
              · have HT : Hid (false = true → ∀ b, BT Bm e.dst = some b → ordT (extT ⟨tt, ts, tp⟩ e i) b < 0) := fun h => by cases h
                have HF0 : Hid (false = false → ∃ b, BT Bm e.dst = some b ∧ ¬ ordT (extT ⟨tt, ts, tp⟩ e i) b < 0) := fun _ => ⟨_, HB1.out, by rw [HEX.out, ← HR.out]; exact h0⟩
                have e0 : decide (R < 0) = false := decide_eq_false h0
                clear h0
                go_wp2_with fail
                refine HOR.out.mono ?_
                rintro e' w9 ⟨rfl, hb9⟩
                clear HOR
                go_wp2_with fail
                go_meet
                exact ⟨false, rfl, hb9, HT, Lib.hid (fun _ => HF0.out trivial)⟩
          case rest =>
            clear u0 u1 u2 x0 x1 x2
            obtain ⟨c, rfl, hbg, HT, HF0⟩ := hcut
            obtain ⟨wg, rfl⟩ : ∃ wg : World, wg = wc := ⟨_, rfl⟩
            have HFG : Hid (FI B b0 F mf mb L wg (.slice (some ⟨lb, lo, none⟩) L.length lc) qv fr Bm Qm nb') := HFF.out.stays hbg
            have hMM := HM.out
            have hFG0 := HFG.out
            cases c with
            | false =>
              have HMK : Hid (Mid L (BT Bm) (Qm.map Prod.fst) X ⟨tt, ts, tp⟩ s (k + 1)) := by
                obtain ⟨b, hb, hge⟩ := HF0.out rfl
                exact hMM.skip HI.out HE.out hb hge
              have HRR : Hid (FoldR B b0 F mf mb L w (.slice (some ⟨lb, lo, none⟩) L.length lc) fr X ((⟨tt, ts, tp⟩, ta, tc) : TM) s nb T0 (k + 1) wg) := by
                have hbx := HBF.out.trans (hbg.mono HBF.out.size)
                exact ⟨qv, Bm, Qm, nb', hFG0, by omega, HMK.out, HBE.out.trans (hbx.mono (by have := HFI.out.lo; have := HFI.out.q.1.2.2.2; omega)), HTK.out.stays hbx, HCT.out.stays hbx, HQT.out⟩
              clear hMM hFG0 HT HF0 hbg
              go_wp2_with fail
              go_roundw
              case rel => exact ⟨k + 1, by go_num, by omega, HRR.out⟩
              case measure => simp only [intOf]; omega
            | true =>
              have hlt := HT.out rfl
              have HLT := Lib.hid hlt
              have hlo := hFG0.lo
              have hcg := HC7F.out.stays hbg
              have hce := HCEF.out.stays hbg
              have hnx := HNXF.out.stays hbg
              have hbx := HBF.out.trans (hbg.mono HBF.out.size)
              obtain ⟨w8, hrun8, hm8, hg8⟩ := putI_run (show MapI Tryd.prog 3 wg.drew mb nb' _ from hFG0.best.drew) Tryd.underlying3 Tryd.underlying59 (by unfold maxLen; omega) e.dst (tG ((⟨e.dst, sm, tp ++ [(i : Int)]⟩, some ⟨gg, 0, none⟩, cg) : TM)) ⟨by have := HBD.out; omega, by have := HBD.out; omega⟩
              have hF8 := (hFG0.stays (Below.refl _ _).drew).put (hnx.stays (Below.refl _ _).drew) hg8 hm8
              have hc8' : CellsAt w8 b7 56 _ := (CellsAt.drew hcg).grown hg8 (fun h => by cases h; exact hFG0.best.block_ne hcg rfl)
              have hcT8 : CellsAt w8 T0 56 _ := (CellsAt.drew (HCT.out.stays hbx)).grown hg8 (fun h => by cases h; exact hFG0.best.block_ne (HCT.out.stays hbx) rfl)
              have htk8 := tOk.map ((HTK.out.stays hbx).stays (Below.refl _ _).drew) hFG0.best.drew hg8
              have hnx8 := tOk.map (hnx.stays (Below.refl _ _).drew) hFG0.best.drew hg8
              have hrun9 : (Instr.mapUpdate 59 (.map (some mb)) (.int .i64 e.dst) (.agg #[.int .i64 e.dst, .int .i64 sm, .slice (some ⟨gg, 0, none⟩) (tp.length + 1) cg])).run Tryd.prog wg.drew = .ok () w8 := by
                have := hrun8
                simp only [tG, tV, hlenx] at this
                exact this
              have v0 := hcg.cell 0 rfl
              have v1 := hcg.cell 1 rfl
              have v2 := hcg.cell 2 rfl
              have v3 : wg.cell? ⟨F, 2, none⟩ = some (.map (some mb)) := hFG0.q.1.1.cell 2 rfl
              have v4 := hce.cell 1 rfl
              have HF8 := Lib.hid hF8
              have HC8 := Lib.hid hc8'
              have HCT8 := Lib.hid hcT8
              have HTK8 := Lib.hid htk8
              have HNX8 := Lib.hid hnx8
              have HBG := Lib.hid hbg
              have HG8 := Lib.hid hg8
              clear hMM hFG0 hlt hcg hce hnx hbx hrun8 hm8 hg8 hF8 hc8' hcT8 htk8 hnx8 hbg hlo
              go_upto_region 8 with fail
              go_region
              have hQl : Qm.length ≤ 10000 := by
                have h1 := HM.out.size.1
                have h2 := HM.out.size.2
                have h3 := degs_le L X HM.out.nod.2
                simp only [List.length_map] at h1
                omega
              have hpu := hPush_any (HF8.out.stays (Below.refl _ _).drew).q ((⟨e.dst, sm, tp ++ [(i : Int)]⟩, some ⟨gg, 0, none⟩, cg) : TM) (HNX8.out.stays (Below.refl _ _).drew) hQl
              simp only [tG, tV, hlenx] at hpu
              have HPU : Hid (Calls _ _ _ w8.drew _) := hpu
              clear v0 v1 v2 v3 v4 hpu hrun9
              have v0 := HC8.out.cell 0 rfl
              have v1 := HC8.out.cell 1 rfl
              have v2 := HC8.out.cell 2 rfl
              go_upto_region 9 with fail
              have v5 : w8.drew.cell? ⟨b7, 0, none⟩ = some (.int .i64 e.dst) := v0
              have v6 : w8.drew.cell? ⟨b7, 1, none⟩ = some (.int .i64 sm) := v1
              have v7 : w8.drew.cell? ⟨b7, 2, none⟩ = some (.slice (some ⟨gg, 0, none⟩) (tp.length + 1) cg) := v2
              have hne7 : b7 ∉ F :: qv.ownBlock.toList := fun hm => by
                rcases List.mem_cons.1 hm with h | h
                · subst h
                  have h1 := HC8.out
                  have h2 := HF8.out.q.1.1
                  unfold CellsAt at h1 h2
                  rw [h1] at h2
                  cases h2
                · have := (HFI.out.q.1.2.1.lt b7 (by simpa using h)).2
                  omega
              have hneT : T0 ∉ F :: qv.ownBlock.toList := fun hm => by
                rcases List.mem_cons.1 hm with h | h
                · subst h
                  have h1 := HCT8.out
                  have h2 := HF8.out.q.1.1
                  unfold CellsAt at h1 h2
                  rw [h1] at h2
                  cases h2
                · exact HQT.out (by simpa using h)
              have HNET := Lib.hid hneT
              clear hneT
              go_region_held3 (fun W => W.cell? ⟨b7, 0, none⟩ = some (.int .i64 e.dst) ∧ W.cell? ⟨b7, 1, none⟩ = some (.int .i64 sm) ∧ W.cell? ⟨b7, 2, none⟩ = some (.slice (some ⟨gg, 0, none⟩) (tp.length + 1) cg))
                (exact ⟨by assumption, by assumption, by assumption⟩)
                ((go_at_call 39; (with_reducible refine HPU.out.mono ?_); rintro e9 w9 ⟨rfl, Q9, hpm, hqp⟩; obtain ⟨qv9, hF9, hn9, hg9⟩ := (HF8.out.stays (Below.refl _ _).drew).queue hqp; have hc9 := (CellsAt.drew HC8.out).grew hg9 hne7; have m0 := hc9.cell 0 rfl; have m1 := hc9.cell 1 rfl; have m2 := hc9.cell 2 rfl; have HF9 := Lib.hid hF9; have HN9 := Lib.hid hn9; have HG9 := Lib.hid hg9; have HPM := Lib.hid hpm; clear hF9 hn9 hg9 hpm hc9 hqp))
              all_goals clear m0 m1 m2 v0 v1 v2 v5 v6 v7 hne7 HPU
              all_goals go_wp2_with fail
              all_goals go_roundw
              case rel =>
                have hbx := HBF.out.trans (HBG.out.mono HBF.out.size)
                have hlo := HFI.out.lo
                have hBw := HFI.out.q.1.2.2.2
                have hq0 : ∀ k, qv.ownBlock = some k → B ≤ k := fun k hk => (HFI.out.q.1.2.1.lt k hk).1
                have hb9 : Below b0 w w9 := by
                  have h1 : Below b0 w w8 := Below.grown ((HBE.out.trans (hbx.mono (by omega))).drew) HG8.out (by have := HBE.out.size; have := hbx.size; show b0 ≤ wg.heap.size; omega) (fun k hk => by cases hk; exact hlo.2.2.1)
                  refine Grew.below HG9.out h1.drew (fun k hk => ?_) (by have := HG8.out.size; have h2 : wg.drew.heap.size = wg.heap.size := rfl; have := hbx.size; show b0 ≤ w8.heap.size; omega)
                  rcases List.mem_cons.1 hk with e | e
                  · rw [e]; exact hlo.1
                  · have := hq0 k (by simpa using e); omega
                refine ⟨k + 1, by go_num, by omega, qv9, fun y => if y = e.dst then some ((⟨e.dst, sm, tp ++ [(i : Int)]⟩, some ⟨gg, 0, none⟩, cg) : TM) else Bm y, Q9, nb' + 1, HF9.out, by omega, ?_, hb9, tOk.new (HTK8.out.stays (Below.refl _ _).drew) HN9.out HG9.out, CellsAt.grew (CellsAt.drew HCT8.out) HG9.out HNET.out, fun h => ?_⟩
                · have hex : extT ⟨tt, ts, tp⟩ e i = ⟨e.dst, sm, tp ++ [(i : Int)]⟩ := by have := HSM.out; subst this; rfl
                  refine HM.out.push hL HI.out HE.out HLT.out (fun v => ?_) ?_
                  · unfold BT
                    show Option.map Prod.fst (if v = e.dst then _ else _) = _
                    rw [hex]
                    split <;> rfl
                  · have := HPM.out.map Prod.fst
                    rw [hex]
                    simpa using this
                · rcases HN9.out T0 h with h2 | h2
                  · exact HQT.out h2
                  · have h3 := HCT8.out.lt
                    have h4 : w8.drew.heap.size = w8.heap.size := rfl
                    omega
              case measure => simp only [intOf]; omega
    · obtain rfl : k = (fromV L tt).length := by omega
      have HRR := HR
      clear HR
      go_wp2_with fail
      go_end0
      obtain ⟨qv, Bm, Qm, nb', hFI, hnb', hM, hbe, htk, hcT, hqT⟩ := HRR.out
      exact ⟨rfl, qv, Bm, Qm, nb', hFI, hnb', hM, hbe⟩
end
end Go.Proofs.YthabjnppmhlomaaDoor
