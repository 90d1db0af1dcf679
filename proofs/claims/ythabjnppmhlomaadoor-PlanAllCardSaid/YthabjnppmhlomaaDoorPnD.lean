/- The queue of trips: Len, Less, Swap, Push, Pop. -/
import Derived.Test.YthabjnppmhlomaaDoorPnC
import Derived.Test.YthabjnppmhlomaaDoorPnA
import Derived.Test.YthabjnppmhlomaaDoorSrows
import Derived.Test.YthabjnppmhlomaaDoorGrew
import Derived.Test.YthabjnppmhlomaaDoorQin
namespace Go.Proofs.YthabjnppmhlomaaDoor
open Go Go.RowKit
set_option linter.unusedVariables false
/-- a trip, and where its path lies -/
abbrev TM := Tr × (Option Addr × Nat)
def tV (x : TM) : Value := .slice x.2.1 x.1.path.length x.2.2
def tC (x : TM) : List Value := [.int .i64 x.1.to, .int .i64 x.1.sum, tV x]
def tG (x : TM) : Value := .agg #[.int .i64 x.1.to, .int .i64 x.1.sum, tV x]
theorem tC_len (x : TM) : (tC x).length = 3 := rfl
theorem tC_one (x : TM) : (tC x).all Value.oneCell' = true := rfl
/-- numbers of a machine's size, and a path that lies there, outside the blocks of S -/
def tOk (S : Nat → Prop) (w : World) (x : TM) : Prop := (-9223372036854775808 ≤ x.1.to ∧ x.1.to ≤ 9223372036854775807) ∧ (-9223372036854775808 ≤ x.1.sum ∧ x.1.sum ≤ 9223372036854775807) ∧ x.1.path.length ≤ 100000 ∧ RowZ w (tV x) x.1.path ∧ ∀ k, (tV x).ownBlock = some k → ¬ S k ∧ k < w.heap.size
theorem qLen_any (a : Option Addr) (n c : Nat) (w : World) : Calls Tryd.prog 31 #[.slice a n c] w fun e w' => e = .returned (.int .i64 n) ∧ w = w' := by
  go_enter Tryd.func31, Tryd.ntmps31
  go_wp2_with fail
  go_ret
  exact ⟨rfl, rfl⟩
theorem step_pushS {α : Type} {cs : α → List Value} {E T : TypeId} {size B : Nat} {w : World} {v : Value} {xs : List α} {P : Program} {ops : Array Oper} {o : Oper} {a : Act} {K : Act → World → Prop} {Q : Exit → Act → World → Prop} {EE : Prop} (hcs : ∀ x, (cs x).length = size) (hf : ∀ x : α, (cs x).all Value.oneCell' = true) {z : Value} {bytes : Nat} (ht : P.underlying T = some (.slice E))
    (hinf : (P.info? E).map (fun i => (i.zero, i.size, i.bytes)) = some (some z, size, bytes)) (hz : z.cells.size = size) (hbs : bytes ≤ 1000) (hown : OwnS E size cs B w v xs) (x : α) (h63 : xs.length ≤ 100000000) (hbase : B ≤ w.heap.size)
    (hgd : o.guard = none) (s y : Operand) (ho : o.op = .call { callee := .builtin .append, args := #[s, y], argTypes := #[T, T] }) (hs : a.eval s = v)
    (us : Array Value) (e' : TypeId) (c : Nat) (hx : a.eval y = .slice (some ⟨w.heap.size, 0, none⟩) 1 c) (hu : us.toList = cs x)
    (h : ∀ v' w', OwnS E size cs B w' v' (xs ++ [x]) → w.grownBy w' v.ownBlock → NewOrSame w v v' → K (a.put o.dst v') w') :
    if Region.wanted o (yielded ops a.tmps) = true then Oper.wp P o a (w.alloc (.cells us e')) K Q else EE := by
  have hw : Region.wanted o (yielded ops a.tmps) = true := by simp [Region.wanted, hgd]
  rw [if_pos hw]
  obtain ⟨i, hi, hz0, hz1, hz2⟩ := info_parts hinf
  have hul : us.size = size := by rw [← Array.length_toList, hu, hcs]
  have hsrc : Src P size T (.slice (some ⟨w.heap.size, 0, none⟩) 1 c) 1 us.toList (w.alloc (.cells us e')) := by
    refine Src.ofSlice _ ht ⟨w.heap.size, 0, none⟩ 1 c us.toList (by simpa using hul) ?_ (fun u hq => List.all_eq_true.1 (hf x) u (by rw [← hu]; exact hq))
    intro j u hj
    have hadd : (⟨w.heap.size, 0, none⟩ : Addr).add j = ⟨w.heap.size, j, none⟩ := by unfold Addr.add; split <;> simp_all
    rw [hadd, cell_of_row (w.alloc (.cells us e')) w.heap.size j us e' (0, 0) (heap_alloc_new w _)]
    simpa using hj
  have hby : (xs.length + 1) * bytes ≤ 140737488355328 := by
    have := Nat.mul_le_mul (show xs.length + 1 ≤ 100000001 by omega) hbs
    omega
  obtain ⟨v', w', h1, h2, h3, h4, h5⟩ := run_append_src (w.alloc (.cells us e')) B T T o.type E i z size bytes ht hi hz0 hz1 hz2 hz v xs.length (xs.flatMap cs) (World.ownsRow.alloc hown _) _ 1 us.toList hsrc (by unfold maxLen; omega) hby (by simp; omega)
  refine Lib.wp_append_run _ s y T T ho v _ hs hx v' w' h1 (h v' w' ?_ (grownBy_trans (World.grownBy_alloc w _ _) h3) (fun k hk => ?_))
  · unfold OwnS
    rw [hu] at h2
    simpa using h2
  · rcases h4 k hk with h' | h'
    · exact .inl h'
    · exact .inr (by simp at h'; omega)
theorem own_grown {B : Nat} {w w' : World} {v : Value} {e : TypeId} {size n : Nat} {xs : List Value} {row : Option Nat} (h : w.ownsRow B e size v n xs) (hg : w.grownBy w' row) (hne : ∀ k, v.ownBlock = some k → row ≠ some k) : w'.ownsRow B e size v n xs :=
  ⟨h.1, h.2.imp id fun ⟨g, cap, cur, h1, h2, h3, h4⟩ => ⟨g, cap, cur, h1, h2, (hg.block g (lt_of_block h3) (fun e => hne g (by subst h1; rfl) e.symm)).trans h3, h4⟩⟩

theorem infoTM : (Tryd.prog.info? 56).map (fun i => (i.zero, i.size, i.bytes)) = some (some (.agg #[.int .i64 0, .int .i64 0, .slice none 0 0]), 3, 40) := by kernel_rfl
section
variable {B : Nat} {w : World} {g n c : Nat} {Q : List TM}
theorem qcells (h : OwnS 56 3 tC B w (.slice (some ⟨g, 0, none⟩) n c) Q) {i : Nat} {x : TM} (hx : Q[i]? = some x) : n = Q.length ∧ w.cell? ⟨g, i * 3, none⟩ = some (.int .i64 x.1.to) ∧ w.cell? ⟨g, i * 3 + 1, none⟩ = some (.int .i64 x.1.sum) ∧ w.cell? ⟨g, i * 3 + 2, none⟩ = some (tV x) ∧ ∀ j, w.frozen? ⟨g, j, none⟩ = false := by
  obtain ⟨g', c', hv, h1, h2, h3, h4, h5⟩ := h.block tC_len (List.ne_nil_of_mem (List.mem_of_getElem? hx))
  cases hv
  exact ⟨rfl, by simpa using h5 i x hx 0 _ rfl, h5 i x hx 1 _ rfl, h5 i x hx 2 _ rfl, h4⟩
set_option maxRecDepth 100000 in
theorem qLess_any (S : Nat → Prop) (h : OwnS 56 3 tC B w (.slice (some ⟨g, 0, none⟩) n c) Q) (i j : Nat) (x y : TM) (hx : Q[i]? = some x) (hy : Q[j]? = some y) (ox : tOk S w x) (oy : tOk S w y) (hl : Q.length ≤ 100000) :
    Calls Tryd.prog 79 #[.slice (some ⟨g, 0, none⟩) n c, .int .i64 i, .int .i64 j] w fun e w' => e = .returned (.bool (decide (ordT x.1 y.1 < 0))) ∧ Below w.heap.size w w' := by
  obtain ⟨rfl, x0, x1, x2, -⟩ := qcells h hx
  obtain ⟨-, y0, y1, y2, -⟩ := qcells h hy
  have hil : i < Q.length := (List.getElem?_eq_some_iff.1 hx).1
  have hjl : j < Q.length := (List.getElem?_eq_some_iff.1 hy).1
  have HC : Hid (∀ W, Below w.heap.size w W → Calls _ _ _ W _) := fun W hb => order_any x.1 y.1 (tV x) (tV y) W (Row.stays ox.2.2.2.1 hb) (Row.stays oy.2.2.2.1 hb) ox.2.2.1 oy.2.2.1
  generalize ordT x.1 y.1 = R at HC ⊢
  clear h hx hy ox oy
  obtain ⟨⟨a1, a2, a3⟩, xa, xc⟩ := x
  obtain ⟨⟨b1, b2, b3⟩, ya, yc⟩ := y
  simp only [tV] at *
  have hd0 : Below w.heap.size w w := Below.refl _ _
  have hd1 : Below w.heap.size w w.drew := hd0.drew
  go_enter Tryd.func79, Tryd.ntmps79
  go_wp2_with fail
  have HS : Hid (∀ W, Below w.heap.size w W → W.cell? ⟨g, i * 3, none⟩ = some (.int .i64 a1) ∧ W.cell? ⟨g, i * 3 + 1, none⟩ = some (.int .i64 a2) ∧ W.cell? ⟨g, i * 3 + 2, none⟩ = some (.slice xa a3.length xc) ∧ W.cell? ⟨g, j * 3, none⟩ = some (.int .i64 b1) ∧ W.cell? ⟨g, j * 3 + 1, none⟩ = some (.int .i64 b2) ∧ W.cell? ⟨g, j * 3 + 2, none⟩ = some (.slice ya b3.length yc)) := fun W hb =>
    ⟨(hb.cell (p := ⟨g, i * 3, none⟩) (World.block_lt_of_cell? w _ x0)).trans x0, (hb.cell (p := ⟨g, i * 3 + 1, none⟩) (World.block_lt_of_cell? w _ x1)).trans x1, (hb.cell (p := ⟨g, i * 3 + 2, none⟩) (World.block_lt_of_cell? w _ x2)).trans x2,
     (hb.cell (p := ⟨g, j * 3, none⟩) (World.block_lt_of_cell? w _ y0)).trans y0, (hb.cell (p := ⟨g, j * 3 + 1, none⟩) (World.block_lt_of_cell? w _ y1)).trans y1, (hb.cell (p := ⟨g, j * 3 + 2, none⟩) (World.block_lt_of_cell? w _ y2)).trans y2⟩
  clear x0 x1 x2 y0 y1 y2
  refine wp_region_quiet_in (C := fun W => Below w.heap.size w W) (by kernel_rfl) (by kernel_rfl) hd1 ?_
  repeat
    (first
       | go_big_quiet_skip
       | (go_big_quiet_want
          refine quiet_intro ?_ (fun wq hwq => ?_) ?_
          rotate_left
          focus
            (obtain ⟨c0, c1, c2, c3, c4, c5⟩ := HS.out _ hwq
             go_simp
             try first
               | with_reducible rfl
               | (exact hwq)
               | ((with_reducible refine (HC.out _ hwq).mono ?_); rintro e wA ⟨rfl, hbA⟩; refine ⟨?_, hwq.trans (hbA.mono hwq.size)⟩; with_reducible rfl))
          go_simp
          go_big_quiet_on))
  refine wpQuiet_nil ?_
  intro w2 hb2
  clear HS HC hd0 hd1
  go_wp2_with fail
  go_ret
  exact ⟨rfl, hb2⟩
theorem ownQ_drew {v : Value} (h : OwnS 56 3 tC B w v Q) : OwnS 56 3 tC B w.drew v Q := h
theorem own_three (h : OwnS 56 3 tC B w (.slice (some ⟨g, 0, none⟩) n c) Q) {i : Nat} (x : TM) (hi : i < Q.length) :
    OwnS 56 3 tC B (((w.setCell ⟨g, i * 3, none⟩ (.int .i64 x.1.to)).setCell ⟨g, i * 3 + 1, none⟩ (.int .i64 x.1.sum)).setCell ⟨g, i * 3 + 2, none⟩ (tV x)) (.slice (some ⟨g, 0, none⟩) n c) (Q.set i x) := by
  have hx := List.getElem?_eq_getElem hi
  generalize Q[i] = y at hx
  have h1 := h.set tC_len i 0 y (⟨x.1.to, y.1.sum, y.1.path⟩, y.2) (.int .i64 x.1.to) hx (by decide) rfl
  have h2 := h1.set tC_len i 1 (⟨x.1.to, y.1.sum, y.1.path⟩, y.2) (⟨x.1.to, x.1.sum, y.1.path⟩, y.2) (.int .i64 x.1.sum) (by rw [List.getElem?_set_self hi]) (by decide) rfl
  have h3 := h2.set tC_len i 2 (⟨x.1.to, x.1.sum, y.1.path⟩, y.2) x (tV x) (by rw [List.getElem?_set_self (by simpa using hi)]) (by decide) rfl
  simpa using h3
theorem grown_three {w w' : World} {g a b d : Nat} {u v x : Value} (h : w.grownBy w' (some g)) : w.grownBy (((w'.setCell ⟨g, a, none⟩ u).setCell ⟨g, b, none⟩ v).setCell ⟨g, d, none⟩ x) (some g) :=
  grownBy_setCell (grownBy_setCell (grownBy_setCell h ⟨g, a, none⟩ (.inl rfl) u) ⟨g, b, none⟩ (.inl rfl) v) ⟨g, d, none⟩ (.inl rfl) x
set_option maxRecDepth 100000 in
theorem qSwap_any (h : OwnS 56 3 tC B w (.slice (some ⟨g, 0, none⟩) n c) Q) (i j : Nat) (hi : i < Q.length) (hj : j < Q.length) (hl : Q.length ≤ 100000) :
    Calls Tryd.prog 80 #[.slice (some ⟨g, 0, none⟩) n c, .int .i64 i, .int .i64 j] w fun e w' => e = .returned (.tuple #[]) ∧ OwnS 56 3 tC B w' (.slice (some ⟨g, 0, none⟩) n c) (swp Q i j) ∧ w.grownBy w' (some g) := by
  have hx := List.getElem?_eq_getElem hi
  have hy := List.getElem?_eq_getElem hj
  obtain ⟨rfl, x0, x1, x2, hfz⟩ := qcells h hx
  obtain ⟨-, y0, y1, y2, -⟩ := qcells h hy
  have HSW := Lib.hid (swp_eq hx hy)
  have HH := Lib.hid h
  by_cases hij : i = j
  · subst hij
    have hxy : Q[i] = Q[i] := rfl
    clear hy y0 y1 y2 hxy
    have f0 := hfz (i * 3)
    have f1 := hfz (i * 3 + 1)
    have f2 := hfz (i * 3 + 2)
    generalize Q[i] = x at *
    clear h hx hfz
    obtain ⟨⟨a1, a2, a3⟩, xa, xc⟩ := x
    simp only [tV] at x0 x1 x2
    go_enter Tryd.func80, Tryd.ntmps80
    go_wp2_with fail
    go_region
    all_goals go_wp2_with fail
    all_goals go_end0
    all_goals exact ⟨rfl, by rw [HSW.out]; exact ownQ_drew (own_three (own_three HH.out (⟨a1, a2, a3⟩, xa, xc) hi) (⟨a1, a2, a3⟩, xa, xc) (by simpa using hi)), grownBy_drew (grown_three (grown_three (grownBy_refl _ _)))⟩
  · have n0 : ¬ i * 3 = j * 3 + 1 := by omega
    have n1 : ¬ i * 3 = j * 3 + 2 := by omega
    have n2 : ¬ i * 3 + 1 = j * 3 := by omega
    have n3 : ¬ i * 3 + 1 = j * 3 + 2 := by omega
    have n4 : ¬ i * 3 + 2 = j * 3 := by omega
    have n5 : ¬ i * 3 + 2 = j * 3 + 1 := by omega
    have m0 : ¬ j * 3 + 1 = i * 3 := by omega
    have m1 : ¬ j * 3 + 2 = i * 3 := by omega
    have m2 : ¬ j * 3 = i * 3 + 1 := by omega
    have m3 : ¬ j * 3 + 2 = i * 3 + 1 := by omega
    have m4 : ¬ j * 3 = i * 3 + 2 := by omega
    have m5 : ¬ j * 3 + 1 = i * 3 + 2 := by omega
    have f0 := hfz (i * 3)
    have f1 := hfz (i * 3 + 1)
    have f2 := hfz (i * 3 + 2)
    have f3 := hfz (j * 3)
    have f4 := hfz (j * 3 + 1)
    have f5 := hfz (j * 3 + 2)
    generalize Q[i] = x at *
    generalize Q[j] = y at *
    clear h hx hy hfz
    obtain ⟨⟨a1, a2, a3⟩, xa, xc⟩ := x
    obtain ⟨⟨b1, b2, b3⟩, ya, yc⟩ := y
    simp only [tV] at x0 x1 x2 y0 y1 y2
    go_enter Tryd.func80, Tryd.ntmps80
    go_wp2_with fail
    go_region
    all_goals go_wp2_with fail
    all_goals go_end0
    all_goals exact ⟨rfl, by rw [HSW.out]; exact ownQ_drew (own_three (own_three HH.out (⟨b1, b2, b3⟩, ya, yc) hi) (⟨a1, a2, a3⟩, xa, xc) (by simpa using hj)), grownBy_drew (grown_three (grown_three (grownBy_refl _ _)))⟩
/-- the variable at block F, cell 3, holds the queue -/
def QAt (B F : Nat) (T : TypeId) (c0 c1 c2 : Value) (w : World) (v : Value) (Q : List TM) : Prop := CellsAt w F T #[c0, c1, c2, v] ∧ OwnS 56 3 tC B w v Q ∧ F < B ∧ B ≤ w.heap.size
/-- behind a call: the queue, in its old block or a new one; else nothing turned -/
def QP (B F : Nat) (T : TypeId) (c0 c1 c2 : Value) (w : World) (v : Value) (Q' : List TM) (w' : World) : Prop := ∃ v', QAt B F T c0 c1 c2 w' v' Q' ∧ NewOrSame w v v' ∧ Grew (F :: v.ownBlock.toList) w w'
def QR (B F : Nat) (T : TypeId) (c0 c1 c2 : Value) (w : World) (v : Value) (Q' : List TM) (r : Value) (e : Ending) (w' : World) : Prop := e = .returned r ∧ QP B F T c0 c1 c2 w v Q' w'
theorem own_set_other {α : Type} {cs : α → List Value} {E : TypeId} {size B F : Nat} {w : World} {v : Value} {xs : List α} (h : OwnS E size cs B w v xs) (hF : F < B) (j : Nat) (u : Value) : OwnS E size cs B (w.setCell ⟨F, j, none⟩ u) v xs :=
  own_grown h (grownBy_setCell (grownBy_refl _ (some F)) ⟨F, j, none⟩ (.inl rfl) u) (fun k hk e => by cases e; have := (h.lt F hk).1; omega)
theorem qp_close {F : Nat} {T : TypeId} {c0 c1 c2 v v' : Value} {W1 w6 : World} {Q' : List TM} (h3 : F < B) (h4 : B ≤ w.heap.size) (hb1 : Below w.heap.size w W1) (hc : CellsAt w6 F T #[c0, c1, c2, v]) (ho : OwnS 56 3 tC B w6 v' Q')
    (hn : NewOrSame W1.drew v v') (hg : W1.drew.grownBy w6 v.ownBlock) : QP B F T c0 c1 c2 w v Q' (w6.setCell ⟨F, 3, none⟩ v') := by
  refine ⟨v', ⟨by simpa using hc.set 3 v', own_set_other ho h3 3 v', h3, ?_⟩, fun k hk => ?_, ?_⟩
  · have h1 := hb1.size
    have h2 := hg.size
    have h5 : W1.drew.heap.size = W1.heap.size := rfl
    rw [show (w6.setCell ⟨F, 3, none⟩ v').heap.size = w6.heap.size by simp [World.setCell]]
    omega
  · rcases hn k hk with h | h
    · exact .inl h
    · exact .inr (Nat.le_trans hb1.size h)
  · refine Grew.setCell (Grew.grown (Grew.drew (Grew.ofBelow hb1)) hg (fun i hi => .inl ?_)) (p := ⟨F, 3, none⟩) (.inl (by simp)) v'
    rw [hi]; simp
set_option maxRecDepth 100000 in
theorem qPush_any {F : Nat} {T : TypeId} {c0 c1 c2 v : Value} (h : QAt B F T c0 c1 c2 w v Q) (x : TM) (hl : Q.length ≤ 100000) :
    Calls Tryd.prog 82 #[.pointer (some ⟨F, 3, none⟩), .iface 56 (tG x)] w (QR B F T c0 c1 c2 w v (Q ++ [x]) (.tuple #[])) := by
  obtain ⟨h1, h2, h3, h4⟩ := h
  obtain ⟨⟨a1, a2, a3⟩, xa, xc⟩ := x
  have HX : Hid (tG (⟨a1, a2, a3⟩, xa, xc) = .agg #[.int .i64 a1, .int .i64 a2, .slice xa a3.length xc]) := rfl
  rw [HX.out]
  obtain ⟨aq, cq, rfl, -, -⟩ := h2.row.shape tC_len
  have k3 : w.cell? ⟨F, 3, none⟩ = some (.slice aq Q.length cq) := h1.cell 3 rfl
  have z3 := h1.free 3
  have hFl : F < w.heap.size := h1.lt
  have H1 := Lib.hid h1
  have H2 := Lib.hid h2
  have hta : ∀ (u : Value) (W : World), (Instr.typeAssert (.iface 56 u) 20 56 true).run Tryd.prog W = .ok (.tuple #[u, .bool true]) W := fun u W => by kernel_rfl
  clear h1 h2
  go_enter Tryd.func82, Tryd.ntmps82
  go_wp2_with fail
  obtain ⟨W1, hW1⟩ : ∃ W1, W1 = w.alloc (.cells #[.int .i64 a1, .int .i64 a2, .slice xa a3.length xc] 56) := ⟨_, rfl⟩
  have hb1 : Below w.heap.size w W1 := by rw [hW1]; exact (Below.refl _ _).alloc (Nat.le_refl _) _
  have hct : CellsAt W1 w.heap.size 56 #[.int .i64 a1, .int .i64 a2, .slice xa a3.length xc] := by rw [hW1]; exact CellsAt.new w _ _
  rw [← hW1]
  clear hW1
  have t0 := hct.cell 0 rfl
  have t1 := hct.cell 1 rfl
  have t2 := hct.cell 2 rfl
  have hF1 : CellsAt W1 F T #[c0, c1, c2, .slice aq Q.length cq] := H1.out.stays hb1
  have k31 : W1.cell? ⟨F, 3, none⟩ = some (.slice aq Q.length cq) := hF1.cell 3 rfl
  have z31 := hF1.free 3
  have howD : OwnS 56 3 tC B W1.drew (.slice aq Q.length cq) Q := (H2.out.stays hb1).stays (Below.refl _ _).drew
  have hsz : w.heap.size ≤ W1.heap.size := hb1.size
  have hBs : B ≤ W1.drew.heap.size := Nat.le_trans h4 hsz
  have HF1 := Lib.hid hF1
  have HB1 := Lib.hid hb1
  have hF2 : F < W1.heap.size := HF1.out.lt
  have hG2 := hct.lt
  obtain ⟨GT, hGT⟩ : ∃ GT, GT = w.heap.size := ⟨_, rfl⟩
  rw [← hGT] at t0 t1 t2 hG2 ⊢
  clear hct hF1 hb1 k3 z3 hta hGT
  go_region_law ((refine step_pushS tC_len tC_one Tryd.underlying61 infoTM rfl (by decide) howD (⟨a1, a2, a3⟩, xa, xc) (by omega) hBs rfl _ _ rfl (by rfl) _ _ _ (by rfl) (by rfl) ?_; intro v6 w6 o6 g6 n6; have HO6 := Lib.hid o6; have HN6 := Lib.hid n6; have HC6 := Lib.hid (CellsAt.grown (CellsAt.drew HF1.out) g6 (fun h => by have := (howD.lt _ h).1; omega)); have HG6 := Lib.hid g6; obtain ⟨gg, cg, rfl, hgg, -⟩ := o6.block tC_len (by simp); have k36 := HC6.out.cell 3 rfl; have z36 := HC6.out.free 3; simp only [List.length_append, List.length_singleton] at HO6 HN6))
  all_goals go_wp2_with fail
  all_goals go_end0
  all_goals exact ⟨rfl, qp_close h3 h4 HB1.out HC6.out HO6.out HN6.out HG6.out⟩
theorem own_take {Q : List TM} {n c : Nat} (h : OwnS 56 3 tC B w (.slice (some ⟨g, 0, none⟩) (n + 1) c) Q) (hn : Q.length = n + 1) : OwnS 56 3 tC B w (.slice (some ⟨g, 0, none⟩) n c) (Q.take n) := by
  rcases h.2 with ⟨h1, h2⟩ | ⟨g', cap, cur, h1, h2, h3, h4, h5, h6, h7⟩
  · cases h1
  · obtain ⟨e1, -, e3⟩ := Value.slice.inj h1
    cases e1
    subst e3
    have hl : (Q.take n).length = n := by simp; omega
    unfold OwnS
    rw [hl]
    refine ⟨by rw [flat_len tC_len, hl], .inr ⟨g, c, cur, rfl, h2, h3, by omega, h5, h6, ?_⟩⟩
    have h8 : (cur.toList.take (Q.length * 3)).take (n * 3) = (Q.flatMap tC).take (n * 3) := by rw [h7]
    rw [List.take_take, Nat.min_eq_left (by omega)] at h8
    rw [h8]
    have h9 : Q.flatMap tC = (Q.take n).flatMap tC ++ (Q.drop n).flatMap tC := by rw [← List.flatMap_append, List.take_append_drop]
    rw [h9, List.take_append_of_le_length (by rw [flat_len tC_len, hl]; omega), List.take_of_length_le (by rw [flat_len tC_len, hl]; omega)]
set_option maxRecDepth 100000 in
theorem qPop_any {F : Nat} {T : TypeId} {c0 c1 c2 v : Value} {n : Nat} {x : TM} (h : QAt B F T c0 c1 c2 w v Q) (hn : Q.length = n + 1) (hx : Q[n]? = some x) (hl : Q.length ≤ 100000) :
    Calls Tryd.prog 81 #[.pointer (some ⟨F, 3, none⟩)] w (QR B F T c0 c1 c2 w v (Q.take n) (.iface 56 (tG x))) := by
  obtain ⟨h1, h2, h3, h4⟩ := h
  obtain ⟨g, c, rfl, hBg, hgw, hc, hfz, hcell⟩ := h2.block tC_len (by intro e; rw [e] at hn; simp at hn)
  rw [hn] at h1 h2 hc hl ⊢
  obtain ⟨-, x0, x1, x2, -⟩ := qcells h2 hx
  obtain ⟨⟨a1, a2, a3⟩, xa, xc⟩ := x
  have HX : Hid (tG (⟨a1, a2, a3⟩, xa, xc) = .agg #[.int .i64 a1, .int .i64 a2, .slice xa a3.length xc]) := rfl
  rw [HX.out]
  simp only [tV] at x0 x1 x2
  have k3 : w.cell? ⟨F, 3, none⟩ = some (.slice (some ⟨g, 0, none⟩) (n + 1) c) := h1.cell 3 rfl
  have z3 := h1.free 3
  have hFl : F < w.heap.size := h1.lt
  have H1 := Lib.hid h1
  have H2 := Lib.hid h2
  have HN := Lib.hid hn
  clear h1 h2 hx hfz hcell hn
  go_enter Tryd.func81, Tryd.ntmps81
  go_wp2_with fail
  go_ret
  refine ⟨rfl, _, ⟨CellsAt.stays (w := w.setCell ⟨F, 3, none⟩ (.slice (some ⟨g, 0, none⟩) n c)) (by simpa using H1.out.set 3 (.slice (some ⟨g, 0, none⟩) n c)) ((Below.refl _ _).alloc (Nat.le_refl _) _), OwnS.alloc (own_set_other (own_take H2.out HN.out) h3 3 _) _, h3, ?_⟩, fun k hk => .inl hk, ?_⟩
  · simp [World.setCell]; omega
  · exact Grew.alloc (Grew.setCell (Grew.refl _ _) (p := ⟨F, 3, none⟩) (.inl (by simp)) _) _
end
end Go.Proofs.YthabjnppmhlomaaDoor
