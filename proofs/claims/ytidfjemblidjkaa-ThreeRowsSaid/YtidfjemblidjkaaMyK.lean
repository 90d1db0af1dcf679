/- The walk of myers.behind's look: edit by edit. -/
import Derived.Test.YtidfjemblidjkaaMyB
namespace Go.Proofs.Ytidfjemblidjkaa
open Go Go.RowKit
set_option linter.unusedVariables false
/-- a row of the rows -/
def RV : Option (Nat × Nat) → Value
  | none => .slice none 0 0
  | some (g, n) => .slice (some ⟨g, 0, none⟩) n n
theorem RV_one (x : Option (Nat × Nat)) : (RV x).oneCell' = true := by cases x <;> rfl
theorem lst_in {a b : List Int} {d : Int} : ∀ {e : Nat}, dEnd a b - e ≤ d → d ≤ dEnd a b + e → lst a b e d = stepE a b e (lst a b (e - 1)) d
  | 0, h1, h2 => by unfold lst; rw [if_pos (by omega)]; rfl
  | e + 1, h1, h2 => by
    have : lst a b (e + 1) d = if dEnd a b - (e + 1) ≤ d ∧ d ≤ dEnd a b + (e + 1) then stepE a b (e + 1) (lst a b e) d else unr := rfl
    rw [this, if_pos (by push_cast at h1 h2; omega)]; rfl
theorem step_any (g : Nat) (va vb : Value) (a b : List Int) (w : World) (hB : Bh w g va vb a b) (hla : a.length ≤ 400) (hlb : b.length ≤ 400) (gr m cap e : Nat) (hR : RowsTo w g gr m cap e a b) (he : e ≤ 400) (hm : m ≤ 1000) (d : Int) (hd1 : dEnd a b - e ≤ d) (hd2 : d ≤ dEnd a b + e) :
    Calls Try.prog 53 #[.pointer (some ⟨g, 0, none⟩), .int .i64 (e : Int), .int .i64 d] w fun x w' => x = .returned (.int .i64 (lst a b e d)) ∧ Below w.heap.size w w' := by
  have hde := dEnd_le a b
  rw [lst_in hd1 hd2]
  cases e with
  | zero => exact step_zero g va vb a b w hB hla hlb d (by omega) (by omega)
  | succ e => exact step_succ g va vb a b w hB hla hlb gr m cap (e + 1) e hR (by omega) (by omega) hm d (by omega) (by omega)
theorem row_fill {cs : Array Value} {f : Nat → Value} {n k : Nat} (h : ∀ j, j < k → cs[j]? = some (f j)) (hs : cs.size = n) (hk : k < n) {v : Value} (hv : v = f k) : ∀ j, j < k + 1 → (cs.setIfInBounds k v)[j]? = some (f j) := fun j h1 => by
  by_cases e : j = k
  · subst e; rw [Array.getElem?_setIfInBounds_self_of_lt (by omega), hv]
  · rw [Array.getElem?_setIfInBounds_ne (fun h => e h.symm)]; exact h j (by omega)
theorem own_grown {B : Nat} {w w' : World} {v : Value} {e : TypeId} {size n : Nat} {xs : List Value} {row : Option Nat} (h : w.ownsRow B e size v n xs) (hg : w.grownBy w' row) (hne : ∀ k, v.ownBlock = some k → row ≠ some k) : w'.ownsRow B e size v n xs :=
  ⟨h.1, h.2.imp id fun ⟨g, cap, cur, h1, h2, h3, h4⟩ => ⟨g, cap, cur, h1, h2, (hg.block g (lt_of_block h3) (fun e => hne g (by subst h1; rfl) e.symm)).trans h3, h4⟩⟩
theorem grown_setCell (w : World) (g j : Nat) (v : Value) : w.grownBy (w.setCell ⟨g, j, none⟩ v) (some g) := grownBy_setCell (grownBy_refl w _) _ (.inl rfl) v
/-- what has been reckoned: the first e rows, each in a block of its own below lim -/
def LookRows (w : World) (B lim : Nat) (vr : Value) (rs : List (Option (Nat × Nat))) (e : Nat) (a b : List Int) : Prop :=
  ∀ i, i < e → ∃ ge, rs[i]? = some (some (ge, 2 * i + 1)) ∧ B ≤ ge ∧ ge < lim ∧ vr.ownBlock ≠ some ge ∧ ∀ j, j ≤ 2 * i → w.cell? ⟨ge, j, none⟩ = some (.int .i64 (lst a b i (dEnd a b + j - i)))
theorem LookRows.keep {w w' : World} {B lim lim' : Nat} {v v' : Value} {rs rs' : List (Option (Nat × Nat))} {e : Nat} {a b : List Int} (h : LookRows w B lim v rs e a b) (hl : lim ≤ lim')
    (hk : ∀ ge j u, B ≤ ge → ge < lim → v.ownBlock ≠ some ge → w.cell? ⟨ge, j, none⟩ = some u → w'.cell? ⟨ge, j, none⟩ = some u)
    (hv : ∀ ge, B ≤ ge → ge < lim → v.ownBlock ≠ some ge → v'.ownBlock ≠ some ge) (hr : ∀ i x, i < e → rs[i]? = some x → rs'[i]? = some x) : LookRows w' B lim' v' rs' e a b := fun i hi => by
  obtain ⟨ge, h1, h2, h3, h4, h5⟩ := h i hi
  exact ⟨ge, hr i _ hi h1, h2, by omega, hv ge h2 h3 h4, fun j hj => hk ge j _ h2 h3 h4 (h5 j hj)⟩
theorem LookRows.rows {w : World} {B lim g : Nat} {vr : Value} {rs : List (Option (Nat × Nat))} {e : Nat} {a b : List Int} (h : LookRows w B lim vr rs e a b) (hc : w.cell? ⟨g, 2, none⟩ = some vr) (ho : OwnL 22 RV B w vr rs) (hne : rs ≠ []) :
    ∃ gr cap, vr = .slice (some ⟨gr, 0, none⟩) rs.length cap ∧ RowsTo w g gr rs.length cap e a b := by
  obtain ⟨gr, cap, rfl, h1, h2, h3, h4, h5⟩ := ho.block hne
  refine ⟨gr, cap, rfl, hc, fun i hi => ?_⟩
  obtain ⟨ge, k1, k2, k3, k4, k5⟩ := h i hi
  exact ⟨(List.getElem?_eq_some_iff.1 k1).1, ge, h5 i _ k1, k5⟩
/-- a row more: as it lies ahead of its reckoning -/
structure LookV (V w0 : World) (B g gE : Nat) (va vb v' : Value) (rs : List (Option (Nat × Nat))) (e : Nat) (a b : List Int) (cs : Array Value) : Prop where
  cells : CellsAt V g 67 #[va, vb, v']
  own : OwnL 22 RV B V v' rs
  rows : LookRows V B gE v' rs e a b
  row : CellsAt V gE 3 cs
  apart : v'.ownBlock ≠ some gE
  ge : B ≤ gE
  below : Below w0.heap.size w0 V
  size : B ≤ V.heap.size
theorem look_push {w0 wr w1 w2 : World} {B g e : Nat} {va vb vr v' : Value} {rs : List (Option (Nat × Nat))} {a b : List Int} {cs : Array Value} (hc : CellsAt wr g 67 #[va, vb, vr]) (how : OwnL 22 RV B wr vr rs) (hLR : LookRows wr B wr.heap.size vr rs e a b) (hrl : rs.length = e)
    (hbe : Below w0.heap.size w0 wr) (hB : B ≤ wr.heap.size) (hg : w0.heap.size ≤ g) (hgB : g < B) (hr1 : CellsAt w1 wr.heap.size 3 cs) (hw1 : Below wr.heap.size wr w1)
    (ho2 : OwnL 22 RV B w2 v' (rs ++ [none])) (hg2 : w1.grownBy w2 vr.ownBlock) (hn2 : NewOrSame w1 vr v') :
    LookV (w2.setCell ⟨g, 2, none⟩ v') w0 B g wr.heap.size va vb v' (rs ++ [none]) e a b cs := by
  have hvb : ∀ k, vr.ownBlock = some k → B ≤ k ∧ k < wr.heap.size := fun k hk => how.lt k hk
  have hvb' : ∀ k, v'.ownBlock = some k → B ≤ k ∧ k < w2.heap.size := fun k hk => ho2.lt k hk
  have hs1 := hr1.lt
  have e1 : vr.ownBlock ≠ some wr.heap.size := fun h => by have := hvb _ h; omega
  have e2 : v'.ownBlock ≠ some wr.heap.size := fun h => by
    rcases hn2 _ h with h | h
    · exact e1 h
    · omega
  have hgw : g < wr.heap.size := by omega
  have hb0 : w0.heap.size ≤ wr.heap.size := hbe.size
  have hb2 : Below w0.heap.size w0 w2 := (hbe.trans (hw1.mono hbe.size)).grown hg2 (by have := hw1.size; omega) (fun k hk => by have := hvb k hk; omega)
  refine ⟨?_, ?_, ?_, ?_, e2, hB, hb2.setCell hg _, by have := hg2.size; have := hw1.size; simp; omega⟩
  · have := ((hc.stays hw1).grown hg2 (fun h => by have := hvb _ h; omega)).set 2 v'
    simpa using this
  · exact own_grown ho2 (grown_setCell _ _ _ _) (fun k hk h => by have := hvb' k hk; cases h; omega)
  · refine hLR.keep (Nat.le_refl _) (fun ge j u h1 h2 h3 h4 => ?_) (fun ge h1 h2 h3 h4 => ?_) (fun i x hi hx => ?_)
    · refine cell_grown (grown_setCell _ _ _ _) (by omega) ?_
      have h5 := cell_below hw1 h4
      exact (World.cell?_of_block (a := ⟨ge, j, none⟩) (hg2.block ge (World.block_lt_of_cell? w1 ⟨ge, j, none⟩ h5) (fun e => h3 e.symm))).trans h5
    · rcases hn2 _ h4 with h | h
      · exact h3 h
      · omega
    · rw [List.getElem?_append_left (by omega)]; exact hx
  · exact (hr1.grown hg2 (fun h => e1 h)).other _ (by show wr.heap.size ≠ g; omega) _
/-- is the distance one that is looked at? -/
def nearB (a b : List Int) : Bool := decide (dist a b ≤ 400)
theorem nearB_yes {a b : List Int} (h : dist a b ≤ 400) : nearB a b = true := by unfold nearB; simpa using h
theorem nearB_no {a b : List Int} (h : 400 < dist a b) : nearB a b = false := by unfold nearB; simpa using h
/-- what a look leaves in block g -/
def Looked (w : World) (g : Nat) (a b : List Int) : Prop := nearB a b = true → ∃ gr cap, RowsTo w g gr (dist a b + 1) cap (dist a b + 1) a b
theorem lst_zero {a b : List Int} (hla : a.length ≤ 400) (hlb : b.length ≤ 400) (e : Nat) : lst a b e 0 = 0 ↔ dist a b ≤ e := by
  have h := reach_all (a := a) (b := b) (by omega) (by omega) e
  have h1 := h.1 0
  have h2 := h.2 0 0 (Nat.zero_le _) (Nat.zero_le _)
  have h3 : tab a b 0 0 = dist a b := by unfold tab; rfl
  rw [h3] at h2
  have := unr_def
  rw [← h2]
  show _ ↔ lst a b e (((0 : Nat) : Int) - ((0 : Nat) : Int)) ≤ _
  simp only [Int.sub_self] at *
  omega
set_option maxRecDepth 100000 in
set_option maxHeartbeats 4000000 in
theorem look_any (g : Nat) (va vb : Value) (a b : List Int) (w0 w : World) (hra : RowZ w0 va a) (hrb : RowZ w0 vb b) (hla : a.length ≤ 400) (hlb : b.length ≤ 400) (hbe : Below w0.heap.size w0 w) (hg : w0.heap.size ≤ g)
    (hc : CellsAt w g 67 #[va, vb, .slice none 0 0]) :
    Calls Try.prog 48 #[.pointer (some ⟨g, 0, none⟩)] w fun x w' => x = .returned (.bool (nearB a b)) ∧ Bh w' g va vb a b ∧ Looked w' g a b ∧ Below w0.heap.size w0 w' := by
  have HRA := Lib.hid hra
  have HRB := Lib.hid hrb
  have HZ := Lib.hid (lst_zero hla hlb)
  have hde := dEnd_le a b
  have hgl := hc.lt
  have hbw := hbe.size
  clear hra hrb
  go_enter Try.func48, Try.ntmps48
  go_wp2_with fail
  go_loopw [3] (fun x wr => ∃ (e : Nat) (vr : Value) (rs : List (Option (Nat × Nat))), e ≤ 401 ∧ x = .int .i64 e ∧ CellsAt wr g 67 #[va, vb, vr] ∧ OwnL 22 RV w.heap.size wr vr rs ∧ rs.length = e ∧ LookRows wr w.heap.size wr.heap.size vr rs e a b ∧ e ≤ dist a b ∧ Below w0.heap.size w0 wr ∧ w.heap.size ≤ wr.heap.size) (fun x _ => 401 - (intOf x).toNat)
  case atStart => exact ⟨0, _, [], by omega, rfl, hc, OwnL.nil _ _, rfl, fun i hi => by omega, Nat.zero_le _, hbe, Nat.le_refl _⟩
  case round =>
    clear hc hbe
    obtain ⟨e, vr, rs, he, rfl, hc, how, hrl, hLR, hdi, hbe, hwl⟩ := hrel
    have HRL := Lib.hid hrl
    have HLR := Lib.hid hLR
    clear hrl hLR
    by_cases h1 : e ≤ 400
    · have e1 : decide ((e : Int) ≤ 400) = true := by simp; omega
      go_wp2_with (at_make; go_must (refine wpList_makeL Try.underlying22 infoZ rfl (by decide) rfl _ _ rfl _ _ _ _ (2 * e + 1) (2 * e + 1) rfl rfl (by push_cast; rfl) (by push_cast; rfl) (Nat.le_refl _) (by omega) ?_))
      intro w1 hr1 hw1
      have hb1 : Below wr.heap.size wr w1 := by rw [hw1]; exact (Below.refl _ _).alloc (Nat.le_refl _) _
      have how1 := how.stays hb1
      have hc1 := hc.stays hb1
      have c2 := hc1.cell 2 (v := vr) rfl
      have hs1 := hb1.size
      clear hw1
      go_wp2_with (at_builtin; go_must (refine wpList_pushL RV_one Try.underlying25 infoZZ rfl (by decide) how1 none (by have := HRL.out; omega) (by omega) rfl _ _ rfl (by rfl) _ _ _ (by rfl) (by rfl) ?_))
      intro v' w2 ho2 hg2 hn2
      obtain ⟨gr, cap, hv', k1, k2, -, -, -⟩ := ho2.block (by simp)
      subst hv'
      have hrl2 : (rs ++ [none]).length = e + 1 := by rw [List.length_append, HRL.out]; rfl
      rw [hrl2] at ho2 hn2 ⊢
      have hgrg : g ≠ gr := by omega
      have HLV := Lib.hid (look_push hc how HLR.out HRL.out hbe hwl hg hgl hr1 hb1 ho2 hg2 hn2)
      have hc2 := (hc1.grown hg2 (fun h => by have := (how1.lt _ h).1; omega))
      have f2 := hc2.cell 2 (v := vr) rfl
      have f2' := hc2.free 2
      have HRL2 := Lib.hid hrl2
      clear hc how hr1 hb1 how1 hc1 c2 hs1 ho2 hg2 hn2 hc2 hrl2 k1 k2
      go_wp2_with fail
      obtain ⟨V, hV⟩ : ∃ V, V = w2.setCell ⟨g, 2, none⟩ (.slice (some ⟨gr, 0, none⟩) (e + 1) cap) := ⟨_, rfl⟩
      rw [← hV] at HLV ⊢
      clear hV f2 f2' hbe
      obtain ⟨gE, hgE⟩ : ∃ gE, gE = wr.heap.size := ⟨_, rfl⟩
      rw [← hgE] at HLV hwl ⊢
      clear hgE
      -- what holds while the row is written
      have HF : Hid (∀ wr2, V.grownBy wr2 (some gE) → Bh wr2 g va vb a b ∧ RowsTo wr2 g gr (e + 1) cap e a b ∧ Below w0.heap.size w0 wr2) := by
        show ∀ _, _
        intro wr2 hgr
        obtain ⟨v1, v2, v3, v4, v5, v6, v7, v8⟩ := HLV.out
        have hb := v7.grown hgr v7.size (fun k hk => by cases hk; omega)
        have hcg := v1.grown hgr (fun h => by cases h; omega)
        have hog : OwnL 22 RV w.heap.size wr2 _ (rs ++ [none]) := own_grown v2 hgr (fun k hk h => by cases h; exact v5 hk)
        have hlr := v3.keep (w' := wr2) (lim' := gE) (rs' := rs ++ [none]) (Nat.le_refl _) (fun ge j u h1 h2 h3 h4 => cell_grown hgr (by omega) h4) (fun ge _ _ h => h) (fun i x _ h => h)
        refine ⟨⟨hcg.cell 0 rfl, hcg.cell 1 rfl, HRA.out.stays hb, HRB.out.stays hb⟩, ?_, hb⟩
        obtain ⟨gr', cap', h1, h2⟩ := hlr.rows (g := g) (hcg.cell 2 rfl) hog (by simp)
        rw [HRL2.out] at h1 h2
        cases h1
        exact h2
      have hwV : w.heap.size ≤ V.heap.size := HLV.out.size
      have v4 := HLV.out.row
      have hde1 := hde.1
      have hde2 := hde.2
      clear hde
      go_loopw [25] (fun x wr2 => ∃ (k : Nat) (cs : Array Value), k ≤ 2 * e + 1 ∧ x = .int .i64 k ∧ CellsAt wr2 gE 3 cs ∧ cs.size = 2 * e + 1 ∧ (∀ j, j < k → cs[j]? = some (.int .i64 (lst a b e (dEnd a b + j - e)))) ∧ V.grownBy wr2 (some gE)) (fun x _ => 2 * e + 1 - (intOf x).toNat)
      case atStart => exact ⟨0, _, Nat.zero_le _, rfl, v4, by simp, fun j hj => by omega, grownBy_refl _ _⟩
      case round =>
        obtain ⟨k, cs, hk, rfl, hcR, hcs, hR, hgr⟩ := hrel
        have HCS := Lib.hid hcs
        have HR := Lib.hid hR
        clear v4 hcs hR
        by_cases hk1 : k ≤ 2 * e
        · obtain ⟨hB, hRT, -⟩ := HF.out wr hgr
          have HE := Lib.hid (end_any g va vb a b wr hB hla hlb)
          have HS := shift_any g
          have hST := fun w' (hb : Below wr.heap.size wr w') => step_any g va vb a b w' (hB.below hb) hla hlb gr (e + 1) cap e (hRT.below hb) h1 (by omega) (dEnd a b + k - e) (by omega) (by omega)
          have HST := Lib.hid hST
          have e2 : decide ((k : Int) < 2 * e + 1) = true := by simp; omega
          clear hST hB hRT
          go_wp2_with fail
          refine HE.out.mono ?_
          rintro x w3 ⟨rfl, hb3⟩
          go_wp2_with fail
          refine (HS _ _).mono ?_
          rintro x w4 ⟨rfl, rfl⟩
          go_wp2_with fail
          refine (HST.out _ hb3).mono ?_
          rintro x w5 ⟨rfl, hb5⟩
          have hb6 := hb3.trans (hb5.mono hb3.size)
          have hcR2 := hcR.stays hb6
          have hgr2 := grownBy_trans hgr (grownBy_none (row := some gE) (grown_of_below hb6))
          obtain ⟨u, hu⟩ : ∃ u, cs[k]? = some u := ⟨_, Array.getElem?_eq_getElem (by have := HCS.out; omega)⟩
          have f1 := hcR2.cell k hu
          have f2 := hcR2.free k
          clear hcR hgr hb3 hb5 hb6 hu
          go_wp2_with fail
          go_roundw
          case rel => exact ⟨k + 1, _, by omega, by go_num, hcR2.set k _, by rw [Array.size_setIfInBounds]; exact HCS.out, row_fill (f := fun j => .int .i64 (lst a b e (dEnd a b + j - e))) HR.out HCS.out (by omega) rfl, grownBy_setCell hgr2 _ (.inl rfl) _⟩
          case measure => simp only [intOf]; omega
        · obtain rfl : k = 2 * e + 1 := by omega
          obtain ⟨hB, hRT, hbe3⟩ := HF.out wr hgr
          obtain ⟨v1, v2, v3, v4, v5, v6, v7, v8⟩ := HLV.out
          have hcg := v1.grown hgr (fun h => by cases h; omega)
          have hog : OwnL 22 RV w.heap.size wr (.slice (some ⟨gr, 0, none⟩) (e + 1) cap) (rs ++ [none]) := own_grown v2 hgr (fun k hk h => by cases h; exact v5 hk)
          have hlr := v3.keep (w' := wr) (lim' := gE) (rs' := rs ++ [none]) (Nat.le_refl _) (fun ge j u h1 h2 h3 h4 => cell_grown hgr (by omega) h4) (fun ge _ _ h => h) (fun i x _ h => h)
          have hgEgr : gE ≠ gr := fun h => v5 (by rw [h]; rfl)
          have HGG := Lib.hid hgEgr
          have c2 := hcg.cell 2 (v := .slice (some ⟨gr, 0, none⟩) (e + 1) cap) rfl
          obtain ⟨-, hgrB⟩ : True ∧ w.heap.size ≤ gr := ⟨trivial, (v2.lt gr rfl).1⟩
          have cgr : ∃ u, wr.cell? ⟨gr, e, none⟩ = some u := by
            obtain ⟨g', c', h1, -, -, -, -, h5⟩ := hog.block (by simp)
            rw [HRL2.out] at h1
            cases h1
            exact ⟨_, h5 e none (by rw [List.getElem?_append_right (by have := HRL.out; omega), HRL.out]; simp)⟩
          obtain ⟨ugr, cgr⟩ := cgr
          have fgr : wr.frozen? ⟨gr, e, none⟩ = false := by
            obtain ⟨g', c', h1, -, -, -, h5, -⟩ := hog.block (by simp)
            rw [HRL2.out] at h1
            cases h1
            exact h5 e
          have HLF : Hid (LookRows (wr.setCell ⟨gr, e, none⟩ (RV (some (gE, 2 * e + 1)))) w.heap.size wr.heap.size (.slice (some ⟨gr, 0, none⟩) (e + 1) cap) ((rs ++ [none]).set e (some (gE, 2 * e + 1))) (e + 1) a b) := by
            show LookRows _ _ _ _ _ _ _ _
            intro i hi
            by_cases hie : i = e
            · subst hie
              refine ⟨gE, by rw [List.getElem?_set_self (by rw [HRL2.out]; omega)], v6, hcR.lt, v5, fun j hj => ?_⟩
              exact cell_grown (grown_setCell _ _ _ _) hgEgr (hcR.cell j (HR.out j (by omega)))
            · obtain ⟨ge, q1, q2, q3, q4, q5⟩ := hlr i (by omega)
              refine ⟨ge, by rw [List.getElem?_set_ne (fun h => hie h.symm)]; exact q1, q2, by have := hcR.lt; omega, q4, fun j hj => ?_⟩
              exact cell_grown (grown_setCell _ _ _ _) (fun h => q4 (by rw [h]; rfl)) (q5 j hj)
          have hoF : OwnL 22 RV w.heap.size (wr.setCell ⟨gr, e, none⟩ (RV (some (gE, 2 * e + 1)))) (.slice (some ⟨gr, 0, none⟩) (e + 1) cap) ((rs ++ [none]).set e (some (gE, 2 * e + 1))) := hog.set e _
          have hcF : CellsAt (wr.setCell ⟨gr, e, none⟩ (RV (some (gE, 2 * e + 1)))) g 67 #[va, vb, .slice (some ⟨gr, 0, none⟩) (e + 1) cap] := hcg.other _ hgrg _
          have hbF : Below w0.heap.size w0 (wr.setCell ⟨gr, e, none⟩ (RV (some (gE, 2 * e + 1)))) := hbe3.setCell (by show w0.heap.size ≤ gr; omega) _
          have hlF : ((rs ++ [none]).set e (some (gE, 2 * e + 1))).length = e + 1 := by rw [List.length_set]; exact HRL2.out
          have hsF : w.heap.size ≤ (wr.setCell ⟨gr, e, none⟩ (RV (some (gE, 2 * e + 1)))).heap.size := by have := hgr.size; simp; omega
          have HLFL := Lib.hid hlF
          have HLS : Hid (wr.heap.size = (wr.setCell ⟨gr, e, none⟩ (RV (some (gE, 2 * e + 1)))).heap.size) := by show _ = _; simp
          clear hB hRT hbe3 v1 v2 v3 v4 v5 v6 v7 v8 hcg hog hlr hgEgr hcR hgr hlF
          go_wp2_with fail
          obtain ⟨V3, hV3⟩ : ∃ V3, V3 = wr.setCell ⟨gr, e, none⟩ (.slice (some ⟨gE, 0, none⟩) (2 * e + 1) (2 * e + 1)) := ⟨_, rfl⟩
          have hV3' : wr.setCell ⟨gr, e, none⟩ (RV (some (gE, 2 * e + 1))) = V3 := hV3.symm
          rw [hV3'] at HLF hoF hcF hbF hsF HLS
          rw [← hV3]
          clear hV3 hV3' c2 cgr fgr
          have hB : Bh V3 g va vb a b := ⟨hcF.cell 0 rfl, hcF.cell 1 rfl, HRA.out.stays hbF, HRB.out.stays hbF⟩
          obtain ⟨gr', cap', q1, hRT⟩ := (HLF.out.keep (w' := V3) (lim' := V3.heap.size) (rs' := (rs ++ [none]).set e (some (gE, 2 * e + 1))) (show wr.heap.size ≤ V3.heap.size from by have := HLS.out; omega) (fun ge j u h1 h2 h3 h4 => h4) (fun ge _ _ h => h) (fun i x _ h => h)).rows (g := g) (hcF.cell 2 rfl) hoF (by rw [← List.length_pos_iff, HLFL.out]; omega)
          rw [HLFL.out] at q1 hRT
          cases q1
          have HLR3 := Lib.hid (HLF.out.keep (w' := V3) (lim' := V3.heap.size) (rs' := (rs ++ [none]).set e (some (gE, 2 * e + 1))) (show wr.heap.size ≤ V3.heap.size from by have := HLS.out; omega) (fun ge j u h1 h2 h3 h4 => h4) (fun ge _ _ h => h) (fun i x _ h => h))
          have HLA := Lib.hid (least_any g va vb a b V3 hB hla hlb gr (e + 1) cap (e + 1) e hRT (by omega) (by omega) (by omega) 0 (by omega) (by omega))
          have HBB := Lib.hid hB
          have HRT := Lib.hid hRT
          clear hB hRT
          by_cases hd : dist a b ≤ e
          · have e3 : (lst a b e 0 == 0) = true := by simp [(HZ.out e).2 hd]
            have HN := Lib.hid (nearB_yes (a := a) (b := b) (by omega))
            have hde : dist a b = e := by omega
            have HDE := Lib.hid hde
            clear hd hde
            refine HLA.out.mono ?_
            rintro x V4 ⟨rfl, hb4⟩
            go_wp2_with fail
            go_ret
            exact ⟨ret1 (by rw [HN.out]; rfl), HBB.out.below hb4, fun _ => ⟨gr, cap, by rw [HDE.out]; exact HRT.out.below hb4⟩, hbF.trans (hb4.mono hbF.size)⟩
          · have e3 : (lst a b e 0 == 0) = false := by simp [HZ.out e]; omega
            refine HLA.out.mono ?_
            rintro x V4 ⟨rfl, hb4⟩
            have hs4 := hb4.size
            have hcF4 := hcF.stays hb4
            have hoF4 := hoF.stays hb4
            have hbF4 := hbF.trans (hb4.mono hbF.size)
            have HL4 := Lib.hid (HLR3.out.keep (w' := V4) (lim' := V4.heap.size) (rs' := (rs ++ [none]).set e (some (gE, 2 * e + 1))) hs4 (fun ge j u h1 h2 h3 h4 => cell_below hb4 h4) (fun ge _ _ h => h) (fun i x _ h => h))
            clear hcF hoF hbF hb4
            go_wp2_with fail
            go_roundw
            case rel => exact ⟨e + 1, _, _, by omega, by go_num, hcF4, hoF4, HLFL.out, HL4.out, by omega, hbF4, by omega⟩
            case measure => simp only [intOf]; omega
    · obtain rfl : e = 401 := by omega
      have HN := Lib.hid (nearB_no (a := a) (b := b) (by omega))
      have hB : Hid (Bh wr g va vb a b) := ⟨hc.cell 0 rfl, hc.cell 1 rfl, HRA.out.stays hbe, HRB.out.stays hbe⟩
      go_wp2_with fail
      go_ret
      exact ⟨ret1 (by rw [HN.out]; rfl), hB.out, fun h => (by rw [HN.out] at h; cases h), hbe⟩
end Go.Proofs.Ytidfjemblidjkaa
