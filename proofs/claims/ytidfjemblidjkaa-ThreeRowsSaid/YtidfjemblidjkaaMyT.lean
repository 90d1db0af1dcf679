/- The walk of the reference's table of distances. -/
import Derived.Test.YtidfjemblidjkaaMyA
import Derived.Test.YtidfjemblidjkaaSrows
import Derived.BigQuiet
import Derived.Deep.QuietTactic
namespace Go.Proofs.Ytidfjemblidjkaa
open Go Go.RowKit
set_option linter.unusedVariables false
theorem infoZ : (Try.prog.info? 3).map (fun i => (i.zero, i.size, i.bytes)) = some (some (.int .i64 0), 1, 8) := by kernel_rfl
theorem infoZZ : (Try.prog.info? 22).map (fun i => (i.zero, i.size, i.bytes)) = some (some (.slice none 0 0), 1, 24) := by kernel_rfl
theorem madeCells_one {z : Value} (hz : z.cells = #[z]) (n : Nat) : madeCells z.cells (n * 1) = Array.replicate n z := by
  rw [hz]
  apply Array.ext
  · simp [madeCells]
  · intro i h1 h2
    simp [madeCells, Nat.mod_one]
/-- make([]T, n, n) of one-celled elements -/
theorem wpList_makeL {P : Program} {w : World} {ops : Array Oper} {rest : List Oper} {o : Oper} {a : Act} {Q : Exit → Act → World → Prop} {T E : TypeId} {z : Value} {bytes : Nat} (ht : P.underlying T = some (.slice E)) (hinf : (P.info? E).map (fun i => (i.zero, i.size, i.bytes)) = some (some z, 1, bytes)) (hz : z.cells = #[z]) (hby : bytes ≤ 1000)
    (hgd : o.guard = none) (l c : Operand) (ho : o.op = Op.makeSlice T l c) (kl kc : IntKind) (L C : Int) (n m : Nat)
    (hl : a.eval l = .int kl L) (hc : a.eval c = .int kc C) (hL : L = n) (hC : C = m) (h1 : n ≤ m) (h2 : m ≤ 1000000)
    (h : ∀ w', CellsAt w' w.heap.size E (Array.replicate m z) → w' = w.alloc (.cells (Array.replicate m z) E) → wpList P ops Q rest (a.put o.dst (.slice (some ⟨w.heap.size, 0, none⟩) n m)) w') : wpList P ops Q (o :: rest) a w := by
  subst hL
  subst hC
  obtain ⟨i, hi, hz0, hz1, hz2⟩ := info_parts hinf
  have hmb := Nat.mul_le_mul hby h2
  have hmk := run_make (P := P) w T E i z ht hi hz0 kl kc (n : Int) (m : Int) (by omega) (by omega) (by rw [hz2, ← Int.natCast_mul]; omega) (by omega)
  rw [hz1, Int.toNat_natCast, Int.toNat_natCast, madeCells_one hz] at hmk
  refine wpList_plain hgd fun K hK' => ?_
  unfold Oper.wp
  simp only [execOp, ho, hl, hc, Sem.run_bind, hmk, Result.andThen_ok]
  exact hK' _ _ (h _ (heap_alloc_new w _) rfl)
/-- the table from row x on, in block g: each row in a block of its own, below lim -/
def TabFrom (w : World) (gT lim : Nat) (a b : List Int) (x0 : Nat) : Prop :=
  ∀ x, x0 ≤ x → x ≤ a.length → ∃ g, g ≠ gT ∧ g < lim ∧ w.cell? ⟨gT, x, none⟩ = some (.slice (some ⟨g, 0, none⟩) (b.length + 1) (b.length + 1)) ∧ ∀ y, y ≤ b.length → w.cell? ⟨g, y, none⟩ = some (.int .i64 (tab a b x y))
theorem TabFrom.keep {w w' : World} {gT lim lim' : Nat} {a b : List Int} {x0 : Nat} (h : TabFrom w gT lim a b x0) (hl : lim ≤ lim') (hk : ∀ x u, x0 ≤ x → w.cell? ⟨gT, x, none⟩ = some u → w'.cell? ⟨gT, x, none⟩ = some u) (hk2 : ∀ g y u, g ≠ gT → g < lim → w.cell? ⟨g, y, none⟩ = some u → w'.cell? ⟨g, y, none⟩ = some u) : TabFrom w' gT lim' a b x0 := fun x h1 h2 => by
  obtain ⟨g, h3, h4, h5, h6⟩ := h x h1 h2
  exact ⟨g, h3, by omega, hk _ _ h1 h5, fun y hy => hk2 _ _ _ h3 h4 (h6 y hy)⟩
theorem cell_below {w w' : World} (hb : Below w.heap.size w w') {b o : Nat} {u : Value} (h : w.cell? ⟨b, o, none⟩ = some u) : w'.cell? ⟨b, o, none⟩ = some u := (hb.cell (p := ⟨b, o, none⟩) (World.block_lt_of_cell? w ⟨b, o, none⟩ h)).trans h
theorem cell_grown {w w' : World} {g b o : Nat} {u : Value} (hg : w.grownBy w' (some g)) (hne : b ≠ g) (h : w.cell? ⟨b, o, none⟩ = some u) : w'.cell? ⟨b, o, none⟩ = some u :=
  (World.cell?_of_block (a := ⟨b, o, none⟩) (hg.block b (World.block_lt_of_cell? w ⟨b, o, none⟩ h) (fun e => hne (Option.some.inj e)))).trans h
theorem TabFrom.below {w w' : World} {gT lim lim' : Nat} {a b : List Int} {x0 : Nat} (h : TabFrom w gT lim a b x0) (hl : lim ≤ lim') (hb : Below w.heap.size w w') : TabFrom w' gT lim' a b x0 :=
  h.keep hl (fun x u _ hc => cell_below hb hc) (fun g y u _ _ hc => cell_below hb hc)
theorem TabFrom.grown {w w' : World} {gT lim g' : Nat} {a b : List Int} {x0 : Nat} (h : TabFrom w gT lim a b x0) (hg : w.grownBy w' (some g')) (hne : gT ≠ g') (hl : lim ≤ g') : TabFrom w' gT lim a b x0 :=
  h.keep (Nat.le_refl _) (fun x u _ hc => cell_grown hg hne hc) (fun g y u _ hlt hc => cell_grown hg (by omega) hc)
theorem TabFrom.head {w : World} {gT lim : Nat} {a b : List Int} {j : Nat} (h : TabFrom w gT lim a b (j + 1)) (v : Value) : TabFrom (w.setCell ⟨gT, j, none⟩ v) gT lim a b (j + 1) :=
  h.keep (Nat.le_refl _) (fun x u hx hc => (World.cell?_setCell_other w ⟨gT, j, none⟩ ⟨gT, x, none⟩ v (by intro e; cases e; omega)).trans hc) (fun g y u hne _ hc => (World.cell?_setCell_other w ⟨gT, j, none⟩ ⟨g, y, none⟩ v (by intro e; cases e; exact hne rfl)).trans hc)
theorem TabFrom.cons {V wr : World} {g g2 : Nat} {a b : List Int} {j : Nat} (h : TabFrom V g g2 a b (j + 1)) (hg : V.grownBy wr (some g2)) (hne : g ≠ g2) (hc : V.cell? ⟨g, j, none⟩ = some (.slice (some ⟨g2, 0, none⟩) (b.length + 1) (b.length + 1))) (hlt : g2 < wr.heap.size) (hr : ∀ y, y ≤ b.length → wr.cell? ⟨g2, y, none⟩ = some (.int .i64 (tab a b j y))) : TabFrom wr g wr.heap.size a b j := fun x h1 h2 => by
  by_cases e : x = j
  · subst e; exact ⟨g2, fun e => hne e.symm, hlt, cell_grown hg hne hc, hr⟩
  · obtain ⟨g', h3, h4, h5, h6⟩ := (h.grown hg hne (Nat.le_refl _)) x (by omega) h2
    exact ⟨g', h3, by omega, h5, h6⟩
theorem row_step {cs2 : Array Value} {f : Nat → Value} {n y : Nat} (h : ∀ y', y + 1 ≤ y' → y' ≤ n → cs2[y']? = some (f y')) (hs : cs2.size = n + 1) (hy : y ≤ n) {v : Value} (hv : v = f y) : ∀ y', y ≤ y' → y' ≤ n → (cs2.setIfInBounds y v)[y']? = some (f y') := fun y' h1 h2 => by
  by_cases e : y' = y
  · subst e; rw [Array.getElem?_setIfInBounds_self_of_lt (by omega), hv]
  · rw [Array.getElem?_setIfInBounds_ne (fun h => e h.symm)]; exact h y' (by omega) h2
set_option maxRecDepth 100000 in
set_option maxHeartbeats 4000000 in
theorem table_any (va vb : Value) (a b : List Int) (w : World) (ha : RowZ w va a) (hb : RowZ w vb b) (hla : a.length ≤ 400) (hlb : b.length ≤ 400) :
    Calls Try.prog 11 #[va, vb] w fun e w' => e = .returned (.slice (some ⟨w.heap.size, 0, none⟩) (a.length + 1) (a.length + 1)) ∧ (∃ lim, TabFrom w' w.heap.size lim a b 0) ∧ Below w.heap.size w w' := by
  obtain ⟨aa, ca, rfl, -, hia⟩ := ha.gen.shape
  obtain ⟨ab, cb, rfl, -, hib⟩ := hb.gen.shape
  have HIA := Lib.hid hia
  have HIB := Lib.hid hib
  clear ha hb hia hib
  go_enter Try.func11, Try.ntmps11
  go_wp2_with (at_make; go_must (refine wpList_makeL Try.underlying25 infoZZ rfl (by decide) rfl _ _ rfl _ _ _ _ (a.length + 1) (a.length + 1) rfl rfl (by push_cast; rfl) (by push_cast; rfl) (Nat.le_refl _) (by omega) ?_))
  intro w1 hc1 hw1
  have hb1 : Below w.heap.size w w1 := by rw [hw1]; exact (Below.refl _ _).alloc (Nat.le_refl _) _
  clear hw1
  have hg1 := hb1.size
  obtain ⟨g, hg⟩ : ∃ g, g = w.heap.size := ⟨_, rfl⟩
  have HG := Lib.hid hg
  rw [← hg] at hc1 ⊢
  have hwg : w.heap.size ≤ g := by omega
  clear hg hg1
  go_wp2_with fail
  go_loopw [6] (fun x wr => ∃ (k : Nat) (cs : Array Value), k ≤ a.length + 1 ∧ x = .int .i64 ((k : Int) - 1) ∧ CellsAt wr g 22 cs ∧ cs.size = a.length + 1 ∧ TabFrom wr g wr.heap.size a b k ∧ Below w.heap.size w wr) (fun x _ => (intOf x + 1).toNat)
  case atStart => exact ⟨a.length + 1, _, Nat.le_refl _, by go_num, hc1, by simp, fun x h1 h2 => by omega, hb1⟩
  case round =>
    obtain ⟨k, cs, hk, rfl, hcT, hcs, hT, hbe⟩ := hrel
    by_cases h0 : k = 0
    · subst h0
      go_wp2_with fail
      go_ret
      exact ⟨ret1 (by rw [← HG.out]; rfl), ⟨_, by rw [← HG.out]; exact hT⟩, hbe⟩
    · obtain ⟨j, rfl⟩ : ∃ j, k = j + 1 := ⟨k - 1, by omega⟩
      have q1 : ((j + 1 : Nat) : Int) - 1 = (j : Int) := by omega
      have hji : (j : Int) ≤ a.length := by omega
      have HCS := Lib.hid hcs
      have hgl := hcT.lt
      rw [q1]
      clear h0 hcs
      go_wp2_with (at_make; go_must (refine wpList_makeL Try.underlying22 infoZ rfl (by decide) rfl _ _ rfl _ _ _ _ (b.length + 1) (b.length + 1) rfl rfl (by push_cast; rfl) (by push_cast; rfl) (Nat.le_refl _) (by omega) ?_))
      intro w2 hcr hw2
      have hb2 : Below wr.heap.size wr w2 := by rw [hw2]; exact (Below.refl _ _).alloc (Nat.le_refl _) _
      clear hw2
      have hcT2 := hcT.stays hb2
      have hT2 := hT.below (Nat.le_refl _) hb2
      have hbe2 := hbe.trans (hb2.mono hbe.size)
      obtain ⟨u, hu⟩ : ∃ u, cs[j]? = some u := ⟨_, Array.getElem?_eq_getElem (by rw [HCS.out]; omega)⟩
      have hcj := hcT2.cell j hu
      have hfj := hcT2.free j
      have hgw := hbe.size
      obtain ⟨g2, hg2⟩ : ∃ g2, g2 = wr.heap.size := ⟨_, rfl⟩
      rw [← hg2] at hcr hT2 hgl ⊢
      have hgg : g ≠ g2 := by omega
      have hwg2 : w.heap.size ≤ g2 := by omega
      clear hT hcT hb2 hbe hu hg2 hgw
      go_wp2_with fail
      obtain ⟨V, hV⟩ : ∃ V, V = w2.setCell ⟨g, j, none⟩ (.slice (some ⟨g2, 0, none⟩) (b.length + 1) (b.length + 1)) := ⟨_, rfl⟩
      have v1 : CellsAt V g 22 (cs.setIfInBounds j (.slice (some ⟨g2, 0, none⟩) (b.length + 1) (b.length + 1))) := by rw [hV]; exact hcT2.set j _
      have v2 : CellsAt V g2 3 (Array.replicate (b.length + 1) (.int .i64 0)) := by rw [hV]; exact hcr.other _ (fun e => hgg e.symm) _
      have v3 : TabFrom V g g2 a b (j + 1) := by rw [hV]; exact hT2.head _
      have v4 : Below w.heap.size w V := by rw [hV]; exact hbe2.setCell hwg _
      have v5 := v1.cell j (v := .slice (some ⟨g2, 0, none⟩) (b.length + 1) (b.length + 1)) (by rw [Array.getElem?_setIfInBounds_self_of_lt (by rw [HCS.out]; omega)])
      rw [← hV]
      clear hV hcT2 hcr hT2 hbe2 hcj hfj
      have HT := Lib.hid v3
      have HB := Lib.hid v4
      clear v3 v4
      go_loopw [7] (fun x wr => ∃ (i : Nat) (cs2 : Array Value), i ≤ b.length + 1 ∧ x = .int .i64 ((i : Int) - 1) ∧ CellsAt wr g2 3 cs2 ∧ cs2.size = b.length + 1 ∧ (∀ y, i ≤ y → y ≤ b.length → cs2[y]? = some (.int .i64 (tab a b j y))) ∧ V.grownBy wr (some g2)) (fun x _ => (intOf x + 1).toNat)
      case atStart => exact ⟨b.length + 1, _, Nat.le_refl _, by go_num, v2, by simp, fun x h1 h2 => by omega, grownBy_refl _ _⟩
      case round =>
        obtain ⟨i, cs2, hi, rfl, hcR, hcs2, hR, hgr⟩ := hrel
        by_cases h0 : i = 0
        · subst h0
          go_wp2_with fail
          go_roundw
          case rel => exact ⟨j, _, by omega, by go_num, v1.grown hgr (fun e => hgg (Option.some.inj e).symm), by rw [Array.size_setIfInBounds]; exact HCS.out, HT.out.cons hgr hgg v5 hcR.lt (fun y hy => hcR.cell y (hR y (Nat.zero_le _) hy)), HB.out.grown hgr HB.out.size (fun k hk => by cases hk; exact hwg2)⟩
          case measure => simp only [intOf]; omega
        · obtain ⟨y, rfl⟩ : ∃ y, i = y + 1 := ⟨i - 1, by omega⟩
          have q2 : ((y + 1 : Nat) : Int) - 1 = (y : Int) := by omega
          have hyi : (y : Int) ≤ b.length := by omega
          have hwg3 := hgr.size
          rw [q2]
          have HR := Lib.hid hR
          have HS2 := Lib.hid hcs2
          have t5 := cell_grown hgr hgg v5
          have hbw := HB.out.grown hgr HB.out.size (fun k hk => by cases hk; exact hwg2)
          obtain ⟨u2, hu2⟩ : ∃ u, cs2[y]? = some u := ⟨_, Array.getElem?_eq_getElem (by omega)⟩
          have d1 := hcR.cell y hu2
          have d2 := hcR.free y
          clear h0 hR hcs2 hu2 hwg3
          by_cases hxa : j = a.length
          · subst hxa
            have HV := Lib.hid (tab_end (a := a) (b := b) (x := a.length) (y := y) (Nat.le_refl _))
            go_wp2_with fail
            go_roundw
            case rel => exact ⟨y, _, by omega, by go_num, hcR.set y _, by rw [Array.size_setIfInBounds]; exact HS2.out, row_step HR.out HS2.out (by omega) (by rw [HV.out]; exact vint (by omega)), grownBy_setCell hgr _ (.inl rfl) _⟩
            case measure => simp only [intOf]; omega
          · have hja : j < a.length := by omega
            have e1 : ((j : Int) == a.length) = false := by simp; omega
            by_cases hyb : y = b.length
            · subst hyb
              have HV := Lib.hid (tab_end' (a := a) (b := b) (x := j) (y := b.length) (Nat.le_refl _))
              clear hxa
              go_wp2_with fail
              go_roundw
              case rel => exact ⟨b.length, _, by omega, by go_num, hcR.set b.length _, by rw [Array.size_setIfInBounds]; exact HS2.out, row_step HR.out HS2.out (by omega) (by rw [HV.out]; exact vint (by omega)), grownBy_setCell hgr _ (.inl rfl) _⟩
              case measure => simp only [intOf]; omega
            · have hyb' : y < b.length := by omega
              have e2 : ((y : Int) == b.length) = false := by simp; omega
              obtain ⟨gb, ob, rfl, hcb⟩ := HIB.out y _ (List.getElem?_eq_getElem hyb')
              obtain ⟨ga, oa, rfl, hca⟩ := HIA.out j _ (List.getElem?_eq_getElem hja)
              have d3 : wr.cell? ⟨ga, oa + j, none⟩ = some (.int .i64 a[j]) := cell_below hbw hca
              have d4 : wr.cell? ⟨gb, ob + y, none⟩ = some (.int .i64 b[y]) := cell_below hbw hcb
              obtain ⟨g3, h31, h32, h33, h34⟩ := (HT.out.grown hgr hgg (Nat.le_refl _)) (j + 1) (by omega) (by omega)
              have d5 := h34 (y + 1) (by omega)
              have d6 := h34 y (by omega)
              have d7 := hcR.cell (y + 1) (HR.out (y + 1) (by omega) (by omega))
              have HH := Lib.hid h34
              clear hcb hca h34 h31 h32 hxa hyb
              by_cases hs : a[j] = b[y]
              · have HV := Lib.hid (tab_same hja hyb' hs)
                have e3 : (a[j] == b[y]) = true := by simp [hs]
                go_wp2_with fail
                go_region
                all_goals go_wp2_with fail
                all_goals go_region
                all_goals go_wp2_with fail
                all_goals go_roundw
                case rel => exact ⟨y, _, by omega, by go_num, CellsAt.set (w := wr.drew.drew) hcR y _, by rw [Array.size_setIfInBounds]; exact HS2.out, row_step HR.out HS2.out (by omega) (by rw [HV.out]), grownBy_setCell (grownBy_drew (grownBy_drew hgr)) _ (.inl rfl) _⟩
                case measure => simp only [intOf]; omega
              · have HV := Lib.hid (tab_other hja hyb' hs)
                have e3 : (a[j] == b[y]) = false := by simp [hs]
                have hta := tab_le a b (j + 1) y
                have htb := tab_le a b j (y + 1)
                clear d5
                by_cases hlt : tab a b (j + 1) y < tab a b j (y + 1)
                · have e4 : (decide ((tab a b (j + 1) y : Int) < tab a b j (y + 1))) = true := by simp; omega
                  go_wp2_with fail
                  go_region
                  all_goals go_wp2_with fail
                  all_goals go_region
                  all_goals go_wp2_with fail
                  all_goals go_region
                  all_goals go_wp2_with fail
                  all_goals go_roundw
                  case rel => exact ⟨y, _, by omega, by go_num, CellsAt.set (w := wr.drew.drew.drew) hcR y _, by rw [Array.size_setIfInBounds]; exact HS2.out, row_step HR.out HS2.out (by omega) (by rw [HV.out]; exact vint (by rw [Nat.min_eq_left (by omega)]; first | done | omega)), grownBy_setCell (grownBy_drew (grownBy_drew (grownBy_drew hgr))) _ (.inl rfl) _⟩
                  case measure => simp only [intOf]; omega
                · have e4 : (decide ((tab a b (j + 1) y : Int) < tab a b j (y + 1))) = false := by simp; omega
                  go_wp2_with fail
                  go_region
                  all_goals go_wp2_with fail
                  all_goals go_region
                  all_goals go_wp2_with fail
                  all_goals go_region
                  all_goals go_wp2_with fail
                  all_goals go_roundw
                  case rel => exact ⟨y, _, by omega, by go_num, CellsAt.set (w := wr.drew.drew.drew) hcR y _, by rw [Array.size_setIfInBounds]; exact HS2.out, row_step HR.out HS2.out (by omega) (by rw [HV.out]; exact vint (by rw [Nat.min_eq_right (by omega)]; first | done | omega)), grownBy_setCell (grownBy_drew (grownBy_drew (grownBy_drew hgr))) _ (.inl rfl) _⟩
                  case measure => simp only [intOf]; omega
end Go.Proofs.Ytidfjemblidjkaa
