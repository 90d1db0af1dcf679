/- Digests: texts in hexadecimal, strings.Join, a builder in later worlds; digest's bytes. -/
import Derived.Test.YtcjflglpkpkflaaDoorDgA
import Derived.Test.YtcjflglpkpkflaaDoorFmt
import Derived.Test.YtcjflglpkpkflaaDoorBd
import Derived.BigQuiet
import Derived.Deep.QuietTactic
import Derived.Deep.DeepCutAuto
import Derived.Test.YtcjflglpkpkflaaDoorShelfJ
namespace Go.Proofs.YtcjflglpkpkflaaDoor
open Go Go.RowKit
set_option linter.unusedVariables false
theorem conv_bytesP (bs : List UInt8) (w : World) (hl : bs.length ≤ 1000000000) : ∃ (c : Nat) (w' : World), (convert 9 71 (.string (strB bs))).run Tryd.prog w = .ok (.slice (some ⟨w.heap.size, 0, none⟩) bs.length c) w' ∧ RowB w' (.slice (some ⟨w.heap.size, 0, none⟩) bs.length c) bs ∧ Below w.heap.size w w' := by
  have hsz := strB_size bs
  have hrun := run_bytes_of_string (P := Tryd.prog) w 9 71 5 (strB bs) Tryd.underlying9 Tryd.underlying71 Tryd.underlying5
  have hge := grownCap_ge w (strB bs).size 0 5
  have hle := grownCap_le_maxLen w (strB bs).size 0 5 (by rw [hsz]; unfold maxLen; omega)
  generalize grownCap w (strB bs).size 0 5 = C at *
  rw [hsz] at hrun
  refine ⟨C, _, hrun, ?_, ((Below.refl _ _).drew).alloc (Nat.le_refl _) _⟩
  rw [hsz] at hge
  have hh := heap_alloc_new w.drew (.cells (bytesRow (strB bs) C) 5 ((bytesRow (strB bs) C).size, (bytesRow (strB bs) C).size + 1))
  refine .inr ⟨w.heap.size, 0, C, rfl, hge, hle, lt_of_block hh, fun j u hu => ?_⟩
  rw [Nat.zero_add]
  refine (cell_of_row _ _ _ _ _ _ hh).trans ?_
  rw [List.getElem?_map] at hu
  obtain ⟨x, hx, rfl⟩ := Option.map_eq_some_iff.1 hu
  obtain ⟨hj, rfl⟩ := List.getElem?_eq_some_iff.1 hx
  rw [bytesRow_at (strB bs) C j (by simpa [strB] using hj)]
  simp [strB, BV]
theorem conv_bytesD (bs : List UInt8) (w : World) (hl : bs.length ≤ 1000000000) : ∃ (c : Nat) (w' : World), (convert 9 71 (.string (strB bs))).run Tryd.prog w = .ok (.slice (some ⟨w.heap.size, 0, none⟩) bs.length c) w' ∧ RowB w' (.slice (some ⟨w.heap.size, 0, none⟩) bs.length c) bs ∧ Below w.heap.size w w' ∧ w.heap.size < w'.heap.size := by
  have hsz := strB_size bs
  have hrun := run_bytes_of_string (P := Tryd.prog) w 9 71 5 (strB bs) Tryd.underlying9 Tryd.underlying71 Tryd.underlying5
  have hge := grownCap_ge w (strB bs).size 0 5
  have hle := grownCap_le_maxLen w (strB bs).size 0 5 (by rw [hsz]; unfold maxLen; omega)
  generalize grownCap w (strB bs).size 0 5 = C at *
  rw [hsz] at hrun
  refine ⟨C, _, hrun, ?_, ((Below.refl _ _).drew).alloc (Nat.le_refl _) _, by simp⟩
  rw [hsz] at hge
  have hh := heap_alloc_new w.drew (.cells (bytesRow (strB bs) C) 5 ((bytesRow (strB bs) C).size, (bytesRow (strB bs) C).size + 1))
  refine .inr ⟨w.heap.size, 0, C, rfl, hge, hle, lt_of_block hh, fun j u hu => ?_⟩
  rw [Nat.zero_add]
  refine (cell_of_row _ _ _ _ _ _ hh).trans ?_
  rw [List.getElem?_map] at hu
  obtain ⟨x, hx, rfl⟩ := Option.map_eq_some_iff.1 hu
  obtain ⟨hj, rfl⟩ := List.getElem?_eq_some_iff.1 hx
  rw [bytesRow_at (strB bs) C j (by simpa [strB] using hj)]
  simp [strB, BV]
theorem below_drewG {b : Nat} {w w1 : World} {n : Nat} (h : Below b w w1) : Below b w (w1.drewN n) := ⟨h.os, h.tape, h.output, h.size, h.block⟩
theorem rowCellP {α : Type} {f : α → Value} {w : World} {a : Option Addr} {n c : Nat} {xs : List α} (h : RowL f w (.slice a n c) xs) {i : Nat} {x : α} (hx : xs[i]? = some x) : ∃ b o, a = some ⟨b, o, none⟩ ∧ w.cell? ⟨b, o + i, none⟩ = some (f x) := by
  obtain ⟨aq, cq, hv, -, hc⟩ := h.shape
  cases hv
  exact hc i x hx
theorem hexB_snocP (l : Bs) (b : UInt8) : hexB (l ++ [b]) = hexB l ++ [hexd (b.toNat / 16), hexd (b.toNat % 16)] := by
  induction l with
  | nil => rfl
  | cons x l ih => rw [List.cons_append, hexB, ih, hexB]; rfl
theorem hex_atP (d : Nat) (h : d < 16) (hq : d < ByteArray.size ⟨#[48, 49, 50, 51, 52, 53, 54, 55, 56, 57, 97, 98, 99, 100, 101, 102]⟩) : (⟨#[48, 49, 50, 51, 52, 53, 54, 55, 56, 57, 97, 98, 99, 100, 101, 102]⟩ : ByteArray)[d]'hq = hexd d := by
  match d, h with
  | 0, _ => rfl
  | 1, _ => rfl
  | 2, _ => rfl
  | 3, _ => rfl
  | 4, _ => rfl
  | 5, _ => rfl
  | 6, _ => rfl
  | 7, _ => rfl
  | 8, _ => rfl
  | 9, _ => rfl
  | 10, _ => rfl
  | 11, _ => rfl
  | 12, _ => rfl
  | 13, _ => rfl
  | 14, _ => rfl
  | 15, _ => rfl
  | n + 16, h => omega
theorem enc_hexAll : ((List.range 16).all fun d => (Utf8.encode (((hexd d).toNat : Nat) : Int)).data.toList == [hexd d]) = true := by decide +kernel
theorem enc_hex {d : Nat} (h : d < 16) : Utf8.encode (((hexd d).toNat : Nat) : Int) = strB [hexd d] := by
  have h1 := eq_of_beq (List.all_eq_true.1 enc_hexAll d (List.mem_range.2 h))
  apply ByteArray.ext
  apply Array.ext'
  rw [h1]
  rfl
theorem hex_atU (S : ByteArray) {u d : Nat} (e : u = d) (h : u < S.size) (hq : d < S.size) : S[u]'h = S[d]'hq := by subst e; rfl
theorem hex_atZ {d : Nat} (hd : d < 16) {z : Int} (hz : z = (d : Int)) (h : z.toNat < ByteArray.size ⟨#[48, 49, 50, 51, 52, 53, 54, 55, 56, 57, 97, 98, 99, 100, 101, 102]⟩) : (⟨#[48, 49, 50, 51, 52, 53, 54, 55, 56, 57, 97, 98, 99, 100, 101, 102]⟩ : ByteArray)[z.toNat]'h = hexd d := by
  have e : z.toNat = d := by omega
  have hq := h
  rw [e] at hq
  exact (hex_atU _ e h hq).trans (hex_atP d hd hq)
set_option maxRecDepth 100000 in
theorem idx_hexP {d : Nat} (hd : d < 16) {z : Int} (hz : z = (d : Int)) (W : World) : (Instr.index 9 (.string ⟨#[48, 49, 50, 51, 52, 53, 54, 55, 56, 57, 97, 98, 99, 100, 101, 102]⟩) (.int .u8 z)).run Tryd.prog W = .ok (.int .u8 (((hexd d).toNat : Nat) : Int)) W := by
  rw [run_index_string (P := Tryd.prog) W 9 _ .u8 z Tryd.underlying9]
  have h1 : ByteArray.size ⟨#[48, 49, 50, 51, 52, 53, 54, 55, 56, 57, 97, 98, 99, 100, 101, 102]⟩ = 16 := rfl
  have hz1 : 0 ≤ z ∧ z < (ByteArray.size ⟨#[48, 49, 50, 51, 52, 53, 54, 55, 56, 57, 97, 98, 99, 100, 101, 102]⟩ : Nat) := by rw [h1]; omega
  rw [dif_pos hz1, hex_atZ hd hz]
theorem and15All : ((List.range 256).all fun x => bits .and .u8 ((x : Nat) : Int) 15 == ((x % 16 : Nat) : Int)) = true := by decide +kernel
theorem and15 {x : Nat} (h : x < 256) : bits .and .u8 ((x : Nat) : Int) 15 = ((x % 16 : Nat) : Int) := by
  have := List.all_eq_true.1 and15All x (List.mem_range.2 h)
  simpa only [beq_iff_eq] using this
/-- a text as an element of a row -/
def SD (s : Bs) : Value := .string (strB s)
theorem SD_one (x : Bs) : (SD x).oneCell' = true := rfl
theorem infoSD : (Tryd.prog.info? 9).map (fun i => (i.zero, i.size, i.bytes)) = some (some (.string ⟨#[]⟩), 1, 16) := by kernel_rfl
theorem bd_stays {B : Nat} {w w' : World} {b : Nat} {bs : List UInt8} (h : Bd B w b bs) (hb : Below w.heap.size w w') : Bd B w' b bs := by
  rcases h with ⟨h1, v, h2, h3, h4⟩ | ⟨h1, v, h2, h3, h4⟩
  · exact .inl ⟨h1, v, CellsAt.stays h2 hb, own_stays h3 hb, h4⟩
  · exact .inr ⟨h1, v, CellsAt.stays h2 hb, own_stays h3 hb, h4⟩
theorem join_joiD (c : UInt8) : ∀ xs : List Bs, Lib.join xs [c] = joi c xs
  | [] => rfl
  | [x] => by rw [Lib.join_one]; rfl
  | x :: y :: r => by
    have ih := join_joiD c (y :: r)
    rw [Lib.join_cons] at ih ⊢
    rw [joi_cons c x (by simp), ← ih]
    simp [Lib.joinTail]
theorem map_strD (xs : List Bs) : (xs.map strB).map (fun x : ByteArray => x.data.toList) = xs := by
  rw [List.map_map]
  conv => rhs; rw [← List.map_id xs]
  exact List.map_congr_left fun x _ => by simp [strB]
theorem joinD_any {w : World} {a : Option Addr} {cp : Nat} {xs : List Bs} (c : UInt8) (hr : RowL SD w (.slice a xs.length cp) xs) (hl : xs.length ≤ 1000000) (hs : (joi c xs).length ≤ 1000000000) :
    Calls Tryd.prog 28 #[.slice a xs.length cp, .string ⟨#[c]⟩] w fun e w' => e = .returned (.string (strB (joi c xs))) ∧ Below w.heap.size w w' := by
  by_cases h0 : xs = []
  · subst h0
    exact (Any.strings_Join_none Tryd.lays156 Tryd.Builder_Extra_156 a cp ⟨#[c]⟩ w).mono fun e w' ⟨h1, h2⟩ => ⟨h1, by rw [h2]; exact Below.refl _ _⟩
  · obtain ⟨x, t, rfl⟩ := List.exists_cons_of_ne_nil h0
    obtain ⟨b, o, rfl, -⟩ := rowCellP hr (i := 0) rfl
    have hcap := hr.cap
    have hlt : b < w.heap.size := by
      obtain ⟨b', o', h1, h2⟩ := rowCellP hr (i := 0) rfl
      cases h1
      exact World.block_lt_of_cell? w _ h2
    have hm := map_strD (x :: t)
    have hj := Any.strings_Join Tryd.lays156 Tryd.Builder_Extra_156 b o cp ((x :: t).map strB) ⟨#[c]⟩ w (fun j y hy => by
      rw [List.getElem?_map] at hy
      obtain ⟨z, hz, rfl⟩ := Option.map_eq_some_iff.1 hy
      obtain ⟨b', o', h1, h2⟩ := rowCellP hr hz
      cases h1
      exact h2) hlt (by rw [List.length_map]; omega) (by rw [List.length_map]; exact hcap) (by
      rw [hm, show (⟨#[c]⟩ : ByteArray).data.toList = [c] from rfl, join_joiD]; omega)
    rw [hm, show (⟨#[c]⟩ : ByteArray).data.toList = [c] from rfl, join_joiD, List.length_map] at hj
    exact hj
/-- a builder whose bytes do not lie in block q -/
def BdQ (q B : Nat) (w : World) (b : Nat) (bs : List UInt8) : Prop := ∃ p v, (p = none ∨ p = some ⟨b, 0, none⟩) ∧ B ≤ b ∧ CellsAt w b 73 #[.pointer p, v] ∧ OwnB B w v bs ∧ v.ownBlock ≠ some b ∧ v.ownBlock ≠ some q ∧ b ≠ q ∧ q < w.heap.size
theorem BdQ.bd {q B : Nat} {w : World} {b : Nat} {bs : List UInt8} (h : BdQ q B w b bs) : Bd B w b bs := by
  obtain ⟨p, v, hp, hB, hc, ho, hn, -, -, -⟩ := h
  rcases hp with rfl | rfl
  · exact .inl ⟨hB, v, hc, by simpa [OwnB] using ho, hn⟩
  · exact bd_used hB hc ho hn
theorem BdQ.of {B : Nat} {w w' : World} {b : Nat} {bs : List UInt8} (h : Bd B w b bs) (hb : Below w.heap.size w w') (hs : w.heap.size < w'.heap.size) : BdQ w.heap.size B w' b bs := by
  obtain ⟨p, v, hp, hB, hc, ho, hn⟩ := bd_open h
  refine ⟨p, v, hp, hB, hc.stays hb, own_stays ho hb, hn, fun e => ?_, fun e => ?_, hs⟩
  · have := (ho.lt _ e).2; omega
  · have := hc.lt; omega
theorem rowB_block {w w' : World} {q n c : Nat} {bs : List UInt8} (h : RowB w (.slice (some ⟨q, 0, none⟩) n c) bs) (hq : w'.heap[q]? = w.heap[q]?) (hs : q < w'.heap.size) : RowB w' (.slice (some ⟨q, 0, none⟩) n c) bs := by
  rcases h with h1 | ⟨b, o, c', hv, h1, h2, h3, h4⟩
  · exact .inl h1
  · cases hv
    exact .inr ⟨q, 0, _, rfl, h1, h2, hs, fun j u hu => (World.cell?_of_block (a := ⟨q, 0 + j, none⟩) hq).trans (h4 j u hu)⟩
set_option maxRecDepth 100000 in
set_option maxHeartbeats 1000000 in
theorem bd_byteQ (q B b : Nat) (bs : List UInt8) (c : UInt8) (w : World) (h : BdQ q B w b bs) (hl : bs.length ≤ 1000000) (hB : B ≤ w.heap.size) :
    Calls Tryd.prog 26 #[.pointer (some ⟨b, 0, none⟩), BV c] w fun e w' => e = .returned .nilIface ∧ BdQ q B w' b (bs ++ [c]) ∧ Below B w w' ∧ w'.heap[q]? = w.heap[q]? := by
  obtain ⟨p, v, hp, hBb, hc, ho, hne, hnq, hbq, hql⟩ := h
  have HCC := Lib.hid (bd_copy B b p v w hp hc)
  have hbl := hc.lt
  obtain ⟨a, cp, rfl, -, -⟩ := ho.row.gen.shape
  obtain ⟨n, hn⟩ : ∃ n : Int, n = ((c.toNat : Nat) : Int) := ⟨_, rfl⟩
  have hC : BV c = .int .u8 n := by rw [BV_def, hn]
  rw [hC]
  have HC := Lib.hid hC
  clear hc hp hC hn
  go_enter Tryd.func26, Tryd.ntmps26
  go_wp2_with fail
  refine HCC.out.mono ?_
  rintro e w1 ⟨rfl, hc1, hg1⟩
  have ho1 := ownB_grown ho hg1 (fun k hk e => hne (by rw [hk]; exact e.symm))
  have c1 := hc1.cell 1 (v := .slice a bs.length cp) rfl
  have hb1 : Below B w w1 := (Below.refl B w).grown hg1 hB (fun k hk => by cases hk; exact hBb)
  have hs1 : B ≤ w1.heap.size := Nat.le_trans hB hg1.size
  have hbl1 : b < w1.heap.size := hc1.lt
  have hq1 : w1.heap[q]? = w.heap[q]? := hg1.block q hql (fun e => hbq (Option.some.inj e).symm)
  have hql1 : q < w1.heap.size := Nat.lt_of_lt_of_le hql hg1.size
  have HC1 := Lib.hid hc1
  have HB1 := Lib.hid hb1
  clear HCC ho hg1 hc1 hb1
  go_wp2_with (at_builtin; go_must (refine wpList_pushB ho1 c (by omega) hs1 rfl _ _ rfl (by rfl) _ _ _ (by rfl) (by rw [HC.out]) ?_))
  intro v2 w2 ho2 hg2 hn2
  obtain ⟨Y, hY⟩ : ∃ Y, Y = bs ++ [c] := ⟨_, rfl⟩
  rw [← hY] at ho2
  have HY := Lib.hid hY
  clear hY
  have hne2 : v2.ownBlock ≠ some b := fun e => by
    rcases hn2 b e with h | h
    · exact hne h
    · omega
  have hnq2 : v2.ownBlock ≠ some q := fun e => by
    rcases hn2 q e with h | h
    · exact hnq h
    · omega
  have HQ2 : Hid (w2.heap[q]? = w.heap[q]?) := (hg2.block q hql1 (fun e => hnq e.symm)).trans hq1
  have HQL : Hid (q < w2.heap.size) := Nat.lt_of_lt_of_le hql1 hg2.size
  have HNQ := Lib.hid hnq2
  have hc2 := HC1.out.grown hg2 (fun e => hne e)
  have hb2 : Below B w w2 := OwnB.below ho1 HB1.out hg2 hs1
  have c1 := hc2.cell 1 (v := .slice a bs.length cp) rfl
  have f1 := hc2.free 1
  obtain ⟨a2, c2, rfl, -, -⟩ := ho2.row.gen.shape
  have HC2 := Lib.hid hc2
  have HO2 := Lib.hid ho2
  have HB2 := Lib.hid hb2
  have HN2 := Lib.hid hne2
  clear ho1 hg2 hn2 hne2 hc2 ho2 hb2 hnq2 hq1 hql1
  go_wp2_with fail
  go_ret
  have hg3 : w2.grownBy (w2.setCell ⟨b, 1, none⟩ (.slice a2 Y.length c2)) (some b) := grownBy_setCell (grownBy_refl _ _) ⟨b, 1, none⟩ (.inl rfl) _
  have hq3 : (w2.setCell ⟨b, 1, none⟩ (.slice a2 Y.length c2)).heap[q]? = w2.heap[q]? := hg3.block q HQL.out (fun e => hbq (Option.some.inj e).symm)
  refine ⟨rfl, ?_, HB2.out.setCell hBb _, hq3.trans HQ2.out⟩
  rw [← HY.out]
  exact ⟨some ⟨b, 0, none⟩, _, .inr rfl, hBb, HC2.out.set 1 _, ownB_grown HO2.out hg3 (fun k hk e => HN2.out (by rw [hk]; exact e.symm)), HN2.out, HNQ.out, hbq, by rw [World.size_setCell]; exact HQL.out⟩
set_option maxRecDepth 100000 in
set_option maxHeartbeats 2000000 in
theorem dbytes_any (t : Bs) (hl : t.length ≤ 400000) (w : World) : Calls Tryd.prog 13 #[.string (strB t)] w fun e w' => e = .returned (.string (strB (qtB t))) ∧ Below w.heap.size w w' := by
  obtain ⟨W0, hW0⟩ : ∃ W0, W0 = w.alloc (.cells #[.pointer none, .slice none 0 0] 73) := ⟨_, rfl⟩
  obtain ⟨g, hg⟩ : ∃ g, g = w.heap.size := ⟨_, rfl⟩
  have hbd : Bd w.heap.size W0 g [] := by rw [hW0, hg]; exact bd_new w
  have hb0 : Below w.heap.size w W0 := by rw [hW0]; exact (Below.refl _ _).alloc (Nat.le_refl _) _
  have HQ : Hid (∀ W bs, Bd w.heap.size W g bs → bs.length ≤ 1000000 → w.heap.size ≤ W.heap.size → Calls Tryd.prog 26 #[.pointer (some ⟨g, 0, none⟩), .int .u8 39] W fun e w' => e = .returned .nilIface ∧ Bd w.heap.size w' g (bs ++ [39]) ∧ Below w.heap.size W w') := fun W bs h1 h2 h3 => bd_byte w.heap.size g bs 39 W h1 h2 h3
  have HBD := Lib.hid hbd
  have HCV : Hid (∀ W : World, ∃ (c : Nat) (w' : World), (convert 9 71 (.string (strB t))).run Tryd.prog W = .ok (.slice (some ⟨W.heap.size, 0, none⟩) t.length c) w' ∧ RowB w' (.slice (some ⟨W.heap.size, 0, none⟩) t.length c) t ∧ Below W.heap.size W w' ∧ W.heap.size < w'.heap.size) := fun W => conv_bytesD t W (by omega)
  have HW := Lib.hid hW0
  have HG := Lib.hid hg
  clear hW0 hg hbd
  go_enter Tryd.func13, Tryd.ntmps13
  go_upto_region 2 with fail
  rw [← HW.out, ← HG.out]
  clear HW HG
  go_wp2_with fail
  refine (HQ.out W0 [] HBD.out (by simp) hb0.size).mono ?_
  rintro e w1 ⟨rfl, hd1, hb1⟩
  have hbe1 : Below w.heap.size w w1 := hb0.trans hb1
  obtain ⟨cv, w2, hcv, hrow, hb2, hs2⟩ := HCV.out w1
  have hq2 := BdQ.of hd1 hb2 hs2
  have hbe2 := hbe1.trans (hb2.mono hbe1.size)
  obtain ⟨bb, hbb⟩ : ∃ bb, bb = w1.heap.size := ⟨_, rfl⟩
  rw [← hbb] at hcv hrow hq2
  have HI0 : Hid (BdQ bb w.heap.size w2 g (39 :: hexB (t.take 0)) ∧ RowB w2 (.slice (some ⟨bb, 0, none⟩) t.length cv) t ∧ Below w.heap.size w w2) := ⟨hq2, hrow, hbe2⟩
  have HBY : Hid (∀ W bs (b : UInt8), BdQ bb w.heap.size W g bs → bs.length ≤ 1000000 → w.heap.size ≤ W.heap.size → Calls Tryd.prog 26 #[.pointer (some ⟨g, 0, none⟩), .int .u8 ((b.toNat : Nat) : Int)] W fun e w' => e = .returned .nilIface ∧ BdQ bb w.heap.size w' g (bs ++ [b]) ∧ Below w.heap.size W w' ∧ w'.heap[bb]? = W.heap[bb]?) := fun W bs b h1 h2 h3 => by
    rw [← BV_def]; exact bd_byteQ bb w.heap.size g bs b W h1 h2 h3
  clear HBD hd1 hb1 hb2 hrow hbb hb0 hbe1 HCV hbe2 hq2 hs2
  go_wp2_with fail
  clear hcv
  go_loopw [10] (fun i wr => ∃ m : Nat, m ≤ t.length ∧ i = .int .i64 m ∧ Hid (BdQ bb w.heap.size wr g (39 :: hexB (t.take m)) ∧ RowB wr (.slice (some ⟨bb, 0, none⟩) t.length cv) t ∧ Below w.heap.size w wr)) (fun i _ => t.length - (intOf i).toNat)
  case atStart => exact ⟨0, Nat.zero_le _, rfl, HI0.out⟩
  case round =>
    clear HI0
    obtain ⟨m, hm, rfl, HI⟩ := hrel
    by_cases h1 : m < t.length
    · obtain ⟨x, hx⟩ : ∃ x, t[m]? = some x := ⟨_, List.getElem?_eq_getElem h1⟩
      obtain ⟨b, o, hbo, c0⟩ := rowCellP HI.out.2.1 hx
      cases hbo
      replace c0 : wr.cell? ⟨bb, 0 + m, none⟩ = some (.int .u8 ((x.toNat : Nat) : Int)) := by rw [← BV_def]; exact c0
      rw [Nat.zero_add] at c0
      have hx8 := x.toNat_lt
      have hd1 : x.toNat / 16 < 16 := by omega
      have hd2 : x.toNat % 16 < 16 := by omega
      have hlen : (hexB (t.take m)).length = 2 * m := by rw [hexB_len, List.length_take]; omega
      have HT : Hid (39 :: hexB (t.take (m + 1)) = ((39 :: hexB (t.take m)) ++ [hexd (x.toNat / 16)]) ++ [hexd (x.toNat % 16)]) := by
        show _ = _
        rw [List.take_add_one, hx, Option.toList_some, hexB_snocP, List.append_assoc]; rfl
      have hI1 : ∀ W, (Instr.index 9 (.string ⟨#[48, 49, 50, 51, 52, 53, 54, 55, 56, 57, 97, 98, 99, 100, 101, 102]⟩) (.int .u8 (((x.toNat : Nat) : Int) / 16))).run Tryd.prog W = .ok (.int .u8 (((hexd (x.toNat / 16)).toNat : Nat) : Int)) W := fun W => idx_hexP hd1 (by omega) W
      have HC1 := Lib.hid (HBY.out wr _ (hexd (x.toNat / 16)) HI.out.1 (by rw [List.length_cons, hlen]; omega) HI.out.2.2.size)
      have HC2 : Hid (∀ W, BdQ bb w.heap.size W g ((39 :: hexB (t.take m)) ++ [hexd (x.toNat / 16)]) → w.heap.size ≤ W.heap.size → Calls _ _ _ W _) := fun W h3 h4 => HBY.out W _ (hexd (x.toNat % 16)) h3 (by rw [List.length_append, List.length_cons, hlen]; simp; omega) h4
      have HRW : Hid (RowB wr (.slice (some ⟨bb, 0, none⟩) t.length cv) t) := HI.out.2.1
      have HBE : Hid (Below w.heap.size w wr) := HI.out.2.2
      have HD2 := Lib.hid hd2
      clear hx hlen hd1 hd2 HI
      go_wp2_with fail
      refine HC1.out.mono ?_
      rintro e w3 ⟨rfl, hq3, hb3, hk3⟩
      have HQ3 := Lib.hid hq3
      have HB3 : Hid (Below w.heap.size w w3) := HBE.out.trans hb3
      have HR3 : Hid (RowB w3 (.slice (some ⟨bb, 0, none⟩) t.length cv) t) := rowB_block HRW.out hk3 (by obtain ⟨_, _, _, _, _, _, _, _, _, h⟩ := hq3; exact h)
      clear HC1 hq3 hb3 hk3 HRW HBE c0 hI1
      go_wp2_with fail
      rw [hex_atP _ HD2.out]
      refine (HC2.out w3 HQ3.out HB3.out.size).mono ?_
      rintro e w4 ⟨rfl, hq4, hb4, hk4⟩
      have HI4 : Hid (BdQ bb w.heap.size w4 g (39 :: hexB (t.take (m + 1))) ∧ RowB w4 (.slice (some ⟨bb, 0, none⟩) t.length cv) t ∧ Below w.heap.size w w4) := by
        refine ⟨?_, rowB_block HR3.out hk4 (by obtain ⟨_, _, _, _, _, _, _, _, _, h⟩ := hq4; exact h), HB3.out.trans hb4⟩
        rw [HT.out]; exact hq4
      clear HC2 hq4 hb4 hk4 HQ3 HB3 HR3 HT HD2
      go_wp2_with fail
      go_roundw
      case rel => exact ⟨m + 1, h1, by go_num, HI4.out⟩
      case measure => simp only [intOf]; omega
    · have hlm : t.take m = t := List.take_of_length_le (by omega)
      rw [hlm] at HI
      have hlen := hexB_len t
      have HC1 := Lib.hid (HQ.out wr _ HI.out.1.bd (by rw [List.length_cons, hlen]; omega) HI.out.2.2.size)
      have HBE : Hid (Below w.heap.size w wr) := HI.out.2.2
      clear HI hlm hlen HBY HQ
      go_wp2_with fail
      refine HC1.out.mono ?_
      rintro e w3 ⟨rfl, hd3, hb3⟩
      have HB3 : Hid (Below w.heap.size w w3) := HBE.out.trans hb3
      have HS := Lib.hid (bd_string w.heap.size g _ w3 hd3 HB3.out.size)
      clear hd3 hb3 HC1 HBE
      go_wp2_with fail
      refine HS.out.mono ?_
      rintro e w4 ⟨rfl, hb4⟩
      have HB4 := Lib.hid (HB3.out.trans hb4)
      clear HS hb4 HB3
      go_wp2_with fail
      go_ret
      exact ⟨rfl, HB4.out⟩
end Go.Proofs.YtcjflglpkpkflaaDoor
