/- Values that came in, opened: the cells of an argument stand for a tree. -/
import Derived.Test.YtcjflglpkpkflaaDoorVb
import Derived.Test.YtcjflglpkpkflaaDoorOpenS
namespace Go.Proofs.YtcjflglpkpkflaaDoor
open Go Go.RowKit Go.ChangeShapes Go.WideShapes Go.Deep
set_option linter.unusedVariables false
section
variable {H : Type} {enc : TypeId × Value → H} {P : Program} {w : World} {base : Nat} {spare : Nat → Bool} {held : Bool}
/-- a slice of structs, whose elements are read at lesser fuel -/
theorem open_sliceN {α : Type} {cs : α → List Value} {size : Nat} {good : α → Prop} {t e : TypeId} {fuel : Nat} {cs0 : List Value} {y : DataW H × List MemPlace}
    (ht : P.underlying t = some (.slice e)) (hC : P.cellsOf e = size) (hs : 0 < size) (hcs : ∀ x, (cs x).length = size)
    (hdec : ∀ m, m < fuel → ∀ (cs' : List Value) (y : DataW H × List MemPlace), DataW.trod enc P w base spare held m e cs' = some y → ∃ x, cs' = cs x ∧ good x)
    (h : DataW.trod enc P w base spare held fuel t cs0 = some y) : ∃ (a0 : Option Addr) (c0 : Nat) (xs : List α), cs0 = [.slice a0 xs.length c0] ∧ RowS cs w (.slice a0 xs.length c0) xs ∧ ∀ x ∈ xs, good x := by
  rcases DataW.trod_slice ht h with ⟨rfl, _⟩ | ⟨a, l0, c0, elems, rest, n, hn, rfl, _, hb, hl, hm, hlen, hel, _, _⟩
  · exact ⟨none, 0, [], rfl, RowS.nil w, fun x hx => by cases hx⟩
  · obtain ⟨xs, hxl, hxs⟩ := exists_list (p := fun i x => (∀ j u, (cs x)[j]? = some u → w.cell? ((a.add (i * size)).add j) = some u) ∧ good x) l0 (fun i hil => by
      have h1 := hel i hil
      rw [List.getElem?_eq_getElem (by omega)] at h1
      obtain ⟨cs', hc, ht'⟩ := Option.bind_eq_some_iff.1 h1
      obtain ⟨x, rfl, hg⟩ := hdec n (by omega) cs' _ ht'
      refine ⟨x, fun j u hu => ?_, hg⟩
      rw [hC] at hc
      obtain ⟨_, hcl, hat⟩ := World.cells?_some hc
      have hj : j < size := by rw [← hcs x]; exact (List.getElem?_eq_some_iff.1 hu).1
      exact (hat j hj).trans hu)
    have hgood : ∀ x ∈ xs, good x := fun x hx => by
      obtain ⟨i, hi'⟩ := List.mem_iff_getElem?.1 hx
      exact (hxs i x hi').2
    refine ⟨some a, c0, xs, by rw [hxl], ?_, hgood⟩
    rcases Nat.eq_zero_or_pos l0 with h0 | hp
    · refine .inl ⟨by omega, ?_, some a, c0, by rw [hxl, h0]⟩
      rw [List.length_eq_zero_iff.1 (hxl.trans h0)]; rfl
    · obtain ⟨b, o, spot⟩ := a
      obtain ⟨x, hx0⟩ : ∃ x, xs[0]? = some x := ⟨_, List.getElem?_eq_getElem (by omega)⟩
      have hc0 := (hxs 0 x hx0).1 0 _ (List.getElem?_eq_getElem (by rw [hcs]; exact hs))
      have hspot : spot = none := by simpa [Addr.add] using World.cell?_spot hc0
      subst hspot
      have hlt : b < w.heap.size := by simpa [Addr.add] using World.block_lt_of_cell? w _ hc0
      refine .inr ⟨b, o, c0, by rw [hxl], by omega, hm, hlt, fun j u hu => ?_⟩
      have hjl : j < xs.length * size := by rw [← flat_len hcs xs]; exact (List.getElem?_eq_some_iff.1 hu).1
      have hjd : j / size < xs.length := Nat.div_lt_of_lt_mul (by rw [Nat.mul_comm]; exact hjl)
      obtain ⟨x, hx⟩ : ∃ x, xs[j / size]? = some x := ⟨_, List.getElem?_eq_getElem hjd⟩
      have hmod : j % size < size := Nat.mod_lt _ hs
      have hdj : j / size * size + j % size = j := by rw [Nat.mul_comm]; exact Nat.div_add_mod j size
      have hfl := flat_get hcs xs (j / size) (j % size) x hx hmod
      rw [hdj] at hfl
      have h2 := (hxs (j / size) x hx).1 (j % size) u (hfl.symm.trans hu)
      have e1 : ((⟨b, o, none⟩ : Addr).add (j / size * size)).add (j % size) = ⟨b, o + j, none⟩ := by
        have e2 : ∀ (o k : Nat), (⟨b, o, none⟩ : Addr).add k = ⟨b, o + k, none⟩ := fun o k => by unfold Addr.add; split <;> simp_all
        rw [e2, e2, Nat.add_assoc, hdj]
      rw [e1] at h2
      exact h2
/-- a struct of one-celled fields, whose fields are read at lesser fuel -/
theorem decN {e : TypeId} {fs : Array Field} {n : Nat} {cs' : List Value} {y : DataW H × List MemPlace} (he : P.underlying e = some (.struct fs)) (hone : oneCellFields P fs = true) (hC : P.cellsOf e = fs.size)
    (h : DataW.trod enc P w base spare held n e cs' = some y) : cs'.length = fs.size ∧ ∃ n', n' < n ∧ ∀ (j : Nat) (f : Field), fs[j]? = some f → ∃ v y, cs'[j]? = some v ∧ DataW.trod enc P w base spare held n' f.type [v] = some y := by
  obtain ⟨ys, n', hn', hy, hlen, hyl, hf⟩ := DataW.trod_struct he h
  refine ⟨hlen.trans hC, n', by omega, fun j f hj => ?_⟩
  obtain ⟨ho, hk⟩ := hone_of hone j f hj
  have hjl : j < fs.size := (Array.getElem?_eq_some_iff.1 hj).1
  have h1 := hf j f hj
  rw [ho, hk] at h1
  have hone' : (cs'.drop j).take 1 = [cs'[j]'(by omega)] := by
    rw [List.drop_eq_getElem_cons (by omega)]; rfl
  rw [hone', List.getElem?_eq_getElem (by omega)] at h1
  exact ⟨_, _, List.getElem?_eq_getElem (by omega), h1⟩
/-- a struct of two fields, whose fields are read at lesser fuel -/
theorem decTwo {e : TypeId} {f0 f1 : Field} {n : Nat} {cs' : List Value} {y : DataW H × List MemPlace} (he : P.underlying e = some (.struct #[f0, f1]))
    (h : DataW.trod enc P w base spare held n e cs' = some y) : cs'.length = P.cellsOf e ∧ ∃ n', n' < n ∧ (∃ y, DataW.trod enc P w base spare held n' f0.type ((cs'.drop f0.offset).take (P.cellsOf f0.type)) = some y) ∧ ∃ y, DataW.trod enc P w base spare held n' f1.type ((cs'.drop f1.offset).take (P.cellsOf f1.type)) = some y := by
  obtain ⟨ys, n', hn', hy, hlen, hyl, hf⟩ := DataW.trod_struct he h
  match ys, hyl with
  | [y0, y1], _ => exact ⟨hlen, n', by omega, ⟨y0, hf 0 f0 rfl⟩, ⟨y1, hf 1 f1 rfl⟩⟩
end
section
variable {H : Type} {enc : TypeId × Value → H} {w : World} {base : Nat} {spare : Nat → Bool} {held : Bool}
theorem cells_Int : Tryd.prog.cellsOf 3 = 1 := by kernel_rfl
theorem cells_Value : Tryd.prog.cellsOf 27 = 7 := by kernel_rfl
theorem cells7 {α : Type} : ∀ {cs : List α}, cs.length = 7 → ∃ a b c d e f g, cs = [a, b, c, d, e, f, g]
  | [a, b, c, d, e, f, g], _ => ⟨a, b, c, d, e, f, g, rfl⟩
theorem str_strB (s : ByteArray) : s = strB s.data.toList := by simp [strB]
theorem open_V : ∀ (fuel : Nat) (cs : List Value) (y : DataW H × List MemPlace), DataW.trod enc Tryd.prog w base spare held fuel 27 cs = some y → ∃ x : V × A3, cs = vC x ∧ Rep (fun _ => True) w x.1 x.2 := by
  intro fuel
  induction fuel using Nat.strongRecOn with
  | ind fuel ih =>
    intro cs y h
    obtain ⟨hl, n, hn, hf⟩ := decN Tryd.underlying27 (by kernel_rfl) (by kernel_rfl) h
    obtain ⟨c0, c1, c2, c3, c4, c5, c6, rfl⟩ := cells7 hl
    obtain ⟨v0, y0, e0, g0⟩ := hf 0 _ rfl
    obtain ⟨v1, y1, e1, g1⟩ := hf 1 _ rfl
    obtain ⟨v2, y2, e2, g2⟩ := hf 2 _ rfl
    obtain ⟨v3, y3, e3, g3⟩ := hf 3 _ rfl
    obtain ⟨v4, y4, e4, g4⟩ := hf 4 _ rfl
    obtain ⟨v5, y5, e5, g5⟩ := hf 5 _ rfl
    obtain ⟨v6, y6, e6, g6⟩ := hf 6 _ rfl
    cases e0; cases e1; cases e2; cases e3; cases e4; cases e5; cases e6
    obtain ⟨k, q0, -, w0⟩ := DataW.trod_int Tryd.underlying3 g0
    obtain ⟨m, q1, -, w1⟩ := DataW.trod_int Tryd.underlying22 g1
    obtain ⟨t, q2, -, -⟩ := DataW.trod_string Tryd.underlying9 g2
    obtain ⟨r, q4, -, -⟩ := DataW.trod_string Tryd.underlying9 g4
    cases q0; cases q1; cases q2; cases q4
    obtain ⟨fa, fc, fl, q3, rf, gf⟩ := open_sliceN (cs := fC) (good := fun p => i64 p.1 ∧ Rep (fun _ => True) w p.2.1 p.2.2) Tryd.underlying23 (by kernel_rfl) (by decide) fC_len (fun m hm cs' y h => by
      obtain ⟨hl, n', hn', ⟨z0, h0⟩, ⟨z1, h1⟩⟩ := decTwo Tryd.underlying51 h
      change DataW.trod enc Tryd.prog w base spare held n' 3 ((cs'.drop 0).take (Tryd.prog.cellsOf 3)) = _ at h0
      change DataW.trod enc Tryd.prog w base spare held n' 27 ((cs'.drop 1).take (Tryd.prog.cellsOf 27)) = _ at h1
      rw [cells_Int] at h0
      rw [cells_Value] at h1
      obtain ⟨x, hx, hr⟩ := ih n' (by omega) _ _ h1
      obtain ⟨num, q, -, wn⟩ := DataW.trod_int Tryd.underlying3 h0
      have hl8 : cs'.length = 8 := by rw [hl]; kernel_rfl
      refine ⟨(num, x), ?_, bounds_i64 wn, hr⟩
      have e1 : (cs'.drop 0).take 1 = [.int .i64 num] := q
      have e2 : (cs'.drop 1).take 7 = vC x := hx
      rw [List.drop_zero] at e1
      rw [List.take_of_length_le (by simp; omega)] at e2
      show cs' = .int .i64 num :: vC x
      rw [← List.take_append_drop 1 cs', e1, e2]; rfl) g3
    obtain ⟨la, lc, ll, q5, rl, gl⟩ := open_sliceN (cs := vC) (good := fun p => Rep (fun _ => True) w p.1 p.2) Tryd.underlying24 (by kernel_rfl) (by decide) vC_len (fun m hm cs' y h => ih m (by omega) _ _ h) g5
    obtain ⟨pa, pc, pl, q6, rp, gp⟩ := open_sliceN (cs := pC) (good := fun p => Rep (fun _ => True) w p.1.1 p.1.2 ∧ Rep (fun _ => True) w p.2.1 p.2.2) Tryd.underlying25 (by kernel_rfl) (by decide) pC_len (fun m hm cs' y h => by
      obtain ⟨hl, n', hn', ⟨z0, h0⟩, ⟨z1, h1⟩⟩ := decTwo Tryd.underlying56 h
      change DataW.trod enc Tryd.prog w base spare held n' 27 ((cs'.drop 0).take (Tryd.prog.cellsOf 27)) = _ at h0
      change DataW.trod enc Tryd.prog w base spare held n' 27 ((cs'.drop 7).take (Tryd.prog.cellsOf 27)) = _ at h1
      rw [cells_Value] at h0 h1
      obtain ⟨x, hx, hr⟩ := ih n' (by omega) _ _ h0
      obtain ⟨x', hx', hr'⟩ := ih n' (by omega) _ _ h1
      have hl8 : cs'.length = 14 := by rw [hl]; kernel_rfl
      refine ⟨(x, x'), ?_, hr, hr'⟩
      have e1 : (cs'.drop 0).take 7 = vC x := hx
      have e2 : (cs'.drop 7).take 7 = vC x' := hx'
      rw [List.drop_zero] at e1
      rw [List.take_of_length_le (by simp; omega)] at e2
      show cs' = vC x ++ vC x'
      rw [← List.take_append_drop 7 cs', e1, e2]) g6
    cases q3; cases q5; cases q6
    have bm := bounds_u64 w1
    refine ⟨(.mk k m.toNat t.data.toList (fl.map fE) r.data.toList (ll.map Prod.fst) (pl.map pE), ⟨fa, fc, la, lc, pa, pc⟩), ?_, ?_⟩
    · simp only [vC, V.k, V.n, V.t, V.fs, V.r, V.ls, V.ps, List.length_map, ← str_strB]
      rw [show ((m.toNat : Nat) : Int) = m by omega]
    · refine .mk _ _ fl ll pl (bounds_i64 w0) ?_ rfl rfl rfl (fun p hp => (gf p hp).1) ?_ ?_ ?_ (fun _ _ _ => trivial) (fun _ _ _ => trivial) (fun _ _ _ => trivial) (fun p hp => (gf p hp).2) gl (fun p hp => (gp p hp).1) (fun p hp => (gp p hp).2)
      · show m.toNat < _; omega
      · simpa [slF, V.fs] using rf
      · simpa [slL, V.ls] using rl
      · simpa [slP, V.ps] using rp
end
end Go.Proofs.YtcjflglpkpkflaaDoor
