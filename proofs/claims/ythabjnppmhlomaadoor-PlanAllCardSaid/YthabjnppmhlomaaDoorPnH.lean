/- The finder in memory: list, from, best, ready. -/
import Derived.Test.YthabjnppmhlomaaDoorPnG
import Derived.Test.YthabjnppmhlomaaDoorMapI
namespace Go.Proofs.YthabjnppmhlomaaDoor
open Go Go.RowKit Go.Maps
set_option linter.unusedVariables false
def eC (e : Eg) : List Value := [.int .i64 e.src, .int .i64 e.dst, .int .i64 e.cost]
theorem eC_len (e : Eg) : (eC e).length = 3 := rfl
theorem eC_one (e : Eg) : (eC e).all Value.oneCell' = true := rfl
def i64 (n : Int) : Prop := -9223372036854775808 ≤ n ∧ n ≤ 9223372036854775807
/-- a row's block is older than B, and not F -/
def Old (B F : Nat) (v : Value) : Prop := ∀ k, v.ownBlock = some k → k < B ∧ k ≠ F
def idxs (L : List Eg) (v : Int) : List Int := (fromV L v).map fun (i : Nat) => (i : Int)
def frV (fr : Int → Option Value) (v : Int) : Value := (fr v).getD (.slice none 0 0)
theorem lookI_run {P : Program} {K e t : TypeId} {w : World} {b n : Nat} {f : Int → Option Value} (h : MapI P K w b n f) (hk : P.underlying K = some (.int .i64)) (ht : P.underlying t = some (.map K e)) {z : Value} (hz : (zeroValue e).run P w = .ok z w) (q : Int) (hq : -9223372036854775808 ≤ q ∧ q ≤ 9223372036854775807) :
    (Instr.lookup t (.map (some b)) (.int .i64 q) true).run P w = .ok (.tuple #[(f q).getD z, .bool (f q).isSome]) w := by
  obtain ⟨D, hD, hv⟩ := h
  obtain ⟨h1, h2⟩ := hv q hq
  obtain ⟨v, ps, hrun, hvv⟩ := hD.look_ok (Maps.int_keyed hk) ht hz (show heldR z = some (.held z, []) from rfl) (Maps.keyOf_int_mk hk (WalkArith.wf_i64 hq))
  have : v = (f q).getD z := by
    have h3 := h2 (.held z)
    unfold heldR at hvv
    simp only [Option.some.injEq, Prod.mk.injEq] at hvv
    cases hfq : f q with
    | some u => rw [hfq] at h3; have := hvv.1.trans h3; cases this; rfl
    | none => rw [hfq] at h3; have := hvv.1.trans h3; cases this; rfl
  rw [this, h1] at hrun
  exact hrun
theorem lookI1_run {P : Program} {K e t : TypeId} {w : World} {b n : Nat} {f : Int → Option Value} (h : MapI P K w b n f) (hk : P.underlying K = some (.int .i64)) (ht : P.underlying t = some (.map K e)) {z : Value} (hz : (zeroValue e).run P w = .ok z w) (q : Int) (hq : -9223372036854775808 ≤ q ∧ q ≤ 9223372036854775807) :
    (Instr.lookup t (.map (some b)) (.int .i64 q) false).run P w = .ok ((f q).getD z) w := by
  obtain ⟨D, hD, hv⟩ := h
  obtain ⟨h1, h2⟩ := hv q hq
  obtain ⟨v, ps, hrun, hvv⟩ := hD.lookup (Maps.int_keyed hk) ht hz (show heldR z = some (.held z, []) from rfl) (Maps.keyOf_int_mk hk (WalkArith.wf_i64 hq))
  have : v = (f q).getD z := by
    have h3 := h2 (.held z)
    unfold heldR at hvv
    simp only [Option.some.injEq, Prod.mk.injEq] at hvv
    cases hfq : f q with
    | some u => rw [hfq] at h3; have := hvv.1.trans h3; cases this; rfl
    | none => rw [hfq] at h3; have := hvv.1.trans h3; cases this; rfl
  rw [this] at hrun
  exact hrun
theorem putI_run {P : Program} {K e t : TypeId} {w : World} {b n : Nat} {f : Int → Option Value} (h : MapI P K w b n f) (hk : P.underlying K = some (.int .i64)) (ht : P.underlying t = some (.map K e)) (hn : n < maxLen) (q : Int) (u : Value) (hq : -9223372036854775808 ≤ q ∧ q ≤ 9223372036854775807) :
    ∃ w', (Instr.mapUpdate t (.map (some b)) (.int .i64 q) u).run P w = .ok () w' ∧ MapI P K w' b (n + 1) (fun y => if y = q then some u else f y) ∧ w.grownBy w' (some b) := by
  obtain ⟨D, hD, hv⟩ := h
  have hkey := Maps.keyOf_int_mk hk (WalkArith.wf_i64 hq)
  obtain ⟨w1, hrun, h1, hg1⟩ := hD.update (Maps.int_keyed hk) ht hn hkey (show heldR u = some (.held u, []) from rfl)
  refine ⟨w1, hrun, ⟨_, h1, fun y hy => ?_⟩, hg1⟩
  by_cases e : y = q
  · subst e
    simp only [if_true]
    exact ⟨Maps.has_put_same hD.isMap ((Maps.int_keyed hk).key hkey) _, fun z => Maps.atKey_put_same hD.isMap ((Maps.int_keyed hk).key hkey) _ _⟩
  · have hne : Lit.int .i64 y ≠ Lit.int .i64 q := fun h => e (by cases h; rfl)
    simp only [if_neg e]
    rw [Maps.has_put_other hne]
    refine ⟨(hv y hy).1, fun z => ?_⟩
    rw [Maps.atKey_put_other hne]
    exact (hv y hy).2 z
/-- a row that is not empty does not lie in a map's block -/
theorem row_off_map {P : Program} {K : TypeId} {w : World} {b n m : Nat} {f : Int → Option Value} {v : Value} {xs : List Value} (hm : MapI P K w b m f) (hr : Row w v n xs) (hx : 0 < n) (hl : xs ≠ []) : v.ownBlock ≠ some b := by
  intro hk
  rcases hr with ⟨h1, _⟩ | ⟨g, o, c, rfl, h1, h2, h3, h4⟩
  · omega
  · have : g = b := by simpa [Value.ownBlock] using hk
    subst this
    obtain ⟨x, r, rfl⟩ : ∃ x r, xs = x :: r := by cases xs with
      | nil => exact absurd rfl hl
      | cons x r => exact ⟨x, r, rfl⟩
    have hc := h4 0 x rfl
    obtain ⟨D, ⟨es, clock, hb, _⟩, _⟩ := hm
    simp [World.cell?, hb] at hc
theorem row_map {P : Program} {K : TypeId} {w w' : World} {b n m : Nat} {f : Int → Option Value} {v : Value} {xs : List Value} (hm : MapI P K w b m f) (hr : Row w v n xs) (hx : xs.length = n * 1 ∨ 0 < n → xs ≠ [] ∨ n = 0) (hg : w.grownBy w' (some b)) : Row w' v n xs := by
  by_cases h0 : n = 0
  · subst h0
    rcases hr with h1 | ⟨g, o, c, rfl, h1, h2, h3, h4⟩
    · exact .inl h1
    · by_cases he : xs = []
      · exact .inl ⟨rfl, he, _, c, rfl⟩
      · obtain ⟨x, r, rfl⟩ : ∃ x r, xs = x :: r := by cases xs with
          | nil => exact absurd rfl he
          | cons x r => exact ⟨x, r, rfl⟩
        refine .inr ⟨g, o, c, rfl, h1, h2, Nat.lt_of_lt_of_le h3 hg.size, fun j u hu => ?_⟩
        have hgb : g ≠ b := fun e => by
          subst e
          have hc := h4 0 x rfl
          obtain ⟨D, ⟨es, clock, hb, _⟩, _⟩ := hm
          simp [World.cell?, hb] at hc
        exact (World.cell?_of_block (a := ⟨g, o + j, none⟩) (hg.block g h3 (fun e => hgb (by cases e; rfl)))).trans (h4 j u hu)
  · have hne : xs ≠ [] := (hx (.inr (by omega))).resolve_right h0
    exact (Grew.ofGrown hg).row hr (fun k hk hm' => row_off_map hm hr (by omega) hne (by rw [List.mem_singleton] at hm'; rw [hk, hm']))
theorem rowZ_map {P : Program} {K : TypeId} {w w' : World} {b m : Nat} {f : Int → Option Value} {v : Value} {xs : List Int} (hm : MapI P K w b m f) (hr : RowZ w v xs) (hg : w.grownBy w' (some b)) : RowZ w' v xs :=
  row_map hm hr (fun _ => by cases xs <;> simp) hg
theorem rowE_map {P : Program} {K : TypeId} {w w' : World} {b m : Nat} {f : Int → Option Value} {v : Value} {xs : List Eg} (hm : MapI P K w b m f) (hr : RowS eC w v xs) (hg : w.grownBy w' (some b)) : RowS eC w' v xs :=
  row_map hm hr (fun _ => by cases xs <;> simp [eC]) hg
theorem rowE_grew {S : List Nat} {w w' : World} {v : Value} {xs : List Eg} (h : RowS eC w v xs) (hg : Grew S w w') (hv : xs ≠ [] → ∀ k, v.ownBlock = some k → k ∉ S) : RowS eC w' v xs := by
  by_cases hx : xs = []
  · subst hx
    rcases h with h | ⟨b, o, c, rfl, h1, h2, h3, h4⟩
    · exact .inl h
    · exact .inl ⟨rfl, rfl, _, c, rfl⟩
  · exact hg.row h (hv hx)
theorem rowE_lt {w : World} {v : Value} {xs : List Eg} (h : RowS eC w v xs) (hx : xs ≠ []) : ∀ k, v.ownBlock = some k → k < w.heap.size := fun k hk => by
  rcases h with ⟨h1, _⟩ | ⟨b, o, c, rfl, h1, h2, h3, h4⟩
  · exact absurd (List.length_eq_zero_iff.1 h1) hx
  · have : b = k := by simpa [Value.ownBlock] using hk
    omega
theorem MapI.at {P : Program} {K : TypeId} {w w' : World} {b n : Nat} {f : Int → Option Value} (h : MapI P K w b n f) (hb : w'.heap[b]? = w.heap[b]?) : MapI P K w' b n f :=
  let ⟨D, ⟨es, clock, h1, h2⟩, hv⟩ := h
  ⟨D, ⟨es, clock, hb.trans h1, h2⟩, hv⟩
structure FI (B b0 F mf mb : Nat) (L : List Eg) (w : World) (lv qv : Value) (fr : Int → Option Value) (Bm : Int → Option TM) (Qm : List TM) (nb : Nat) : Prop where
  q : QH B F 63 lv (.map (some mf)) (.map (some mb)) w qv Qm
  row : RowS eC w lv L
  rowB : L ≠ [] → Old B F lv
  frm : ∃ nf, MapI Tryd.prog 3 w mf nf fr
  frow : ∀ v, RowZ w (frV fr v) (idxs L v) ∧ Old B F (frV fr v)
  best : MapI Tryd.prog 3 w mb nb (fun v => (Bm v).map tG)
  trips : ∀ v x, Bm v = some x → tOk (fun k => k = F ∨ qv.ownBlock = some k) w x
  lo : b0 ≤ F ∧ b0 ≤ mf ∧ b0 ≤ mb ∧ mf < B ∧ mb < B ∧ b0 ≤ B ∧ mf ≠ mb
section
variable {B b0 F mf mb : Nat} {L : List Eg} {w w' : World} {lv qv : Value} {fr : Int → Option Value} {Bm : Int → Option TM} {Qm : List TM} {nb : Nat}
theorem QH.stays {T : TypeId} {c0 c1 c2 : Value} (h : QH B F T c0 c1 c2 w qv Qm) (hb : Below w.heap.size w w') : QH B F T c0 c1 c2 w' qv Qm :=
  ⟨⟨h.1.1.stays hb, h.1.2.1.stays hb, h.1.2.2.1, Nat.le_trans h.1.2.2.2 hb.size⟩, fun x hx => (h.2.1 x hx).stays hb, h.2.2⟩
theorem FI.stays (h : FI B b0 F mf mb L w lv qv fr Bm Qm nb) (hb : Below w.heap.size w w') : FI B b0 F mf mb L w' lv qv fr Bm Qm nb :=
  ⟨h.q.stays hb, h.row.stays hb, h.rowB, let ⟨n, hn⟩ := h.frm; ⟨n, hn.stays hb⟩, fun v => ⟨Row.stays (h.frow v).1 hb, (h.frow v).2⟩, h.best.stays hb, fun v x hx => (h.trips v x hx).stays hb, h.lo⟩
theorem FI.F_ne (h : FI B b0 F mf mb L w lv qv fr Bm Qm nb) : mb ≠ F ∧ mf ≠ F := ⟨h.best.block_ne h.q.1.1, let ⟨n, hn⟩ := h.frm; hn.block_ne h.q.1.1⟩
theorem tOk.map {S : Nat → Prop} {P : Program} {K : TypeId} {b m : Nat} {f : Int → Option Value} {x : TM} (h : tOk S w x) (hm : MapI P K w b m f) (hg : w.grownBy w' (some b)) : tOk S w' x :=
  ⟨h.1, h.2.1, h.2.2.1, rowZ_map hm h.2.2.2.1 hg, fun k hk => ⟨(h.2.2.2.2 k hk).1, Nat.lt_of_lt_of_le (h.2.2.2.2 k hk).2 hg.size⟩⟩
/-- a trip is the best one now -/
theorem FI.put (h : FI B b0 F mf mb L w lv qv fr Bm Qm nb) {v : Int} {x : TM} (hx : tOk (fun k => k = F ∨ qv.ownBlock = some k) w x) (hg : w.grownBy w' (some mb)) (hm : MapI Tryd.prog 3 w' mb (nb + 1) (fun y => if y = v then some (tG x) else (Bm y).map tG)) :
    FI B b0 F mf mb L w' lv qv fr (fun y => if y = v then some x else Bm y) Qm (nb + 1) := by
  have hlo := h.lo
  refine ⟨⟨⟨h.q.1.1.grown hg (fun e => h.F_ne.1 (by cases e; rfl)), own_grown h.q.1.2.1 hg (fun k hk e => by cases e; have := (h.q.1.2.1.lt mb hk).1; omega), h.q.1.2.2.1, Nat.le_trans h.q.1.2.2.2 hg.size⟩, fun y hy => (h.q.2.1 y hy).map h.best hg, h.q.2.2⟩,
    rowE_map h.best h.row hg, h.rowB, ?_, fun u => ⟨rowZ_map h.best (h.frow u).1 hg, (h.frow u).2⟩, ?_, fun u y hy => ?_, h.lo⟩
  · obtain ⟨n, hn⟩ := h.frm
    exact ⟨n, hn.kept hg (fun e => by cases e; omega)⟩
  · refine hm.congr (fun a _ => ?_)
    show Option.map tG (if a = v then some x else Bm a) = _
    split <;> rfl
  · split at hy
    · cases hy; exact hx.map h.best hg
    · exact (h.trips u y hy).map h.best hg
/-- the queue is another one now -/
theorem FI.queue (h : FI B b0 F mf mb L w lv qv fr Bm Qm nb) {Q' : List TM} (hq : QHP B F 63 lv (.map (some mf)) (.map (some mb)) w qv Q' w') : ∃ qv', FI B b0 F mf mb L w' lv qv' fr Bm Q' nb ∧ NewOrSame w qv qv' ∧ Grew (F :: qv.ownBlock.toList) w w' := by
  obtain ⟨v', h1, h2, h3⟩ := hq
  have hlo := h.lo
  have hoff : ∀ k, k < B ∧ k ≠ F → k ∉ F :: qv.ownBlock.toList := fun k hk hm => by
    rcases List.mem_cons.1 hm with e | e
    · exact hk.2 e
    · have := (h.q.1.2.1.lt k (by simpa using e)).1; omega
  have hbl : ∀ k, k < B → k ≠ F → k < w.heap.size → w'.heap[k]? = w.heap[k]? := fun k a b c => h3.block k c (hoff k ⟨a, b⟩)
  refine ⟨v', ⟨h1, rowE_grew h.row h3 (fun hne k hk => hoff k (h.rowB hne k hk)), h.rowB, ?_, fun u => ⟨h3.row (h.frow u).1 (fun k hk => hoff k ((h.frow u).2 k hk)), (h.frow u).2⟩, ?_, fun u y hy => (h.trips u y hy).new h2 h3, h.lo⟩, h2, h3⟩
  · obtain ⟨n, hn⟩ := h.frm
    exact ⟨n, hn.at (hbl mf (by omega) h.F_ne.2 hn.lt)⟩
  · exact h.best.at (hbl mb (by omega) h.F_ne.1 h.best.lt)
end
end Go.Proofs.YthabjnppmhlomaaDoor
