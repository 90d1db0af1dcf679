/- Small laws on worlds and rows, over whatever program: appending to a row of the call's own, rows that are read, sentinel errors. No condition. -/
import Derived.Test.YtcjflglpkpkflaaDoorChecked
import Derived.WalkKit
import Derived.Handy
import Derived.Lib.Hide
import Derived.Deep.DeepMust
import Derived.Deep.AppendSrc
import Derived.Deep.Upon
import Derived.Lib.AppendZeros
import Derived.Laws.CopyOwn
namespace Go.Proofs.YtcjflglpkpkflaaDoor
open Go Go.RowKit
set_option linter.unusedVariables false

theorem grownBy_trans {a b c : World} {row : Option Nat} (h : a.grownBy b row) (k : b.grownBy c row) : a.grownBy c row :=
  ⟨k.os.trans h.os, k.tape.trans h.tape, k.output.trans h.output, Nat.le_trans h.size k.size,
   fun i hi hne => (k.block i (Nat.lt_of_lt_of_le hi h.size) hne).trans (h.block i hi hne)⟩
/-- the second step writes a block that the first left as it was, or a new one -/
theorem grownBy_step {a b c : World} {row row' : Option Nat} (h : a.grownBy b row) (k : b.grownBy c row') (hr : ∀ i, row' = some i → row = some i ∨ a.heap.size ≤ i) : a.grownBy c row :=
  ⟨k.os.trans h.os, k.tape.trans h.tape, k.output.trans h.output, Nat.le_trans h.size k.size,
   fun i hi hne => (k.block i (Nat.lt_of_lt_of_le hi h.size) (fun e => by rcases hr i e.symm with e' | e'; exact hne e'.symm; omega)).trans (h.block i hi hne)⟩
theorem grownBy_setCell {a b : World} {row : Option Nat} (h : a.grownBy b row) (p : Addr) (hr : row = some p.block ∨ a.heap.size ≤ p.block) (v : Value) : a.grownBy (b.setCell p v) row :=
  ⟨h.os, h.tape, h.output, by simpa using h.size, fun i hi hne => (heap_setCell_other b p i v (by rcases hr with hr | hr; exact fun e => hne (by rw [hr, e]); omega)).trans (h.block i hi hne)⟩
theorem grownBy_drew {a b : World} {row : Option Nat} (h : a.grownBy b row) : a.grownBy b.drew row := ⟨h.os, h.tape, h.output, h.size, h.block⟩
theorem grownBy_refl (w : World) (row : Option Nat) : w.grownBy w row := ⟨rfl, rfl, rfl, Nat.le_refl _, fun _ _ _ => rfl⟩
theorem grownBy_none {a b : World} {row : Option Nat} (h : a.grownBy b none) : a.grownBy b row := ⟨h.os, h.tape, h.output, h.size, fun i hi _ => h.block i hi (by simp)⟩
theorem below_of_grown {B : Nat} {w w' : World} {row : Option Nat} (h : w.grownBy w' row) (hB : B ≤ w.heap.size) (hr : ∀ k, row = some k → B ≤ k) : Below B w w' := (Below.refl B w).grown h hB hr
theorem grown_of_below {w w' : World} (h : Below w.heap.size w w') : w.grownBy w' none := ⟨h.os, h.tape, h.output, h.size, fun i hi _ => h.block i hi⟩

theorem below_own {B : Nat} {W w w' : World} {v : Value} {e : TypeId} {size n : Nat} {xs : List Value} (hb : Below B W w) (h : w.ownsRow B e size v n xs) (hg : w.grownBy w' v.ownBlock) (hB : B ≤ w.heap.size) : Below B W w' :=
  hb.grown hg hB fun k hk => (h.lt k hk).1
theorem own_mono {B B' : Nat} {w : World} {v : Value} {e : TypeId} {size n : Nat} {xs : List Value} (h : w.ownsRow B e size v n xs) (hB : B' ≤ B) : w.ownsRow B' e size v n xs :=
  ⟨h.1, h.2.imp id fun ⟨g, cap, cur, h1, h2, h3⟩ => ⟨g, cap, cur, h1, Nat.le_trans hB h2, h3⟩⟩
theorem own_below {B B' : Nat} {w w' : World} {v : Value} {e : TypeId} {size n : Nat} {xs : List Value} (h : w.ownsRow B e size v n xs) (hb : Below B' w w') (hk : ∀ k, v.ownBlock = some k → k < B') : w'.ownsRow B e size v n xs :=
  ⟨h.1, h.2.imp id fun ⟨g, cap, cur, h1, h2, h3, h4⟩ => ⟨g, cap, cur, h1, h2, (hb.block g (hk g (by subst h1; rfl))).trans h3, h4⟩⟩
theorem own_stays {B : Nat} {w w' : World} {v : Value} {e : TypeId} {size n : Nat} {xs : List Value} (h : w.ownsRow B e size v n xs) (hb : Below w.heap.size w w') : w'.ownsRow B e size v n xs :=
  own_below h hb fun k hk => (h.lt k hk).2
theorem own_snoc {α : Type} {f : α → Value} {B : Nat} {w : World} {v : Value} {e : TypeId} {cs : List α} {b : α} {x : Value} (h : w.ownsRow B e 1 v (cs.length + 1) (cs.map f ++ [x])) (hx : x = f b) : w.ownsRow B e 1 v (cs ++ [b]).length ((cs ++ [b]).map f) := by
  subst hx; simpa using h

/-- The block in which a row of the call's own lies is the one in which it lay, or a new one. -/
def NewOrSame (w : World) (v v' : Value) : Prop := ∀ k, v'.ownBlock = some k → v.ownBlock = some k ∨ w.heap.size ≤ k
theorem NewOrSame.refl (w : World) (v : Value) : NewOrSame w v v := fun _ h => .inl h
theorem NewOrSame.trans {w w1 : World} {v v1 v2 : Value} (h : NewOrSame w v v1) (k : NewOrSame w1 v1 v2) (hs : w.heap.size ≤ w1.heap.size) : NewOrSame w v v2 := fun i hi => by
  rcases k i hi with h1 | h1
  · exact h i h1
  · exact .inr (Nat.le_trans hs h1)

theorem run_append_room_row {P : Program} (w : World) (t tx ty e : TypeId) (i : TypeInfo) (ht : P.underlying t = some (.slice e)) (hi : P.info? e = some i)
    (g sLen sCap : Nat) (cur : Array Value) (hg : w.heap[g]? = some (.cells cur e (0, 0))) (x : Value) (m : Nat) (news : List Value) (hs : Src P i.size tx x m news w)
    (hroom : sLen + m ≤ sCap) (hfit : sLen * i.size + news.length ≤ cur.size) :
    (Builtin.append_ #[t, tx] ty #[.slice (some ⟨g, 0, none⟩) sLen sCap, x]).run P w =
      .ok (.slice (some ⟨g, 0, none⟩) (sLen + m) sCap) (w.setRow g (cur.toList.take (sLen * i.size) ++ news ++ cur.toList.drop (sLen * i.size + news.length)).toArray) := by
  have hst := run_storeCells_at P g (sLen * i.size) e news 0 cur w hg (by simpa using hfit) hs.one
  simp only [Nat.add_zero] at hst
  rcases hs.kind with ⟨e', hk⟩ | hk <;> simp [Builtin.append_, run_underlying ht, run_underlying hk, sizeOf, typeInfo, hi, hs.len, hroom, hs.cells, Addr.add_lit, hst]

theorem own_block {w : World} {base : Nat} {e : TypeId} {size n : Nat} {v : Value} {xs : List Value} (h : w.ownsRow base e size v n xs) {g c m : Nat} (hv : v = .slice (some ⟨g, 0, none⟩) m c) :
    m = n ∧ base ≤ g ∧ g < w.heap.size ∧ n ≤ c ∧ c ≤ maxLen ∧ ∃ cur, w.heap[g]? = some (.cells cur e (0, 0)) ∧ cur.size = c * size ∧ cur.toList.take (n * size) = xs := by
  rcases h.2 with ⟨h1, _⟩ | ⟨g', cap, cur, h1, h2, h3, h4, h5, h6, h7⟩
  · rw [h1] at hv; cases hv
  · rw [h1] at hv; cases hv
    exact ⟨rfl, h2, lt_of_block h3, h4, h5, cur, h3, h6, h7⟩

theorem run_append_src {P : Program} (w : World) (base : Nat) (t tx ty e : TypeId) (i : TypeInfo) (z : Value) (size bytes : Nat) (ht : P.underlying t = some (.slice e)) (hi : P.info? e = some i) (hz : i.zero = some z)
    (hsize : i.size = size) (hby : i.bytes = bytes) (hzs : z.cells.size = size)
    (v : Value) (n : Nat) (xs : List Value) (hown : w.ownsRow base e size v n xs) (x : Value) (m : Nat) (news : List Value) (hs : Src P size tx x m news w)
    (h63 : n + m ≤ maxLen) (hbytes : (n + m) * bytes ≤ 140737488355328) (hbase : base ≤ w.heap.size) :
    ∃ v' w', (Builtin.append_ #[t, tx] ty #[v, x]).run P w = .ok v' w' ∧ w'.ownsRow base e size v' (n + m) (xs ++ news) ∧ w.grownBy w' v.ownBlock ∧ NewOrSame w v v' ∧ (v' = .slice none 0 0 ↔ v = .slice none 0 0 ∧ m = 0) := by
  subst hsize
  subst hby
  have hsmall : n + m ≤ 9223372036854775807 := by simp only [maxLen] at h63; omega
  have hxs := hown.1
  have hns := hs.newsLen
  have hlen : (xs ++ news).length = (n + m) * i.size := by rw [List.length_append, hxs, hns, Nat.add_mul]
  -- a new row, whatever the old one
  have grow : ∀ (bs : Option Addr) (cap : Nat), (Builtin.firstCells i.size n (.slice bs n cap)).run P w.drew = .ok xs.toArray w.drew → cap < n + m →
      ∃ v' w', (Builtin.append_ #[t, tx] ty #[.slice bs n cap, x]).run P w = .ok v' w' ∧ w'.ownsRow base e i.size v' (n + m) (xs ++ news) ∧ w.grownBy w' none ∧ v'.ownBlock = some w.heap.size := by
    intro bs cap hold hg
    have hr := run_append_grow_src w t tx ty e i z ht hi hz bs n cap xs hold x m news hs hg (by omega) (growslice_fits hg hbytes)
    have hge := grownCap_ge w (n + m) cap e
    have hcm : grownCap w (n + m) cap e ≤ maxLen := grownCap_le_maxLen w (n + m) cap e h63
    refine ⟨_, _, hr, ⟨hlen, .inr ⟨w.heap.size, _, _, rfl, hbase, heap_alloc_new w.drew _, hge, hcm, ?_, ?_⟩⟩, ⟨rfl, rfl, rfl, by simp, fun k hk _ => heap_alloc_old w.drew _ hk⟩, rfl⟩
    · simp only [Array.size_append, List.size_toArray, size_zeroCells, hzs, hlen, ← Nat.add_mul]
      congr 1
      omega
    · simp only [Array.toList_append]
      rw [← hlen]
      exact List.take_left
  rcases hown.2 with ⟨rfl, rfl⟩ | ⟨g, cap, cur, rfl, hbg, hgg, hnc, hcm, hcs, htk⟩
  · obtain rfl : xs = [] := by simpa using hxs
    rcases Nat.eq_zero_or_pos m with rfl | hm
    · obtain rfl : news = [] := by simpa using hns
      refine ⟨_, _, run_append_nothing w t tx ty e i ht hi none 0 0 (Nat.le_refl _) x hs, by simpa using World.ownsRow_nil w base e i.size, grownBy_refl _ _, NewOrSame.refl _ _, by simp⟩
    · obtain ⟨v', w', h1, h2, h3, h4⟩ := grow none 0 (run_firstCells_none w.drew i.size 0 0 0) (by omega)
      refine ⟨v', w', h1, h2, h3, fun k hk => .inr (by rw [h4] at hk; cases hk; exact Nat.le_refl _), ?_⟩
      constructor
      · rintro rfl; simp [Value.ownBlock] at h4
      · rintro ⟨_, h⟩; omega
  · by_cases hroom : n + m ≤ cap
    · have hfit : n * i.size + news.length ≤ cur.size := by rw [hns, hcs, ← Nat.add_mul]; exact Nat.mul_le_mul_right _ hroom
      refine ⟨_, _, run_append_room_row w t tx ty e i ht hi g n cap cur hgg x m news hs hroom hfit, ⟨hlen, .inr ⟨g, cap, _, rfl, hbg, setRow_heap _ _ _ _ _ _ hgg, hroom, hcm, ?_, ?_⟩⟩, ⟨rfl, rfl, rfl, by simp, fun k _ hne => setRow_other _ _ _ _ (fun e => hne (by simp [Value.ownBlock, e]))⟩, fun k hk => .inl hk, by simp⟩
      · have : (cur.toList.take (n * i.size)).length = n * i.size := by rw [htk, hxs]
        simp only [List.size_toArray, List.length_append, this, List.length_drop, Array.length_toList]
        omega
      · show List.take ((n + m) * i.size) (List.take (n * i.size) cur.toList ++ news ++ _) = _
        rw [htk, ← hlen]
        exact List.take_left
    · have hold : (Builtin.firstCells i.size n (.slice (some ⟨g, 0, none⟩) n cap)).run P w.drew = .ok xs.toArray w.drew :=
        run_firstCells_some w.drew i.size n ⟨g, 0, none⟩ n cap xs hxs (by simpa using hown.cells (g := g) rfl)
      obtain ⟨v', w', h1, h2, h3, h4⟩ := grow (some ⟨g, 0, none⟩) cap hold (by omega)
      refine ⟨v', w', h1, h2, grownBy_none h3, fun k hk => .inr (by rw [h4] at hk; cases hk; exact Nat.le_refl _), ?_⟩
      constructor
      · rintro rfl; simp [Value.ownBlock] at h4
      · rintro ⟨h, _⟩; cases h

/-- append(v, x...), v a row of the call's own, x whatever source. -/
theorem wpList_append {P : Program} {w : World} {ops : Array Oper} {rest : List Oper} {o : Oper} {a : Act} {Q : Exit → Act → World → Prop} (hgd : o.guard = none) (s x : Operand) (t tx : TypeId)
    (ho : o.op = .call { callee := .builtin .append, args := #[s, x], argTypes := #[t, tx] })
    (base : Nat) (e : TypeId) (z : Value) (size bytes : Nat) (ht : P.underlying t = some (.slice e))
    (hinf : (P.info? e).map (fun i => (i.zero, i.size, i.bytes)) = some (some z, size, bytes)) (hzs : z.cells.size = size)
    (v : Value) (n : Nat) (xs : List Value) (hs : a.eval s = v) (hown : w.ownsRow base e size v n xs)
    (xv : Value) (m : Nat) (news : List Value) (hx : a.eval x = xv) (hsrc : Src P size tx xv m news w)
    (h63 : n + m ≤ maxLen) (hbytes : (n + m) * bytes ≤ 140737488355328) (hbase : base ≤ w.heap.size)
    (h : ∀ v' w', w'.ownsRow base e size v' (n + m) (xs ++ news) → w.grownBy w' v.ownBlock → NewOrSame w v v' → Hid (v' = .slice none 0 0 ↔ v = .slice none 0 0 ∧ m = 0) → wpList P ops Q rest (a.put o.dst v') w') :
    wpList P ops Q (o :: rest) a w := by
  obtain ⟨i, hi, hz0, hz1, hz2⟩ := info_parts hinf
  obtain ⟨v', w', h1, h2, h3, h4, h5⟩ := run_append_src w base t tx o.type e i z size bytes ht hi hz0 hz1 hz2 hzs v n xs hown xv m news hsrc h63 hbytes hbase
  exact Lib.wpList_append_run w hgd s x t tx ho v xv hs hx v' w' h1 (h v' w' h2 h3 h4 h5)

/-- One element (size cells, just built in a block of its own) is appended to a row that the call owns. -/
theorem wpList_push {P : Program} {w : World} {ops : Array Oper} {rest : List Oper} {o : Oper} {a : Act} {Q : Exit → Act → World → Prop} (hgd : o.guard = none) (s x : Operand) (t : TypeId)
    (ho : o.op = .call { callee := .builtin .append, args := #[s, x], argTypes := #[t, t] })
    (base : Nat) (e : TypeId) (z : Value) (size bytes : Nat) (ht : P.underlying t = some (.slice e))
    (hinf : (P.info? e).map (fun i => (i.zero, i.size, i.bytes)) = some (some z, size, bytes)) (hzs : z.cells.size = size)
    (v : Value) (n : Nat) (xs : List Value) (hs : a.eval s = v) (hown : w.ownsRow base e size v n xs)
    (us : Array Value) (e' : TypeId) (c : Nat) (hx : a.eval x = .slice (some ⟨w.heap.size, 0, none⟩) 1 c) (hl : us.size = size) (h1 : us.toList.all Value.oneCell' = true)
    (h63 : n + 1 ≤ maxLen) (hbytes : (n + 1) * bytes ≤ 140737488355328) (hbase : base ≤ w.heap.size)
    (h : ∀ v' w', w'.ownsRow base e size v' (n + 1) (xs ++ us.toList) → w.grownBy w' v.ownBlock → NewOrSame w v v' → wpList P ops Q rest (a.put o.dst v') w') :
    wpList P ops Q (o :: rest) a (w.alloc (.cells us e')) := by
  refine wpList_append (w := w.alloc (.cells us e')) hgd s x t t ho base e z size bytes ht hinf hzs v n xs hs (hown.alloc _) _ 1 us.toList hx ?_ h63 hbytes (by simp; omega) ?_
  · refine Src.ofSlice _ ht ⟨w.heap.size, 0, none⟩ 1 c us.toList (by simpa using hl) ?_ (fun u hu => List.all_eq_true.1 h1 u hu)
    intro j u hj
    have hadd : (⟨w.heap.size, 0, none⟩ : Addr).add j = ⟨w.heap.size, j, none⟩ := by unfold Addr.add; split <;> simp_all
    rw [hadd]
    have hc := cell_of_row (w.alloc (.cells us e')) w.heap.size j us e' (0, 0) (heap_alloc_new w _)
    rw [hc]
    simpa using hj
  · intro v' w' hown' hg hn _
    refine h v' w' hown' (grownBy_trans (World.grownBy_alloc w _ _) hg) (fun k hk => ?_)
    rcases hn k hk with h' | h'
    · exact .inl h'
    · exact .inr (by simp at h'; omega)

/-- A row that is read: n elements, the cells xs. -/
def Row (w : World) (v : Value) (n : Nat) (xs : List Value) : Prop :=
  (n = 0 ∧ xs = [] ∧ ∃ a c, v = .slice a 0 c) ∨
  ∃ b o c, v = .slice (some ⟨b, o, none⟩) n c ∧ n ≤ c ∧ c ≤ maxLen ∧ b < w.heap.size ∧ ∀ j u, xs[j]? = some u → w.cell? ⟨b, o + j, none⟩ = some u

theorem Row.ofOwn {w : World} {base : Nat} {e : TypeId} {size n : Nat} {v : Value} {xs : List Value} (h : w.ownsRow base e size v n xs) : Row w v n xs := by
  rcases h.2 with ⟨rfl, rfl⟩ | ⟨g, cap, cur, rfl, hb, hg, hn, hc, hs, ht⟩
  · exact .inl ⟨rfl, by simpa using h.1, none, 0, rfl⟩
  · refine .inr ⟨g, 0, cap, rfl, hn, hc, lt_of_block hg, fun j u hu => ?_⟩
    have := h.cells (g := g) rfl j u hu
    have hadd : (⟨g, 0, none⟩ : Addr).add j = ⟨g, j, none⟩ := by unfold Addr.add; split <;> simp_all
    rw [hadd] at this
    simpa using this

theorem Row.src {P : Program} {w : World} {v : Value} {size n : Nat} {xs : List Value} (h : Row w v n xs) {t e : TypeId} (ht : P.underlying t = some (.slice e)) (hl : xs.length = n * size) (h1 : ∀ u ∈ xs, u.oneCell' = true) : Src P size t v n xs w := by
  rcases h with ⟨rfl, rfl, a, c, rfl⟩ | ⟨b, o, c, rfl, _, _, _, hc⟩
  · cases a with
    | none => exact Src.ofNil w ht c
    | some a => exact Src.ofSlice w ht a 0 c [] (by simp) (fun j u h => by simp at h) (by simp)
  · refine Src.ofSlice w ht ⟨b, o, none⟩ n c xs hl (fun j u hj => ?_) h1
    have hadd : (⟨b, o, none⟩ : Addr).add j = ⟨b, o + j, none⟩ := by unfold Addr.add; split <;> simp_all
    rw [hadd]; exact hc j u hj

theorem Row.grown {w w' : World} {v : Value} {n : Nat} {xs : List Value} {row : Option Nat} (h : Row w v n xs) (hg : w.grownBy w' row) (hne : ∀ k, v.ownBlock = some k → row ≠ some k) : Row w' v n xs := by
  rcases h with h | ⟨b, o, c, rfl, h1, h2, h3, hc⟩
  · exact .inl h
  · refine .inr ⟨b, o, c, rfl, h1, h2, Nat.lt_of_lt_of_le h3 hg.size, fun j u hu => ?_⟩
    exact (World.cell?_of_block (a := ⟨b, o + j, none⟩) (hg.block b h3 (fun e => hne b rfl e.symm))).trans (hc j u hu)
theorem Row.below {B : Nat} {w w' : World} {v : Value} {n : Nat} {xs : List Value} (h : Row w v n xs) (hg : Below B w w') (hne : ∀ k, v.ownBlock = some k → k < B) : Row w' v n xs := by
  rcases h with h | ⟨b, o, c, rfl, h1, h2, h3, hc⟩
  · exact .inl h
  · refine .inr ⟨b, o, c, rfl, h1, h2, Nat.lt_of_lt_of_le h3 hg.size, fun j u hu => ?_⟩
    exact (World.cell?_of_block (a := ⟨b, o + j, none⟩) (hg.block b (hne b rfl))).trans (hc j u hu)
theorem Row.block_lt {w : World} {v : Value} {n : Nat} {xs : List Value} (h : Row w v n xs) (hn : 0 < n) : ∀ k, v.ownBlock = some k → k < w.heap.size := by
  rcases h with h | ⟨b, o, c, rfl, h1, h2, h3, hc⟩
  · omega
  · intro k hk; simp [Value.ownBlock] at hk; omega
theorem Row.stays {w w' : World} {v : Value} {n : Nat} {xs : List Value} (h : Row w v n xs) (hg : Below w.heap.size w w') : Row w' v n xs := by
  rcases h with h | h
  · exact .inl h
  · have h' : Row w v n xs := .inr h
    exact h'.below hg (by obtain ⟨b, o, c, rfl, h1, h2, h3, hc⟩ := h; intro k hk; simp [Value.ownBlock] at hk; omega)

/-! ### what is handed back -/
theorem vint {k : IntKind} {a b : Int} (h : a = b) : Value.int k a = Value.int k b := by rw [h]
theorem ret1 {a a' : Value} (h : a = a') : Ending.returned a = .returned a' := by rw [h]
theorem ret2 {a a' b b' : Value} (h : a = a') (h2 : b = b') : Ending.returned (.tuple #[a, b]) = .returned (.tuple #[a', b']) := by rw [h, h2]
theorem ret3 {a a' b b' c c' : Value} (h : a = a') (h2 : b = b') (h3 : c = c') : Ending.returned (.tuple #[a, b, c]) = .returned (.tuple #[a', b', c']) := by rw [h, h2, h3]

/-! ### a block with its cells -/
def CellsAt (w : World) (g : Nat) (T : TypeId) (cs : Array Value) : Prop := w.heap[g]? = some (.cells cs T (0, 0))
theorem CellsAt.new (w : World) (cs : Array Value) (T : TypeId) : CellsAt (w.alloc (.cells cs T)) w.heap.size T cs := heap_alloc_new w _
theorem CellsAt.lt {w : World} {g : Nat} {T : TypeId} {cs : Array Value} (h : CellsAt w g T cs) : g < w.heap.size := lt_of_block h
theorem CellsAt.below {B : Nat} {w w' : World} {g : Nat} {T : TypeId} {cs : Array Value} (h : CellsAt w g T cs) (hb : Below B w w') (hg : g < B) : CellsAt w' g T cs := (hb.block g hg).trans h
theorem CellsAt.stays {w w' : World} {g : Nat} {T : TypeId} {cs : Array Value} (h : CellsAt w g T cs) (hb : Below w.heap.size w w') : CellsAt w' g T cs := h.below hb h.lt
theorem CellsAt.drew {w : World} {g : Nat} {T : TypeId} {cs : Array Value} (h : CellsAt w g T cs) : CellsAt w.drew g T cs := h
theorem CellsAt.grown {w w' : World} {row : Option Nat} {g : Nat} {T : TypeId} {cs : Array Value} (h : CellsAt w g T cs) (hg : w.grownBy w' row) (hne : row ≠ some g) : CellsAt w' g T cs := (hg.block g h.lt (fun e => hne e.symm)).trans h
theorem CellsAt.cell {w : World} {g : Nat} {T : TypeId} {cs : Array Value} (h : CellsAt w g T cs) (j : Nat) {v : Value} (hj : cs[j]? = some v) : w.cell? ⟨g, j, none⟩ = some v := (cell_of_row w g j _ _ _ h).trans hj
theorem CellsAt.free {w : World} {g : Nat} {T : TypeId} {cs : Array Value} (h : CellsAt w g T cs) (j : Nat) : w.frozen? ⟨g, j, none⟩ = false := by
  have h' : w.heap[g]? = _ := h
  simp [World.frozen?, h']
theorem CellsAt.set {w : World} {g : Nat} {T : TypeId} {cs : Array Value} (h : CellsAt w g T cs) (j : Nat) (v : Value) : CellsAt (w.setCell ⟨g, j, none⟩ v) g T (cs.setIfInBounds j v) := heap_setCell_same w g j _ _ v h
theorem CellsAt.other {w : World} {g : Nat} {T : TypeId} {cs : Array Value} (h : CellsAt w g T cs) (a : Addr) (hne : g ≠ a.block) (v : Value) : CellsAt (w.setCell a v) g T cs := (heap_setCell_other w a g v hne).trans h

/-! ### bytes, numbers -/
def BV (b : UInt8) : Value := .int .u8 (b.toNat : Int)
def UV (n : Nat) : Value := .int .u64 (n : Int)
def IV (n : Int) : Value := .int .i64 n
theorem BV_def (b : UInt8) : BV b = .int .u8 (b.toNat : Int) := rfl
theorem BV_one (b : UInt8) : (BV b).oneCell' = true := rfl
theorem BV_ofNat (n : Nat) : BV (UInt8.ofNat n) = .int .u8 ((n % 256 : Nat) : Int) := by simp [BV]
/-- a number's lowest byte -/
def b8 (n : Nat) : UInt8 := UInt8.ofNat n
theorem BV_b8 (n : Nat) : BV (b8 n) = .int .u8 ((n % 256 : Nat) : Int) := BV_ofNat n
theorem b8_toNat (n : Nat) : (b8 n).toNat = n % 256 := by simp [b8]
theorem ofNat_toNat_of_lt {n : Nat} (h : n < 256) : (UInt8.ofNat n).toNat = n := by simp; omega

/-- bytes in a row of the call's own -/
def OwnB (B : Nat) (w : World) (v : Value) (bs : List UInt8) : Prop := w.ownsRow B 5 1 v bs.length (bs.map BV)
/-- bytes that are read -/
def RowB (w : World) (v : Value) (bs : List UInt8) : Prop := Row w v bs.length (bs.map BV)
theorem OwnB.row {B : Nat} {w : World} {v : Value} {bs : List UInt8} (h : OwnB B w v bs) : RowB w v bs := Row.ofOwn h
theorem OwnB.mono {B B' : Nat} {w : World} {v : Value} {bs : List UInt8} (h : OwnB B w v bs) (hB : B' ≤ B) : OwnB B' w v bs := own_mono h hB
theorem OwnB.stays {B : Nat} {w w' : World} {v : Value} {bs : List UInt8} (h : OwnB B w v bs) (hb : Below w.heap.size w w') : OwnB B w' v bs := own_stays h hb
theorem OwnB.alloc {B : Nat} {w : World} {v : Value} {bs : List UInt8} (h : OwnB B w v bs) (o : Obj) : OwnB B (w.alloc o) v bs := World.ownsRow.alloc h o
theorem OwnB.nil (B : Nat) (w : World) : OwnB B w (.slice none 0 0) [] := World.ownsRow_nil _ _ _ _
theorem RowB.stays {w w' : World} {v : Value} {bs : List UInt8} (h : RowB w v bs) (hb : Below w.heap.size w w') : RowB w' v bs := Row.stays h hb
theorem RowB.nil (w : World) : RowB w (.slice none 0 0) [] := .inl ⟨rfl, rfl, none, 0, rfl⟩
theorem RowB.alloc {w : World} {v : Value} {bs : List UInt8} (h : RowB w v bs) (o : Obj) : RowB (w.alloc o) v bs := h.stays ((Below.refl _ _).alloc (Nat.le_refl _) o)
/-- either no byte, or a place with all of them -/
theorem RowB.open {w : World} {v : Value} {bs : List UInt8} (h : RowB w v bs) :
    (bs = [] ∧ ∃ a c, v = .slice a 0 c) ∨ ∃ b o c, v = .slice (some ⟨b, o, none⟩) bs.length c ∧ bs.length ≤ c ∧ c ≤ maxLen ∧ b < w.heap.size ∧ ∀ j x, bs[j]? = some x → w.cell? ⟨b, o + j, none⟩ = some (BV x) := by
  rcases h with ⟨h1, h2, a, c, rfl⟩ | ⟨b, o, c, rfl, h1, h2, h3, h4⟩
  · exact .inl ⟨by simpa using h1, a, c, rfl⟩
  · exact .inr ⟨b, o, c, rfl, h1, h2, h3, fun j x hx => h4 j (BV x) (by simp [hx])⟩
theorem infoB : (Tryd.prog.info? 5).map (fun i => (i.zero, i.size, i.bytes)) = some (some (.int .u8 0), 1, 1) := by kernel_rfl
theorem RowB.src {w : World} {v : Value} {bs : List UInt8} (h : RowB w v bs) : Src Tryd.prog 1 71 v bs.length (bs.map BV) w :=
  Row.src h Tryd.underlying71 (by simp) (fun u hu => by obtain ⟨x, _, rfl⟩ := List.mem_map.1 hu; rfl)
theorem ownB_append {B : Nat} {w : World} {v : Value} {bs cs : List UInt8} (h : w.ownsRow B 5 1 v (bs.length + cs.length) (bs.map BV ++ cs.map BV)) : OwnB B w v (bs ++ cs) := by
  unfold OwnB; simpa using h
theorem ownB_snoc {B : Nat} {w : World} {v : Value} {bs : List UInt8} {b : UInt8} {x : Value} (h : w.ownsRow B 5 1 v (bs.length + 1) (bs.map BV ++ [x])) (hx : x = BV b) : OwnB B w v (bs ++ [b]) := own_snoc h hx

/-- one byte is appended to bytes of the call's own -/
theorem wpList_pushB {w : World} {ops : Array Oper} {rest : List Oper} {o : Oper} {a : Act} {Q : Exit → Act → World → Prop} {B : Nat} {v : Value} {bs : List UInt8} (hown : OwnB B w v bs) (b : UInt8) (h63 : bs.length ≤ 1000000000) (hbase : B ≤ w.heap.size)
    (hgd : o.guard = none) (s x : Operand) (ho : o.op = .call { callee := .builtin .append, args := #[s, x], argTypes := #[71, 71] }) (hs : a.eval s = v)
    (u : Value) (e' : TypeId) (c : Nat) (hx : a.eval x = .slice (some ⟨w.heap.size, 0, none⟩) 1 c) (hu : u = BV b)
    (h : ∀ v' w', OwnB B w' v' (bs ++ [b]) → w.grownBy w' v.ownBlock → NewOrSame w v v' → wpList Tryd.prog ops Q rest (a.put o.dst v') w') :
    wpList Tryd.prog ops Q (o :: rest) a (w.alloc (.cells #[u] e')) := by
  subst hu
  exact wpList_push hgd s x 71 ho B 5 (.int .u8 0) 1 1 Tryd.underlying71 infoB rfl v bs.length (bs.map BV) hs hown #[BV b] e' c hx rfl rfl (by unfold maxLen; omega) (by omega) hbase
    (fun v' w' h1 h2 h3 => h v' w' (ownB_snoc h1 rfl) h2 h3)
/-- bytes that are read are appended to bytes of the call's own -/
theorem wpList_appendB {w : World} {ops : Array Oper} {rest : List Oper} {o : Oper} {a : Act} {Q : Exit → Act → World → Prop} {B : Nat} {v : Value} {bs : List UInt8} (hown : OwnB B w v bs) {x' : Value} {cs : List UInt8} (hr : RowB w x' cs) (h63 : bs.length + cs.length ≤ 1000000000) (hbase : B ≤ w.heap.size)
    (hgd : o.guard = none) (s x : Operand) (ho : o.op = .call { callee := .builtin .append, args := #[s, x], argTypes := #[71, 71] }) (hs : a.eval s = v) (hx : a.eval x = x')
    (h : ∀ v' w', OwnB B w' v' (bs ++ cs) → w.grownBy w' v.ownBlock → NewOrSame w v v' → Hid (v' = .slice none 0 0 ↔ v = .slice none 0 0 ∧ cs.length = 0) → wpList Tryd.prog ops Q rest (a.put o.dst v') w') :
    wpList Tryd.prog ops Q (o :: rest) a w :=
  wpList_append hgd s x 71 71 ho B 5 (.int .u8 0) 1 1 Tryd.underlying71 infoB rfl v bs.length (bs.map BV) hs hown x' cs.length (cs.map BV) hx hr.src (by unfold maxLen; omega) (by omega) hbase
    (fun v' w' h1 h2 h3 h4 => h v' w' (ownB_append h1) h2 h3 h4)
/-- a string's bytes are appended to bytes of the call's own -/
theorem wpList_appendStr {w : World} {ops : Array Oper} {rest : List Oper} {o : Oper} {a : Act} {Q : Exit → Act → World → Prop} {B : Nat} {v : Value} {bs : List UInt8} (hown : OwnB B w v bs) (sb : ByteArray) (cs : List UInt8) (hcs : sb.data.toList = cs) (h63 : bs.length + cs.length ≤ 1000000000) (hbase : B ≤ w.heap.size)
    (hgd : o.guard = none) (s x : Operand) (ho : o.op = .call { callee := .builtin .append, args := #[s, x], argTypes := #[71, 9] }) (hs : a.eval s = v) (hx : a.eval x = .string sb)
    (h : ∀ v' w', OwnB B w' v' (bs ++ cs) → w.grownBy w' v.ownBlock → NewOrSame w v v' → wpList Tryd.prog ops Q rest (a.put o.dst v') w') :
    wpList Tryd.prog ops Q (o :: rest) a w := by
  have hsz : sb.size = cs.length := by rw [← hcs, Array.length_toList]; rfl
  have hb : byteCells sb = cs.map BV := by unfold byteCells; rw [hcs]; rfl
  have hsrc := Src.ofString (P := Tryd.prog) (w := w) Tryd.underlying9 sb
  rw [hsz, hb] at hsrc
  exact wpList_append hgd s x 71 9 ho B 5 (.int .u8 0) 1 1 Tryd.underlying71 infoB rfl v bs.length (bs.map BV) hs hown _ cs.length (cs.map BV) hx hsrc (by unfold maxLen; omega) (by omega) hbase
    (fun v' w' h1 h2 h3 h4 => h v' w' (ownB_append h1) h2 h3)
theorem OwnB.below {B : Nat} {W w w' : World} {v : Value} {bs : List UInt8} (h : OwnB B w v bs) (hb : Below B W w) (hg : w.grownBy w' v.ownBlock) (hB : B ≤ w.heap.size) : Below B W w' := below_own hb h hg hB
/-- an empty row in new memory -/
theorem OwnB.made (w : World) : OwnB w.heap.size (w.alloc (.cells #[] 5)) (.slice (some ⟨w.heap.size, 0, none⟩) 0 0) [] :=
  World.ownsRow_made (base := w.heap.size) (e := 5) (size := 1) w #[] 0 (Nat.le_refl _) (Nat.zero_le _) rfl

/-- a row of one byte in new memory -/
theorem OwnB.one (w : World) {u : Value} {b : UInt8} (hu : u = BV b) : OwnB w.heap.size (w.alloc (.cells #[u] 5)) (.slice (some ⟨w.heap.size, 0, none⟩) 1 1) [b] := by
  subst hu
  exact ⟨rfl, .inr ⟨w.heap.size, 1, #[BV b], rfl, Nat.le_refl _, heap_alloc_new w _, Nat.le_refl _, by decide, rfl, rfl⟩⟩

/-- a block of bytes -/
def BlockB (w : World) (g : Nat) (bs : List UInt8) : Prop := w.heap[g]? = some (.cells (bs.map BV).toArray 5 (0, 0))
theorem BlockB.cell {w : World} {g : Nat} {bs : List UInt8} (h : BlockB w g bs) {j : Nat} {x : UInt8} (hj : bs[j]? = some x) : w.cell? ⟨g, j, none⟩ = some (BV x) := by
  rw [cell_of_row w g j _ _ _ h]; simp [hj]
theorem BlockB.free {w : World} {g : Nat} {bs : List UInt8} (h : BlockB w g bs) (j : Nat) : w.frozen? ⟨g, j, none⟩ = false := by
  have h' : w.heap[g]? = _ := h
  simp [World.frozen?, h']
theorem BlockB.set {w : World} {g : Nat} {bs : List UInt8} (h : BlockB w g bs) (j : Nat) (y : UInt8) : BlockB (w.setCell ⟨g, j, none⟩ (BV y)) g (bs.set j y) := by
  have h' := heap_setCell_same w g j _ _ (BV y) h
  unfold BlockB
  rw [h']
  congr 2
  apply Array.ext'
  simp [List.map_set]
theorem BlockB.lt {w : World} {g : Nat} {bs : List UInt8} (h : BlockB w g bs) : g < w.heap.size := lt_of_block h
theorem BlockB.below {B : Nat} {w w' : World} {g : Nat} {bs : List UInt8} (h : BlockB w g bs) (hb : Below B w w') (hg : g < B) : BlockB w' g bs := (hb.block g hg).trans h
theorem BlockB.stays {w w' : World} {g : Nat} {bs : List UInt8} (h : BlockB w g bs) (hb : Below w.heap.size w w') : BlockB w' g bs := h.below hb h.lt
theorem BlockB.own {B : Nat} {w : World} {g c : Nat} {bs cs : List UInt8} (h : BlockB w g (bs ++ cs)) (hB : B ≤ g) (hc : c = bs.length + cs.length) (hm : c ≤ maxLen) : OwnB B w (.slice (some ⟨g, 0, none⟩) bs.length c) bs := by
  subst hc
  exact ⟨by simp, .inr ⟨g, _, _, rfl, hB, h, by omega, hm, by simp, by simp⟩⟩
theorem madeCells_bytes (n : Nat) : madeCells (Value.cells (.int .u8 0)) (n * 1) = ((List.replicate n (b8 0)).map BV).toArray := by
  apply Array.ext
  · simp [madeCells]
  · intro i h1 h2
    simp [madeCells, Value.cells, BV_b8, Nat.mod_one]
/-- make([]byte, l, c) -/
theorem wpList_makeB {w : World} {ops : Array Oper} {rest : List Oper} {o : Oper} {a : Act} {Q : Exit → Act → World → Prop} (hgd : o.guard = none) (l c : Operand) (ho : o.op = Op.makeSlice 71 l c) (kl kc : IntKind) (L C : Int) (n m : Nat)
    (hl : a.eval l = .int kl L) (hc : a.eval c = .int kc C) (hL : L = n) (hC : C = m) (h1 : n ≤ m) (h2 : m ≤ 1000000000)
    (h : ∀ w', BlockB w' w.heap.size (List.replicate m (b8 0)) → Below w.heap.size w w' → wpList Tryd.prog ops Q rest (a.put o.dst (.slice (some ⟨w.heap.size, 0, none⟩) n m)) w') : wpList Tryd.prog ops Q (o :: rest) a w := by
  subst hL
  subst hC
  obtain ⟨i, hi, hz0, hz1, hz2⟩ := info_parts infoB
  have hmk := run_make (P := Tryd.prog) w 71 5 i (.int .u8 0) Tryd.underlying71 hi hz0 kl kc (n : Int) (m : Int) (by omega) (by omega) (by rw [hz2]; omega) (by omega)
  rw [hz1, Int.toNat_natCast, Int.toNat_natCast, madeCells_bytes] at hmk
  refine wpList_plain hgd fun K hK' => ?_
  unfold Oper.wp
  simp only [execOp, ho, hl, hc, Sem.run_bind, hmk, Result.andThen_ok]
  exact hK' _ _ (h _ (heap_alloc_new w _) ((Below.refl _ _).alloc (Nat.le_refl _) _))
/-- copy(dst, src) into a block of bytes -/
theorem wpList_copyB {w : World} {ops : Array Oper} {rest : List Oper} {o : Oper} {a : Act} {Q : Exit → Act → World → Prop} (hgd : o.guard = none) (d s : Operand) (ho : o.op = .call { callee := .builtin .copy, args := #[d, s], argTypes := #[71, 71] })
    (g off dLen dCap : Nat) (hd : a.eval d = .slice (some ⟨g, off, none⟩) dLen dCap) (v : Value) (cs : List UInt8) (hs : a.eval s = v) (hr : RowB w v cs) (hn : cs.length ≤ dLen)
    (cur : List UInt8) (hb : BlockB w g cur) (hfit : off + cs.length ≤ cur.length) (B : Nat) (w0 : World) (hbe : Below B w0 w) (hBg : B ≤ g)
    (h : ∀ w', BlockB w' g (splice cur off cs) → Below B w0 w' → wpList Tryd.prog ops Q rest (a.put o.dst (goInt cs.length)) w') : wpList Tryd.prog ops Q (o :: rest) a w := by
  obtain ⟨sp, sl, sc, rfl, hsl, hpos⟩ : ∃ sp sl sc, v = .slice sp sl sc ∧ sl = cs.length ∧ (0 < cs.length → ∃ ad, sp = some ad ∧ ∀ j u, (cs.map BV)[j]? = some u → w.cell? (ad.add j) = some u) := by
    rcases hr.open with ⟨rfl, a, c, rfl⟩ | ⟨b, o, c, rfl, _, _, _, hc⟩
    · exact ⟨a, 0, c, rfl, rfl, fun h => by simp at h⟩
    · refine ⟨_, _, _, rfl, rfl, fun _ => ⟨_, rfl, fun j u hu => ?_⟩⟩
      rw [List.getElem?_map] at hu
      obtain ⟨x, hx, rfl⟩ := Option.map_eq_some_iff.1 hu
      have hadd : (⟨b, o, none⟩ : Addr).add j = ⟨b, o + j, none⟩ := by unfold Addr.add; split <;> simp_all
      rw [hadd]; exact hc j x hx
  subst hsl
  have hsz1 : (Tryd.prog.info? 5).map (·.size) = some 1 := by
    obtain ⟨i, hi, _, hz1, _⟩ := info_parts infoB
    rw [hi]; exact congrArg some hz1
  refine wpList_copy_splice hgd d s 71 71 ho 5 Tryd.underlying71 hsz1 _ sp dLen dCap cs.length sc hd hs g off (cur.map BV) 5 hb (cs.map BV) (by rw [List.length_map]; exact (Nat.min_eq_left hn).symm) (fun hp => ⟨rfl, hpos (by simpa using hp)⟩) (by simpa using hfit)
    (fun u hu => by obtain ⟨x, _, rfl⟩ := List.mem_map.1 hu; rfl) B w0 hbe hBg ?_
  intro w' h1 h2
  have := h w' (by have h1' := h1.out; unfold BlockB; rw [h1']; simp [splice]) h2
  simpa using this

/-- a row of numbers that is read -/
def RowN (w : World) (v : Value) (ns : List Nat) : Prop := Row w v ns.length (ns.map UV)
def RowZ (w : World) (v : Value) (ns : List Int) : Prop := Row w v ns.length (ns.map IV)
theorem row_of_ints {k : IntKind} {w : World} {x : Addr} {len cap : Nat} {zs : List Int} (hl : len ≤ cap) (hm : cap ≤ maxLen) (hz : zs.length = cap) (hc : ∀ i, i < zs.length → w.cell? (x.add i) = some (.int k (zs.getD i 0))) :
    Row w (.slice (some x) len cap) len ((zs.take len).map (Value.int k)) := by
  rcases Nat.eq_zero_or_pos len with rfl | hp
  · exact .inl ⟨rfl, by simp, some x, cap, rfl⟩
  · obtain ⟨b, off, spot⟩ := x
    have h0 := hc 0 (by omega)
    have hspot : spot = none := by simpa [Addr.add] using World.cell?_spot h0
    subst hspot
    refine .inr ⟨b, off, cap, rfl, hl, hm, World.block_lt_of_cell? w _ (by simpa [Addr.add] using h0), fun j u hu => ?_⟩
    rw [List.getElem?_map, List.getElem?_take] at hu
    split at hu
    · rename_i hj
      have hjz : j < zs.length := by omega
      have hcj := hc j hjz
      rw [List.getElem?_eq_getElem hjz] at hu
      simp only [Option.map_some, Option.some.injEq] at hu
      subst hu
      have hadd : (⟨b, off, none⟩ : Addr).add j = ⟨b, off + j, none⟩ := by unfold Addr.add; split <;> simp_all
      rw [hadd] at hcj
      rw [hcj]
      simp [List.getD_eq_getElem?_getD, List.getElem?_eq_getElem hjz]
    · simp at hu
theorem rowB_of_ints {w : World} {v : Value} {len : Nat} {zs : List Int} (h : Row w v len ((zs.take len).map (Value.int .u8))) (hz : len ≤ zs.length) (hw : ∀ n ∈ zs, (Lit.int .u8 n).wf = true) : ∃ bs : List UInt8, bs.length = len ∧ RowB w v bs := by
  refine ⟨(zs.take len).map fun n => b8 n.toNat, by simp; omega, ?_⟩
  have e : ((zs.take len).map fun n => b8 n.toNat).map BV = (zs.take len).map (Value.int .u8) := by
    rw [List.map_map]
    apply List.map_congr_left
    intro n hn
    have := bounds_u8 (hw n (List.mem_of_mem_take hn))
    show BV (b8 n.toNat) = _
    rw [BV_b8]; congr 1; omega
  unfold RowB
  rw [e, show ((zs.take len).map fun n => b8 n.toNat).length = len from by simp; omega]
  exact h
theorem rowN_of_ints {w : World} {v : Value} {len : Nat} {zs : List Int} (h : Row w v len ((zs.take len).map (Value.int .u64))) (hz : len ≤ zs.length) (hw : ∀ n ∈ zs, (Lit.int .u64 n).wf = true) : ∃ ns : List Nat, ns.length = len ∧ RowN w v ns ∧ ∀ n ∈ ns, (n : Int) ≤ 18446744073709551615 := by
  refine ⟨(zs.take len).map Int.toNat, by simp; omega, ?_, fun n hn => ?_⟩
  · have e : ((zs.take len).map Int.toNat).map UV = (zs.take len).map (Value.int .u64) := by
      rw [List.map_map]
      apply List.map_congr_left
      intro n hn
      have := bounds_u64 (hw n (List.mem_of_mem_take hn))
      show UV n.toNat = _
      unfold UV; congr 1; omega
    unfold RowN
    rw [e, show ((zs.take len).map Int.toNat).length = len from by simp; omega]
    exact h
  · obtain ⟨z, hz1, rfl⟩ := List.mem_map.1 hn
    have := bounds_u64 (hw z (List.mem_of_mem_take hz1))
    omega
theorem rowZ_of_ints {w : World} {v : Value} {len : Nat} {zs : List Int} (h : Row w v len ((zs.take len).map (Value.int .i64))) (hz : len ≤ zs.length) (hw : ∀ n ∈ zs, (Lit.int .i64 n).wf = true) : ∃ ns : List Int, ns.length = len ∧ RowZ w v ns ∧ ∀ n ∈ ns, -9223372036854775808 ≤ n ∧ n ≤ 9223372036854775807 := by
  refine ⟨zs.take len, by simp; omega, ?_, fun n hn => bounds_i64 (hw n (List.mem_of_mem_take hn))⟩
  unfold RowZ
  rw [show (zs.take len).length = len from by simp; omega]
  exact h

/-! ### rows of whatever one-celled elements -/
def OwnL {α : Type} (E : TypeId) (f : α → Value) (B : Nat) (w : World) (v : Value) (xs : List α) : Prop := w.ownsRow B E 1 v xs.length (xs.map f)
def RowL {α : Type} (f : α → Value) (w : World) (v : Value) (xs : List α) : Prop := Row w v xs.length (xs.map f)
section
variable {α : Type} {f : α → Value} {E T : TypeId} {B B' : Nat} {w w' W : World} {v : Value} {xs : List α}
theorem OwnL.row (h : OwnL E f B w v xs) : RowL f w v xs := Row.ofOwn h
theorem OwnL.mono (h : OwnL E f B w v xs) (hB : B' ≤ B) : OwnL E f B' w v xs := own_mono h hB
theorem OwnL.stays (h : OwnL E f B w v xs) (hb : Below w.heap.size w w') : OwnL E f B w' v xs := own_stays h hb
theorem OwnL.alloc (h : OwnL E f B w v xs) (o : Obj) : OwnL E f B (w.alloc o) v xs := World.ownsRow.alloc h o
theorem OwnL.nil (B : Nat) (w : World) : OwnL E f B w (.slice none 0 0) [] := World.ownsRow_nil _ _ _ _
theorem OwnL.below (h : OwnL E f B w v xs) (hb : Below B W w) (hg : w.grownBy w' v.ownBlock) (hB : B ≤ w.heap.size) : Below B W w' := below_own hb h hg hB
theorem OwnL.made (w : World) : OwnL E f w.heap.size (w.alloc (.cells #[] E)) (.slice (some ⟨w.heap.size, 0, none⟩) 0 0) [] := World.ownsRow_made (base := w.heap.size) (e := E) (size := 1) w #[] 0 (Nat.le_refl _) (Nat.zero_le _) rfl
theorem RowL.stays (h : RowL f w v xs) (hb : Below w.heap.size w w') : RowL f w' v xs := Row.stays h hb
theorem RowL.alloc (h : RowL f w v xs) (o : Obj) : RowL f (w.alloc o) v xs := h.stays ((Below.refl _ _).alloc (Nat.le_refl _) o)
theorem RowL.nil (w : World) : RowL f w (.slice none 0 0) [] := .inl ⟨rfl, rfl, none, 0, rfl⟩
theorem RowL.shape (h : RowL f w v xs) : ∃ a c, v = .slice a xs.length c ∧ xs.length ≤ maxLen ∧ ∀ j x, xs[j]? = some x → ∃ b o, a = some ⟨b, o, none⟩ ∧ w.cell? ⟨b, o + j, none⟩ = some (f x) := by
  rcases h with ⟨h1, h2, a, c, rfl⟩ | ⟨b, o, c, rfl, h1, h2, h3, h4⟩
  · obtain rfl : xs = [] := by simpa using h1
    exact ⟨a, c, rfl, Nat.zero_le _, fun j x hx => by simp at hx⟩
  · exact ⟨_, c, rfl, Nat.le_trans h1 h2, fun j x hx => ⟨b, o, rfl, h4 j (f x) (by simp [hx])⟩⟩
/-- a row of the call's own that is not empty: where it lies -/
theorem OwnL.block (h : OwnL E f B w v xs) (hne : xs ≠ []) : ∃ g c, v = .slice (some ⟨g, 0, none⟩) xs.length c ∧ B ≤ g ∧ g < w.heap.size ∧ xs.length ≤ c ∧ (∀ j, w.frozen? ⟨g, j, none⟩ = false) ∧ ∀ j x, xs[j]? = some x → w.cell? ⟨g, j, none⟩ = some (f x) := by
  rcases h.2 with ⟨h1, h2⟩ | ⟨g, cap, cur, h1, h2, h3, h4, h5, h6, h7⟩
  · exact absurd (by simpa using h2) hne
  · refine ⟨g, cap, h1, h2, lt_of_block h3, h4, fun j => by simp [World.frozen?, h3], fun j x hx => ?_⟩
    have hr := h.row
    rcases hr with ⟨_, h9, _⟩ | ⟨b, o, c, hv, _, _, _, hc⟩
    · exact absurd (by simpa using h9) hne
    · rw [h1] at hv
      cases hv
      have := hc j (f x) (by simp [hx])
      simpa using this
/-- one element is written -/
theorem OwnL.set {g n c : Nat} (h : OwnL E f B w (.slice (some ⟨g, 0, none⟩) n c) xs) (j : Nat) (x : α) : OwnL E f B (w.setCell ⟨g, j, none⟩ (f x)) (.slice (some ⟨g, 0, none⟩) n c) (xs.set j x) := by
  rcases h.2 with ⟨h1, h2⟩ | ⟨g', cap, cur, h1, h2, h3, h4, h5, h6, h7⟩
  · cases h1
  · cases h1
    refine ⟨by simp, .inr ⟨g, c, cur.setIfInBounds j (f x), by rw [List.length_set], h2, heap_setCell_same w g j _ _ (f x) h3, by simpa using h4, h5, by simpa using h6, ?_⟩⟩
    rw [Array.toList_setIfInBounds, List.take_set, List.length_set, h7, List.map_set]
/-- one element is appended to a row of the call's own -/
theorem wpList_pushL {P : Program} {ops : Array Oper} {rest : List Oper} {o : Oper} {a : Act} {Q : Exit → Act → World → Prop} (hf : ∀ x : α, (f x).oneCell' = true) {z : Value} {bytes : Nat} (ht : P.underlying T = some (.slice E))
    (hinf : (P.info? E).map (fun i => (i.zero, i.size, i.bytes)) = some (some z, 1, bytes)) (hz : z.cells.size = 1) (hbs : bytes ≤ 1000) (hown : OwnL E f B w v xs) (x : α) (h63 : xs.length ≤ 100000000) (hbase : B ≤ w.heap.size)
    (hgd : o.guard = none) (s y : Operand) (ho : o.op = .call { callee := .builtin .append, args := #[s, y], argTypes := #[T, T] }) (hs : a.eval s = v)
    (u : Value) (e' : TypeId) (c : Nat) (hx : a.eval y = .slice (some ⟨w.heap.size, 0, none⟩) 1 c) (hu : u = f x)
    (h : ∀ v' w', OwnL E f B w' v' (xs ++ [x]) → w.grownBy w' v.ownBlock → NewOrSame w v v' → wpList P ops Q rest (a.put o.dst v') w') :
    wpList P ops Q (o :: rest) a (w.alloc (.cells #[u] e')) := by
  subst hu
  refine wpList_push hgd s y T ho B E z 1 bytes ht hinf hz v xs.length (xs.map f) hs hown #[f x] e' c hx rfl ?_ (by unfold maxLen; omega) ?_ hbase (fun v' w' h1 h2 h3 => h v' w' (own_snoc h1 rfl) h2 h3)
  · simp [hf x]
  · have := Nat.mul_le_mul (show xs.length + 1 ≤ 100000001 by omega) hbs
    omega
/-- elements that are read are appended to a row of the call's own -/
theorem wpList_appendL {P : Program} {ops : Array Oper} {rest : List Oper} {o : Oper} {a : Act} {Q : Exit → Act → World → Prop} (hf : ∀ x : α, (f x).oneCell' = true) {z : Value} {bytes : Nat} (ht : P.underlying T = some (.slice E))
    (hinf : (P.info? E).map (fun i => (i.zero, i.size, i.bytes)) = some (some z, 1, bytes)) (hz : z.cells.size = 1) (hbs : bytes ≤ 1000) (hown : OwnL E f B w v xs) {x' : Value} {ys : List α} (hr : RowL f w x' ys) (h63 : xs.length + ys.length ≤ 100000000) (hbase : B ≤ w.heap.size)
    (hgd : o.guard = none) (s y : Operand) (ho : o.op = .call { callee := .builtin .append, args := #[s, y], argTypes := #[T, T] }) (hs : a.eval s = v) (hx : a.eval y = x')
    (h : ∀ v' w', OwnL E f B w' v' (xs ++ ys) → w.grownBy w' v.ownBlock → NewOrSame w v v' → Hid (v' = .slice none 0 0 ↔ v = .slice none 0 0 ∧ ys.length = 0) → wpList P ops Q rest (a.put o.dst v') w') :
    wpList P ops Q (o :: rest) a w := by
  refine wpList_append hgd s y T T ho B E z 1 bytes ht hinf hz v xs.length (xs.map f) hs hown x' ys.length (ys.map f) hx (Row.src hr ht (by simp) (fun u hu => by obtain ⟨q, _, rfl⟩ := List.mem_map.1 hu; exact hf q)) (by unfold maxLen; omega) ?_ hbase
    (fun v' w' h1 h2 h3 h4 => h v' w' (by unfold OwnL; simpa using h1) h2 h3 h4)
  have := Nat.mul_le_mul h63 hbs
  omega
end
/-! ### pieces -/
theorem row_sliced {w : World} {a : Option Addr} {n c l h : Nat} {xs : List Value} (hr : Row w (.slice a n c) n xs) (hx : xs.length = n) (hl : l ≤ h) (hh : h ≤ n) : Row w (sliced a l h c 1) (h - l) ((xs.take h).drop l) := by
  rcases Nat.eq_or_lt_of_le hl with rfl | hlt
  · refine .inl ⟨by omega, by rw [List.drop_eq_nil_of_le]; simp; omega, ?_⟩
    unfold sliced
    exact ⟨_, _, by rw [Nat.sub_self]⟩
  · rcases hr with ⟨h1, _⟩ | ⟨b, o, c', hv, h1, h2, h3, h4⟩
    · omega
    · cases hv
      have hcl : ¬ c = l := by omega
      refine .inr ⟨b, o + l, c - l, ?_, by omega, by omega, h3, fun j u hu => ?_⟩
      · simp [sliced, hcl, Addr.add_lit]
      · rw [List.getElem?_drop, List.getElem?_take] at hu
        split at hu
        · rw [Nat.add_assoc]; exact h4 (l + j) u hu
        · cases hu
theorem elem_of {P : Program} {t e : TypeId} (ht : P.underlying t = some (.slice e)) : P.elem t = e := by
  simp [Program.elem, ht]
theorem sizeOf_of {P : Program} {w : World} {e : TypeId} {z : Option Value} {s b : Nat} (h : (P.info? e).map (fun i => (i.zero, i.size, i.bytes)) = some (z, s, b)) : (sizeOf e).run P w = .ok s w := by
  obtain ⟨i, hi, h2⟩ := Option.map_eq_some_iff.1 h
  cases h2
  simp [sizeOf, typeInfo, hi]
theorem RowL.to {α : Type} {f : α → Value} {w : World} {a : Option Addr} {c : Nat} {xs : List α} (h : RowL f w (.slice a xs.length c) xs) (m : Nat) (hm : m ≤ xs.length) : RowL f w (.slice a m c) (xs.take m) := by
  have hl : (xs.take m).length = m := by simp; omega
  unfold RowL
  rw [hl]
  rcases h with ⟨h1, h2, _⟩ | ⟨b, o, c', hv, h1, h2, h3, h4⟩
  · obtain rfl : m = 0 := by omega
    exact .inl ⟨rfl, by simp, a, c, rfl⟩
  · cases hv
    refine .inr ⟨b, o, c, rfl, by omega, h2, h3, fun j u hu => h4 j u ?_⟩
    rw [List.getElem?_map, List.getElem?_take] at hu
    rw [List.getElem?_map]
    split at hu
    · exact hu
    · simp at hu
section
variable {α : Type} {f : α → Value} {P : Program} {w : World} {ops : Array Oper} {rest : List Oper} {o : Oper} {a : Act} {Q : Exit → Act → World → Prop} {v : Value} {xs : List α} {T E : TypeId} {z : Option Value} {bytes : Nat}
theorem row_sliced_L {a : Option Addr} {c l h : Nat} (hr : RowL f w (.slice a xs.length c) xs) (hl : l ≤ h) (hh : h ≤ xs.length) : RowL f w (sliced a l h c 1) ((xs.take h).drop l) := by
  have := row_sliced hr (by simp) hl hh
  unfold RowL
  have e : ((xs.take h).drop l).length = h - l := by simp; omega
  rw [e]
  simpa [List.map_drop, List.map_take] using this
/-- a piece, as the model reckons it -/
theorem RowL.part {W : World} {ad : Option Addr} {c l h : Nat} (hr : RowL f W (.slice ad xs.length c) xs) (hl : l ≤ h) (hh : h ≤ xs.length) : RowL f W (.slice (if c = l then ad else ad.map fun x => x.add l) (h - l) (c - l)) ((xs.take h).drop l) := by
  have := row_sliced_L hr hl hh
  simpa [sliced] using this
theorem RowL.cap {W : World} {ad : Option Addr} {c : Nat} (hr : RowL f W (.slice ad xs.length c) xs) : xs.length ≤ c := by
  rcases hr with ⟨h1, _⟩ | ⟨b, o, c', hv, h1, _⟩
  · omega
  · cases hv; exact h1
/-- x[l:] -/
theorem wpList_sliceFrom {W : World} (hr : RowL f W v xs) (l : Nat) (hl : l ≤ xs.length) (ht : P.underlying T = some (.slice E)) (hinf : (P.info? E).map (fun i => (i.zero, i.size, i.bytes)) = some (z, 1, bytes))
    (hgd : o.guard = none) (x lo : Operand) (ho : o.op = Op.slice T x (some lo) none none) (hx : a.eval x = v) (k : IntKind) (L : Int) (hlo : a.eval lo = .int k L) (hL : L = l)
    (h : ∀ v', RowL f W v' (xs.drop l) → wpList P ops Q rest (a.put o.dst v') w) : wpList P ops Q (o :: rest) a w := by
  obtain ⟨ad, c, rfl, _, _⟩ := hr.shape
  have hlc : xs.length ≤ c ∨ xs.length = 0 := by
    rcases hr with ⟨h1, _⟩ | ⟨b, o, c', hv, h1, _⟩
    · exact .inr h1
    · cases hv; exact .inl h1
  have ht' : P.underlying T = some (.slice (P.elem T)) := by rw [elem_of ht]; exact ht
  have hrun := run_slice_l (P := P) w T ad xs.length c ht' k L (by omega) (by omega)
  have hs := sizeOf_of (P := P) (w := w) hinf
  rw [elem_of ht, hs] at hrun
  simp only [Result.andThen_ok] at hrun
  rw [hL, Int.toNat_natCast] at hrun
  have hrow := row_sliced_L hr hl (Nat.le_refl _)
  rw [List.take_length] at hrow
  refine wpList_plain hgd fun K hK' => ?_
  unfold Oper.wp
  have := hK' _ _ (h _ hrow)
  simp only [execOp, ho, hx, hlo, hL, Option.map, run_sliceAt_slice w _ _ _ _ _ ht', hrun, Sem.run_bind, Sem.run_pure, Result.andThen_ok]
  exact this
/-- x[:h] -/
theorem wpList_sliceTo {W : World} (hr : RowL f W v xs) (m : Nat) (hm : m ≤ xs.length) (ht : P.underlying T = some (.slice E)) (hinf : (P.info? E).map (fun i => (i.zero, i.size, i.bytes)) = some (z, 1, bytes))
    (hgd : o.guard = none) (x hi : Operand) (ho : o.op = Op.slice T x none (some hi) none) (hx : a.eval x = v) (k' : IntKind) (H : Int) (hhi : a.eval hi = .int k' H) (hH : H = m)
    (h : ∀ v', RowL f W v' (xs.take m) → wpList P ops Q rest (a.put o.dst v') w) : wpList P ops Q (o :: rest) a w := by
  obtain ⟨ad, c, rfl, _, _⟩ := hr.shape
  have hlc : xs.length ≤ c ∨ xs.length = 0 := by
    rcases hr with ⟨h1, _⟩ | ⟨b, o, c', hv, h1, _⟩
    · exact .inr h1
    · cases hv; exact .inl h1
  have ht' : P.underlying T = some (.slice (P.elem T)) := by rw [elem_of ht]; exact ht
  have hrun := run_slice_h (P := P) w T ad xs.length c ht' k' H (by omega) (by omega)
  have hs := sizeOf_of (P := P) (w := w) hinf
  rw [elem_of ht, hs] at hrun
  simp only [Result.andThen_ok] at hrun
  rw [hH, Int.toNat_natCast] at hrun
  have hrow := row_sliced_L hr (Nat.zero_le _) hm
  rw [List.drop_zero] at hrow
  refine wpList_plain hgd fun K hK' => ?_
  unfold Oper.wp
  have := hK' _ _ (h _ hrow)
  simp only [execOp, ho, hx, hhi, hH, Option.map, run_sliceAt_slice w _ _ _ _ _ ht', hrun, Sem.run_bind, Sem.run_pure, Result.andThen_ok]
  exact this
/-- x[l:h] -/
theorem wpList_slicePart {W : World} (hr : RowL f W v xs) (l m : Nat) (hlm : l ≤ m) (hm : m ≤ xs.length) (ht : P.underlying T = some (.slice E)) (hinf : (P.info? E).map (fun i => (i.zero, i.size, i.bytes)) = some (z, 1, bytes))
    (hgd : o.guard = none) (x lo hi : Operand) (ho : o.op = Op.slice T x (some lo) (some hi) none) (hx : a.eval x = v) (k : IntKind) (L : Int) (hlo : a.eval lo = .int k L) (hL : L = l) (k' : IntKind) (H : Int) (hhi : a.eval hi = .int k' H) (hH : H = m)
    (h : ∀ v', RowL f W v' ((xs.take m).drop l) → wpList P ops Q rest (a.put o.dst v') w) : wpList P ops Q (o :: rest) a w := by
  obtain ⟨ad, c, rfl, _, _⟩ := hr.shape
  have hlc : xs.length ≤ c ∨ xs.length = 0 := by
    rcases hr with ⟨h1, _⟩ | ⟨b, o, c', hv, h1, _⟩
    · exact .inr h1
    · cases hv; exact .inl h1
  have ht' : P.underlying T = some (.slice (P.elem T)) := by rw [elem_of ht]; exact ht
  have hrun := run_slice_lh (P := P) w T ad xs.length c ht' k k' L H (by omega) (by omega) (by omega)
  have hs := sizeOf_of (P := P) (w := w) hinf
  rw [elem_of ht, hs] at hrun
  simp only [Result.andThen_ok] at hrun
  rw [hL, hH, Int.toNat_natCast, Int.toNat_natCast] at hrun
  have hrow := row_sliced_L hr hlm hm
  refine wpList_plain hgd fun K hK' => ?_
  unfold Oper.wp
  have := hK' _ _ (h _ hrow)
  simp only [execOp, ho, hx, hlo, hL, hhi, hH, Option.map, run_sliceAt_slice w _ _ _ _ _ ht', hrun, Sem.run_bind, Sem.run_pure, Result.andThen_ok]
  exact this
end
theorem UV_def (n : Nat) : UV n = .int .u64 (n : Int) := rfl
theorem IV_def (n : Int) : IV n = .int .i64 n := rfl
theorem UV_one (n : Nat) : (UV n).oneCell' = true := rfl
theorem IV_one (n : Int) : (IV n).oneCell' = true := rfl
theorem RowN.gen {w : World} {v : Value} {ns : List Nat} (h : RowN w v ns) : RowL UV w v ns := h
theorem RowZ.gen {w : World} {v : Value} {ns : List Int} (h : RowZ w v ns) : RowL IV w v ns := h
theorem RowB.gen {w : World} {v : Value} {ns : List UInt8} (h : RowB w v ns) : RowL BV w v ns := h
/-- a piece of bytes that are read -/
theorem RowB.drop {w : World} {b o c : Nat} {bs : List UInt8} (h : RowB w (.slice (some ⟨b, o, none⟩) bs.length c) bs) (k : Nat) (hk : k ≤ bs.length) (hn : 0 < bs.length) : RowB w (.slice (some ⟨b, o + k, none⟩) (bs.length - k) (c - k)) (bs.drop k) := by
  rcases h with ⟨h1, _⟩ | ⟨b', o', c', hv, h1, h2, h3, h4⟩
  · omega
  · cases hv
    refine .inr ⟨b, o + k, c - k, by simp, by simp; omega, by omega, h3, fun j u hu => ?_⟩
    rw [List.getElem?_map, List.getElem?_drop] at hu
    have := h4 (k + j) u (by rw [List.getElem?_map]; exact hu)
    rw [Nat.add_assoc]; exact this

/-! ### sentinel errors: number k's value -/
end Go.Proofs.YtcjflglpkpkflaaDoor
