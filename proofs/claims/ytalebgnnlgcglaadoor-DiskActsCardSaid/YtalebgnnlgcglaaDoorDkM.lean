/- Disks in memory: the program's (a row of sectors, a map of written ones), and the document's (two rows of writes). -/
import Derived.Test.YtalebgnnlgcglaaDoorDkA
import Derived.Test.YtalebgnnlgcglaaDoorMapI
import Derived.Test.YtalebgnnlgcglaaDoorSrows
import Derived.Test.YtalebgnnlgcglaaDoorGrew
import Derived.Test.YtalebgnnlgcglaaDoorStr
import Derived.Deep.MidRow
namespace Go.Proofs.YtalebgnnlgcglaaDoor
open Go Go.RowKit
set_option linter.unusedVariables false
def secC (s : List UInt8) : List Value := s.map BV
def secV (s : List UInt8) : Value := .agg (secC s).toArray
theorem secC_len (s : List UInt8) : (secC s).length = s.length := by simp [secC]
theorem secC_one (s : List UInt8) : ∀ v ∈ secC s, v.oneCell' = true := fun v hv => by obtain ⟨b, _, rfl⟩ := List.mem_map.1 hv; rfl
/-! ### cells of one length: sectors -/
theorem secs_get : ∀ (xs : List (List UInt8)), (∀ s ∈ xs, s.length = 64) → ∀ (i j : Nat) (s : List UInt8), xs[i]? = some s → j < 64 → (xs.flatMap secC)[i * 64 + j]? = (secC s)[j]?
  | [], _, i, j, x, h, _ => by simp at h
  | y :: ys, hl, 0, j, x, h, hj => by
    obtain rfl : y = x := by simpa using h
    rw [List.flatMap_cons, Nat.zero_mul, Nat.zero_add, List.getElem?_append_left (by rw [secC_len, hl y (by simp)]; exact hj)]
  | y :: ys, hl, i + 1, j, x, h, hj => by
    have hy := hl y (by simp)
    rw [List.flatMap_cons, List.getElem?_append_right (by rw [secC_len, hy, Nat.succ_mul]; omega), secC_len, hy, show (i + 1) * 64 + j - 64 = i * 64 + j from by omega]
    exact secs_get ys (fun s hs => hl s (by simp [hs])) i j x (by simpa using h) hj
theorem secs_len : ∀ (xs : List (List UInt8)), (∀ s ∈ xs, s.length = 64) → (xs.flatMap secC).length = xs.length * 64
  | [], _ => rfl
  | x :: xs, h => by rw [List.flatMap_cons, List.length_append, secC_len, h x (by simp), secs_len xs (fun s hs => h s (by simp [hs])), List.length_cons]; omega
theorem secs_set : ∀ (xs : List (List UInt8)), (∀ s ∈ xs, s.length = 64) → ∀ (i j : Nat) (s : List UInt8) (b : UInt8), xs[i]? = some s → j < 64 → (xs.flatMap secC).set (i * 64 + j) (BV b) = (xs.set i (s.set j b)).flatMap secC
  | [], _, i, j, x, b, h, _ => by simp at h
  | y :: ys, hl, 0, j, x, b, h, hj => by
    obtain rfl : y = x := by simpa using h
    rw [List.flatMap_cons, Nat.zero_mul, Nat.zero_add, List.set_append_left _ _ (by rw [secC_len, hl y (by simp)]; exact hj), List.set_cons_zero, List.flatMap_cons]
    unfold secC; rw [List.map_set]
  | y :: ys, hl, i + 1, j, x, b, h, hj => by
    have hy := hl y (by simp)
    rw [List.flatMap_cons, List.set_append_right _ _ (by rw [secC_len, hy, Nat.succ_mul]; omega), secC_len, hy, show (i + 1) * 64 + j - 64 = i * 64 + j from by omega, List.set_cons_succ, List.flatMap_cons,
      secs_set ys (fun s hs => hl s (by simp [hs])) i j x b (by simpa using h) hj]
/-- many cells of a list are set -/
def setAll {α : Type} : List α → Nat → List α → List α
  | l, _, [] => l
  | l, o, v :: r => setAll (l.set o v) (o + 1) r
theorem setAll_len {α : Type} : ∀ (vs l : List α) (o : Nat), (setAll l o vs).length = l.length
  | [], _, _ => rfl
  | v :: r, l, o => by rw [setAll, setAll_len r, List.length_set]
theorem setAll_eq {α : Type} : ∀ (vs l : List α) (o : Nat), o + vs.length ≤ l.length → setAll l o vs = l.take o ++ vs ++ l.drop (o + vs.length)
  | [], l, o, h => by simp [setAll]
  | v :: r, l, o, h => by
    have h1 : o < l.length := by simp at h; omega
    rw [setAll, setAll_eq r _ _ (by simp at h ⊢; omega), List.take_add_one, List.getElem?_set_self h1, List.take_set_of_le (Nat.le_refl _), List.drop_set_of_lt (by omega)]
    simp only [Option.toList, List.append_assoc, List.singleton_append, List.length_cons, show o + 1 + r.length = o + (r.length + 1) from by omega]
theorem set_same {α : Type} {l : List α} {i : Nat} {x : α} (h : l[i]? = some x) : l.set i x = l := by
  apply List.ext_getElem?
  intro j
  rw [List.getElem?_set]
  split
  · rename_i e; subst e
    have := (List.getElem?_eq_some_iff.1 h).1
    rw [if_pos this, h]
  · rfl
theorem secs_setAll : ∀ (bs : List UInt8) (xs : List (List UInt8)), (∀ s ∈ xs, s.length = 64) → ∀ (i j : Nat) (s : List UInt8), xs[i]? = some s → j + bs.length ≤ 64 → setAll (xs.flatMap secC) (i * 64 + j) (secC bs) = (xs.set i (setAll s j bs)).flatMap secC
  | [], xs, hl, i, j, s, h, hj => by
    rw [show secC ([] : List UInt8) = [] from rfl, setAll, setAll, set_same h]
  | b :: bs, xs, hl, i, j, s, h, hj => by
    have hlt := (List.getElem?_eq_some_iff.1 h).1
    have hs := hl s (List.mem_of_getElem? h)
    rw [show secC (b :: bs) = BV b :: secC bs from rfl, setAll, secs_set xs hl i j s b h (by simp at hj; omega), Nat.add_assoc,
      secs_setAll bs (xs.set i (s.set j b)) (fun t ht => by
        rcases List.mem_or_eq_of_mem_set ht with h' | rfl
        · exact hl t h'
        · rw [List.length_set]; exact hs) i (j + 1) (s.set j b) (List.getElem?_set_self hlt) (by simp at hj; omega), List.set_set]
    rfl
theorem CellsAt.setCells {g : Nat} {T : TypeId} : ∀ (vs : List Value) (o : Nat) {w : World} {l : List Value}, CellsAt w g T l.toArray → CellsAt (w.setCells g o vs) g T (setAll l o vs).toArray
  | [], _, _, _, h => h
  | v :: r, o, w, l, h => by
    rw [World.setCells, setAll]
    refine CellsAt.setCells r (o + 1) ?_
    have := h.set o v
    rwa [List.setIfInBounds_toArray] at this
theorem grew_setCells {S : List Nat} {g : Nat} {a : World} (hg : g ∈ S ∨ a.heap.size ≤ g) : ∀ (vs : List Value) (o : Nat) {w : World}, Grew S a w → Grew S a (w.setCells g o vs)
  | [], _, _, h => h
  | v :: r, o, w, h => grew_setCells hg r (o + 1) (h.setCell (p := ⟨g, o, none⟩) hg v)
/-! ### the program's disk -/
structure Dk (w : World) (g gd gm : Nat) (d : Dm) : Prop where
  cells : CellsAt w g 60 #[.slice (some ⟨gd, 0, none⟩) d.dur.length d.dur.length, .map (some gm), .int .i64 d.fuse, .int .i64 d.writes]
  dur : CellsAt w gd 63 (d.dur.flatMap secC).toArray
  wr : MapI Tryd.prog 3 w gm d.writes (fun a => (d.wr a).map secV)
  ok : d.Ok
  small : d.writes ≤ 1000000
theorem CellsAt.ne {w : World} {g g' : Nat} {T T' : TypeId} {cs cs' : Array Value} (h : CellsAt w g T cs) (h' : CellsAt w g' T' cs') (hT : T ≠ T') : g ≠ g' := fun e => by
  subst e
  unfold CellsAt at h h'
  rw [h] at h'
  cases h'
  exact hT rfl
theorem MapI.grew {P : Program} {K : TypeId} {w w' : World} {b n : Nat} {f : Int → Option Value} {S : List Nat} (h : MapI P K w b n f) (hg : Grew S w w') (hn : b ∉ S) : MapI P K w' b n f := by
  obtain ⟨D, ⟨es, clock, hb, r⟩, h2⟩ := h
  exact ⟨D, ⟨es, clock, (hg.block b (lt_of_block hb) hn).trans hb, r⟩, h2⟩
theorem Dk.grew {w w' : World} {g gd gm : Nat} {d : Dm} {S : List Nat} (h : Dk w g gd gm d) (hg : Grew S w w') (h1 : g ∉ S) (h2 : gd ∉ S) (h3 : gm ∉ S) : Dk w' g gd gm d :=
  ⟨h.cells.grew hg h1, h.dur.grew hg h2, h.wr.grew hg h3, h.ok, h.small⟩
theorem Dk.stays {w w' : World} {g gd gm : Nat} {d : Dm} (h : Dk w g gd gm d) (hb : Below w.heap.size w w') : Dk w' g gd gm d := h.grew (Grew.ofBelow (S := []) hb) (by simp) (by simp) (by simp)
theorem Dk.lt {w : World} {g gd gm : Nat} {d : Dm} (h : Dk w g gd gm d) : g < w.heap.size ∧ gd < w.heap.size ∧ gm < w.heap.size := ⟨h.cells.lt, h.dur.lt, h.wr.lt⟩
theorem Dk.apart {w : World} {g gd gm : Nat} {d : Dm} (h : Dk w g gd gm d) : g ≠ gd ∧ gm ≠ g ∧ gm ≠ gd := ⟨h.cells.ne h.dur (by decide), h.wr.block_ne h.cells, h.wr.block_ne h.dur⟩
/-- a sector's cells -/
theorem Dk.range {w : World} {g gd gm : Nat} {d : Dm} (h : Dk w g gd gm d) {i : Nat} {s : List UInt8} (hs : d.dur[i]? = some s) : w.rangeAt gd (i * 64) (secC s) := fun j v hv => by
  have hj : j < 64 := by have := (List.getElem?_eq_some_iff.1 hv).1; rw [secC_len, h.ok.len s (List.mem_of_getElem? hs)] at this; exact this
  refine h.dur.cell _ ?_
  rw [List.getElem?_toArray, secs_get d.dur h.ok.len i j s hs hj]
  exact hv
theorem Dk.there {w : World} {g gd gm : Nat} {d : Dm} (h : Dk w g gd gm d) {i : Nat} {s : List UInt8} (hs : d.dur[i]? = some s) : w.there gd (i * 64) 64 := fun j hj => by
  have hl := h.ok.len s (List.mem_of_getElem? hs)
  have hc := h.range hs j _ (List.getElem?_eq_getElem (by rw [secC_len, hl]; exact hj))
  exact ⟨by rw [hc]; rfl, h.dur.free _⟩
theorem secs_put {w : World} {gd : Nat} {T : TypeId} {dur : List (List UInt8)} (h : CellsAt w gd T (dur.flatMap secC).toArray) (hl : ∀ s ∈ dur, s.length = 64) {i : Nat} (hi : i < dur.length) (s' : List UInt8) (hs' : s'.length = 64) :
    CellsAt (w.setCells gd (i * 64) (secC s')) gd T ((dur.set i s').flatMap secC).toArray := by
  have h1 := CellsAt.setCells (secC s') (i * 64) h
  have hs := List.getElem?_eq_getElem hi
  have h2 := secs_setAll s' dur hl i 0 _ hs (by omega)
  rw [Nat.add_zero] at h2
  have h3 := hl _ (List.mem_of_getElem? hs)
  rw [setAll_eq s' _ 0 (by omega), List.take_zero, List.nil_append, Nat.zero_add, List.drop_of_length_le (by omega), List.append_nil] at h2
  rw [h2] at h1
  exact h1
/-! ### the document's disk -/
def wrC (p : Int × List UInt8) : List Value := [.int .i64 p.1, .string (strB p.2)]
theorem wrC_len (p : Int × List UInt8) : (wrC p).length = 2 := rfl
theorem wrC_one (p : Int × List UInt8) : (wrC p).all Value.oneCell' = true := rfl
abbrev OwnW (B : Nat) (w : World) (v : Value) (l : List (Int × List UInt8)) : Prop := OwnS 76 2 wrC B w v l
structure Rk (w : World) (B h N : Nat) (m : Lm) (vd vw : Value) : Prop where
  cells : CellsAt w h 48 #[.int .i64 m.size, vd, vw, .int .i64 m.fuse, .int .i64 m.writes]
  dur : OwnW B w vd m.dur
  wait : OwnW B w vw m.wait
  lens : m.dur.length + m.wait.length ≤ N
  small : N ≤ 1000000
/-- both disks have the same -/
def Rd2 (w : World) (B h N : Nat) (d : Dm) : Prop := ∃ m vd vw, Rk w B h N m vd vw ∧ Sim d m ∧ ∀ p ∈ m.wait, p.2.length = 64
theorem OwnS.grew {α : Type} {E : TypeId} {size : Nat} {cs : α → List Value} {B : Nat} {w w' : World} {v : Value} {xs : List α} {S : List Nat} (h : OwnS E size cs B w v xs) (hg : Grew S w w') (hn : ∀ k, v.ownBlock = some k → k ∉ S) : OwnS E size cs B w' v xs :=
  ⟨h.1, h.2.imp id fun ⟨g, cap, cur, h1, h2, h3, h4⟩ => ⟨g, cap, cur, h1, h2, (hg.block g (lt_of_block h3) (hn g (by subst h1; rfl))).trans h3, h4⟩⟩
theorem OwnS.ne {α : Type} {E : TypeId} {size : Nat} {cs : α → List Value} {B : Nat} {w : World} {v : Value} {xs : List α} {g : Nat} {T : TypeId} {c : Array Value} (h : OwnS E size cs B w v xs) (hc : CellsAt w g T c) (hT : E ≠ T) : ∀ k, v.ownBlock = some k → k ≠ g := fun k hk e => by
  subst e
  rcases h.2 with ⟨h1, _⟩ | ⟨g, cap, cur, h1, h2, h3, h4⟩
  · subst h1; simp [Value.ownBlock] at hk
  · subst h1
    simp [Value.ownBlock] at hk
    subst hk
    unfold CellsAt at hc
    rw [h3] at hc
    cases hc
    exact hT rfl
theorem OwnS.neMap {α : Type} {E : TypeId} {size : Nat} {cs : α → List Value} {B : Nat} {w : World} {v : Value} {xs : List α} {P : Program} {K : TypeId} {b n : Nat} {f : Int → Option Value} (h : OwnS E size cs B w v xs) (hm : MapI P K w b n f) : ∀ k, v.ownBlock = some k → k ≠ b := fun k hk e => by
  subst e
  rcases h.2 with ⟨h1, _⟩ | ⟨g, cap, cur, h1, h2, h3, h4⟩
  · subst h1; simp [Value.ownBlock] at hk
  · subst h1
    simp [Value.ownBlock] at hk
    subst hk
    exact hm.block_ne h3 rfl
theorem Rk.grew {w w' : World} {B h N : Nat} {m : Lm} {vd vw : Value} {S : List Nat} (r : Rk w B h N m vd vw) (hg : Grew S w w') (h1 : h ∉ S) (h2 : ∀ k, vd.ownBlock = some k → k ∉ S) (h3 : ∀ k, vw.ownBlock = some k → k ∉ S) : Rk w' B h N m vd vw :=
  ⟨r.cells.grew hg h1, r.dur.grew hg h2, r.wait.grew hg h3, r.lens, r.small⟩
theorem Rd2.stays {w w' : World} {B h N : Nat} {d : Dm} (r : Rd2 w B h N d) (hb : Below w.heap.size w w') : Rd2 w' B h N d := by
  obtain ⟨m, vd, vw, r1, r2, r3⟩ := r
  exact ⟨m, vd, vw, r1.grew (Grew.ofBelow (S := []) hb) (by simp) (by simp) (by simp), r2, r3⟩
theorem Rd2.lt {w : World} {B h N : Nat} {d : Dm} (r : Rd2 w B h N d) : h < w.heap.size := by
  obtain ⟨m, vd, vw, r1, r2, r3⟩ := r
  exact r1.cells.lt
theorem Rd2.mono {w : World} {B h N N' : Nat} {d : Dm} (r : Rd2 w B h N d) (hN : N ≤ N') (hs : N' ≤ 1000000) : Rd2 w B h N' d := by
  obtain ⟨m, vd, vw, r1, r2, r3⟩ := r
  exact ⟨m, vd, vw, ⟨r1.cells, r1.dur, r1.wait, Nat.le_trans r1.lens hN, hs⟩, r2, r3⟩
/-- what the program's disk writes leaves the document's as it is -/
theorem Rd2.past {w w' : World} {B h N : Nat} {d d' : Dm} {g gd gm : Nat} (r : Rd2 w B h N d) (k : Dk w g gd gm d') (hg : Grew [g, gd, gm] w w') : Rd2 w' B h N d := by
  obtain ⟨m, vd, vw, r1, r2, r3⟩ := r
  refine ⟨m, vd, vw, r1.grew hg ?_ ?_ ?_, r2, r3⟩
  · have a1 := r1.cells.ne k.cells (by decide)
    have a2 := r1.cells.ne k.dur (by decide)
    have a3 := k.wr.block_ne r1.cells
    simp [a1, a2, Ne.symm a3]
  · intro q hq
    have a1 := r1.dur.ne k.cells (by decide) q hq
    have a2 := r1.dur.ne k.dur (by decide) q hq
    have a3 := r1.dur.neMap k.wr q hq
    simp [a1, a2, a3]
  · intro q hq
    have a1 := r1.wait.ne k.cells (by decide) q hq
    have a2 := r1.wait.ne k.dur (by decide) q hq
    have a3 := r1.wait.neMap k.wr q hq
    simp [a1, a2, a3]
/-- what the document's disk writes leaves the program's as it is -/
theorem Dk.past {w w' : World} {B h N : Nat} {d d' : Dm} {g gd gm : Nat} (k : Dk w g gd gm d') (r : Rd2 w B h N d) (hg : Grew [h] w w') : Dk w' g gd gm d' := by
  obtain ⟨m, vd, vw, r1, r2, r3⟩ := r
  have a1 := r1.cells.ne k.cells (by decide)
  have a2 := r1.cells.ne k.dur (by decide)
  have a3 := k.wr.block_ne r1.cells
  exact k.grew hg (by simp [Ne.symm a1]) (by simp [Ne.symm a2]) (by simp [a3])
end Go.Proofs.YtalebgnnlgcglaaDoor
