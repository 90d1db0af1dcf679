/- An element appended at a step of a region that draws its order; rows whose elements lead to rows of their own. -/
import Derived.Test.YtcjflglpkpkflaaDoorVn
import Derived.Deep.RegionHeld3
import Derived.Deep.DrawnRows
import Derived.Deep.RegionLaw
namespace Go.Proofs.YtcjflglpkpkflaaDoor
open Go Go.RowKit
set_option linter.unusedVariables false
attribute [local go_sem ↓] Go.wp_at_zero Go.wp_at_succ
/-- one element is appended, at a step of a region that draws its order -/
theorem step_pushS {α : Type} {cs : α → List Value} {E T : TypeId} {size B : Nat} {w : World} {v : Value} {xs : List α} {P : Program} {ops : Array Oper} {o : Oper} {a : Act} {K : Act → World → Prop} {Q : Exit → Act → World → Prop} {EE : Prop} (hcs : ∀ x, (cs x).length = size) (hf : ∀ x : α, (cs x).all Value.oneCell' = true) {z : Value} {bytes : Nat} (ht : P.underlying T = some (.slice E))
    (hinf : (P.info? E).map (fun i => (i.zero, i.size, i.bytes)) = some (some z, size, bytes)) (hz : z.cells.size = size) (hbs : bytes ≤ 1000) (hown : OwnS E size cs B w v xs) (x : α) (h63 : xs.length ≤ 100000000) (hbase : B ≤ w.heap.size)
    (hgd : o.guard = none) (s y : Operand) (ho : o.op = .call { callee := .builtin .append, args := #[s, y], argTypes := #[T, T] }) (hs : a.eval s = v)
    (us : Array Value) (e' : TypeId) (c : Nat) (hx : a.eval y = .slice (some ⟨w.heap.size, 0, none⟩) 1 c) (hu : us.toList = cs x)
    (h : ∀ v' w', OwnS E size cs B w' v' (xs ++ [x]) → w.grownBy w' v.ownBlock → NewOrSame w v v' → K (a.put o.dst v') w') :
    if Region.wanted o (yielded ops a.tmps) = true then Oper.wp P o a (w.alloc (.cells us e')) K Q else EE := by
  have hw : Region.wanted o (yielded ops a.tmps) = true := by simp [Region.wanted, hgd]
  rw [if_pos hw]
  obtain ⟨i, hi, hz0, hz1, hz2⟩ := info_parts hinf
  have hul : us.size = size := by rw [← Array.length_toList, hu, hcs]
  have hsrc : Src P size T (.slice (some ⟨w.heap.size, 0, none⟩) 1 c) 1 us.toList (w.alloc (.cells us e')) := by
    refine Src.ofSlice _ ht ⟨w.heap.size, 0, none⟩ 1 c us.toList (by simpa using hul) ?_ (fun u hq => List.all_eq_true.1 (hf x) u (by rw [← hu]; exact hq))
    intro j u hj
    have hadd : (⟨w.heap.size, 0, none⟩ : Addr).add j = ⟨w.heap.size, j, none⟩ := by unfold Addr.add; split <;> simp_all
    rw [hadd, cell_of_row (w.alloc (.cells us e')) w.heap.size j us e' (0, 0) (heap_alloc_new w _)]
    simpa using hj
  have hby : (xs.length + 1) * bytes ≤ 140737488355328 := by
    have := Nat.mul_le_mul (show xs.length + 1 ≤ 100000001 by omega) hbs
    omega
  obtain ⟨v', w', h1, h2, h3, h4, h5⟩ := run_append_src (w.alloc (.cells us e')) B T T o.type E i z size bytes ht hi hz0 hz1 hz2 hz v xs.length (xs.flatMap cs) (World.ownsRow.alloc hown _) _ 1 us.toList hsrc (by unfold maxLen; omega) hby (by simp; omega)
  refine Lib.wp_append_run _ s y T T ho v _ hs hx v' w' h1 (h v' w' ?_ (grownBy_trans (World.grownBy_alloc w _ _) h3) (fun k hk => ?_))
  · unfold OwnS
    rw [hu] at h2
    simpa using h2
  · rcases h4 k hk with h' | h'
    · exact .inl h'
    · exact .inr (by simp at h'; omega)
theorem own_grown {B : Nat} {w w' : World} {v : Value} {e : TypeId} {size n : Nat} {xs : List Value} {row : Option Nat} (h : w.ownsRow B e size v n xs) (hg : w.grownBy w' row) (hne : ∀ k, v.ownBlock = some k → row ≠ some k) : w'.ownsRow B e size v n xs :=
  ⟨h.1, h.2.imp id fun ⟨g, cap, cur, h1, h2, h3, h4⟩ => ⟨g, cap, cur, h1, h2, (hg.block g (lt_of_block h3) (fun e => hne g (by subst h1; rfl) e.symm)).trans h3, h4⟩⟩

/-- what is told of an element, of its rows' blocks -/
structure RepLike {α : Type} (R : (Nat → Prop) → World → α → Prop) : Prop where
  mono : ∀ {S S' : Nat → Prop} {w : World} {x : α}, R S w x → (∀ k, S k → S' k) → R S' w x
  lt : ∀ {S : Nat → Prop} {w : World} {x : α}, R S w x → R (fun k => S k ∧ k < w.heap.size) w x
  grew : ∀ {S : Nat → Prop} {T : List Nat} {w w' : World} {x : α}, R S w x → Grew T w w' → (∀ k, S k → k ∉ T) → R S w' x
def RF (S : Nat → Prop) (w : World) (p : Int × (V × A3)) : Prop := i64 p.1 ∧ Rep S w p.2.1 p.2.2
def RL (S : Nat → Prop) (w : World) (p : V × A3) : Prop := Rep S w p.1 p.2
def RP (S : Nat → Prop) (w : World) (p : (V × A3) × (V × A3)) : Prop := Rep S w p.1.1 p.1.2 ∧ Rep S w p.2.1 p.2.2
theorem likeF : RepLike RF := ⟨fun h hS => ⟨h.1, h.2.mono hS⟩, fun h => ⟨h.1, h.2.lt⟩, fun h hg hT => ⟨h.1, h.2.grew hg hT⟩⟩
theorem likeL : RepLike RL := ⟨fun h hS => Rep.mono h hS, fun h => Rep.lt h, fun h hg hT => Rep.grew h hg hT⟩
theorem likeP : RepLike RP := ⟨fun h hS => ⟨h.1.mono hS, h.2.mono hS⟩, fun h => ⟨h.1.lt, h.2.lt⟩, fun h hg hT => ⟨h.1.grew hg hT, h.2.grew hg hT⟩⟩
/-- a row of the call's own, whose elements lead to other blocks of the call's own -/
def OfR {α : Type} (E : TypeId) (size : Nat) (cs : α → List Value) (R : (Nat → Prop) → World → α → Prop) (B : Nat) (w : World) (v : Value) (xs : List α) : Prop :=
  OwnS E size cs B w v xs ∧ ∀ p ∈ xs, R (fun k => B ≤ k ∧ v.ownBlock ≠ some k) w p
section
variable {α : Type} {E : TypeId} {size : Nat} {cs : α → List Value} {R : (Nat → Prop) → World → α → Prop} {B : Nat} {w w' w6 w7 : World} {v v7 : Value} {xs : List α}
theorem OfR.nil (B : Nat) (w : World) : OfR E size cs R B w (.slice none 0 0) [] := ⟨OwnS.nil B w, fun p hp => by cases hp⟩
theorem OfR.row (h : OfR E size cs R B w v xs) : RowS cs w v xs := OwnS.row h.1
theorem OfR.grew (hR : RepLike R) (h : OfR E size cs R B w v xs) {T : List Nat} (hg : Grew T w w') (hT : ∀ k ∈ T, k < B ∨ w.heap.size ≤ k) : OfR E size cs R B w' v xs := by
  have hlt := h.1.lt
  refine ⟨?_, fun p hp => ?_⟩
  · have := h.1
    rcases this.2 with ⟨h1, h2⟩ | ⟨g, cap, cur, h1, h2, h3, h4, h5, h6, h7⟩
    · exact ⟨this.1, .inl ⟨h1, h2⟩⟩
    · have hgl := lt_of_block h3
      refine ⟨this.1, .inr ⟨g, cap, cur, h1, h2, (hg.block g hgl (fun hm => ?_)).trans h3, h4, h5, h6, h7⟩⟩
      rcases hT g hm with h8 | h8 <;> omega
  · exact hR.mono (hR.grew (hR.lt (h.2 p hp)) hg (fun k hk hm => by rcases hT k hm with h8 | h8 <;> omega)) (fun k hk => hk.1)
theorem OfR.below (hR : RepLike R) (h : OfR E size cs R B w v xs) (hb : Below w.heap.size w w') : OfR E size cs R B w' v xs := h.grew hR (Grew.ofBelow (S := []) hb) (fun k hk => by cases hk)
/-- one more element, that leads to blocks made since -/
theorem OfR.push (hR : RepLike R) (h : OfR E size cs R B w v xs) (hb : Below w.heap.size w w6) (hB : B ≤ w.heap.size) {x : α} (hx : R (fun k => w.heap.size ≤ k) w6 x) (ho : OwnS E size cs B w7 v7 (xs ++ [x])) (hg : w6.grownBy w7 v.ownBlock) (hn : NewOrSame w6 v v7) : OfR E size cs R B w7 v7 (xs ++ [x]) := by
  have hlt := h.1.lt
  have key : ∀ (p : α) (S : Nat → Prop), R S w6 p → (∀ k, S k → B ≤ k ∧ v.ownBlock ≠ some k) → R (fun k => B ≤ k ∧ v7.ownBlock ≠ some k) w7 p := fun p S hp hS => by
    have hg' : Grew (v.ownBlock.toList) w6 w7 := ⟨hg.os, hg.tape, hg.output, hg.size, fun k hk hm => hg.block k hk (fun e => hm (by rw [← e]; simp))⟩
    refine hR.mono (hR.grew (hR.lt hp) hg' (fun k hk hm => ?_)) (fun k hk => ⟨(hS k hk.1).1, fun e => ?_⟩)
    · exact (hS k hk.1).2 (by simpa using hm)
    · rcases hn k e with h8 | h8
      · exact (hS k hk.1).2 h8
      · omega
  refine ⟨ho, fun p hp => ?_⟩
  rcases List.mem_append.1 hp with hp | hp
  · exact key p _ ((h.below hR hb).2 p hp) (fun k hk => hk)
  · obtain rfl : p = x := by simpa using hp
    exact key p _ hx (fun k hk => ⟨by omega, fun e => by have := (hlt k e).2; omega⟩)
end
/-- what 'Of' answers: the same tree, in blocks made since -/
def OfP (v : V) (w : World) (e : Ending) (w' : World) : Prop := ∃ a : A3, e = .returned (vG (v, a)) ∧ Rep (fun k => w.heap.size ≤ k) w' v a ∧ Below w.heap.size w w'
theorem OfP.lit {k : Int} {n : Nat} {t r : List UInt8} {fs : List (Int × V)} {ls : List V} {ps : List (V × V)} {w w' : World} {e : Ending} (h : OfP (.mk k n t fs r ls ps) w e w') : ∃ (fa la pa : Option Addr) (fc lc pc : Nat), e = .returned (.agg #[.int .i64 k, .int .u64 (n : Int), .string (strB t), .slice fa fs.length fc, .string (strB r), .slice la ls.length lc, .slice pa ps.length pc]) ∧ Rep (fun k => w.heap.size ≤ k) w' (.mk k n t fs r ls ps) ⟨fa, fc, la, lc, pa, pc⟩ ∧ Below w.heap.size w w' := by
  obtain ⟨⟨fa, fc, la, lc, pa, pc⟩, h1, h2, h3⟩ := h
  exact ⟨fa, la, pa, fc, lc, pc, by rw [h1, vG_lit], h2, h3⟩
theorem OfP.val {v : V} {w w' : World} {e : Ending} (h : OfP v w e w') : ValP v w e w' := by
  obtain ⟨a, h1, h2, h3⟩ := h
  exact ⟨a, h1, h2.any, h3⟩
end Go.Proofs.YtcjflglpkpkflaaDoor
