/- The cheapest trips, plain: order, what is least, the state of the search; no program. -/
import Derived.Test.YthabjnppmhlomaaDoorLib
namespace Go.Proofs.YthabjnppmhlomaaDoor
set_option linter.unusedVariables false
def sgnI (a b : Int) : Int := if a < b then -1 else if b < a then 1 else 0
def orI (a b : Int) : Int := if a = 0 then b else a
theorem sgnI_swap (a b : Int) : sgnI b a = -sgnI a b := by unfold sgnI; split <;> split <;> omega
theorem orI_neg (a b : Int) : orI (-a) (-b) = -orI a b := by unfold orI; split <;> split <;> omega
theorem orI_zero {a b : Int} : orI a b = 0 ↔ a = 0 ∧ b = 0 := by unfold orI; split <;> omega
theorem sgnI_zero {a b : Int} : sgnI a b = 0 ↔ a = b := by unfold sgnI; split <;> (try split) <;> omega
/-- three answers of an order: of a and b, b and c, a and c -/
def T3 (x y z : Int) : Prop := (x ≤ 0 → y ≤ 0 → z ≤ 0) ∧ (x < 0 → y ≤ 0 → z < 0) ∧ (x ≤ 0 → y < 0 → z < 0) ∧ (0 ≤ x → 0 ≤ y → 0 ≤ z) ∧ (0 < x → 0 ≤ y → 0 < z) ∧ (0 ≤ x → 0 < y → 0 < z)
theorem T3.or {x y z x' y' z' : Int} (h : T3 x y z) (h' : x = 0 → y = 0 → T3 x' y' z') : T3 (orI x x') (orI y y') (orI z z') := by
  obtain ⟨a1, a2, a3, a4, a5, a6⟩ := h
  by_cases hx : x = 0
  · by_cases hy : y = 0
    · have h2 := h' hx hy
      have hz : z = 0 := by omega
      subst hx hy hz
      exact h2
    · have hz : z ≠ 0 := by omega
      subst hx
      unfold T3 orI
      rw [if_pos rfl, if_neg hy, if_neg hz]
      omega
  · by_cases hy : y = 0
    · have hz : z ≠ 0 := by omega
      subst hy
      unfold T3 orI
      rw [if_pos rfl, if_neg hx, if_neg hz]
      omega
    · unfold T3 orI
      rw [if_neg hx, if_neg hy]
      split <;> omega
theorem T3.sgn (a b c : Int) : T3 (sgnI a b) (sgnI b c) (sgnI a c) := by
  unfold T3 sgnI
  split <;> split <;> split <;> (try split) <;> (try split) <;> (try split) <;> omega
def cmpZ : List Int → List Int → Int
  | [], [] => 0
  | [], _ :: _ => -1
  | _ :: _, [] => 1
  | x :: a, y :: b => orI (sgnI x y) (cmpZ a b)
theorem cmpZ_swap : ∀ a b, cmpZ b a = -cmpZ a b
  | [], [] => by simp [cmpZ]
  | [], _ :: _ => by simp [cmpZ]
  | _ :: _, [] => by simp [cmpZ]
  | x :: a, y :: b => by simp only [cmpZ]; rw [sgnI_swap x y, cmpZ_swap a b, orI_neg]
theorem cmpZ_zero : ∀ a b, cmpZ a b = 0 ↔ a = b
  | [], [] => by simp [cmpZ]
  | [], _ :: _ => by simp [cmpZ]
  | _ :: _, [] => by simp [cmpZ]
  | x :: a, y :: b => by simp only [cmpZ, orI_zero, sgnI_zero, cmpZ_zero a b, List.cons.injEq]
theorem T3.ints : ∀ a b c, T3 (cmpZ a b) (cmpZ b c) (cmpZ a c)
  | [], [], [] => by simp [cmpZ, T3]
  | [], [], _ :: _ => by simp [cmpZ, T3]
  | [], _ :: _, [] => by simp [cmpZ, T3]
  | [], _ :: _, _ :: _ => by simp only [cmpZ, T3]; omega
  | _ :: _, [], [] => by simp [cmpZ, T3]
  | _ :: _, [], _ :: _ => by simp only [cmpZ, T3]; omega
  | _ :: _, _ :: _, [] => by simp only [cmpZ, T3]; omega
  | x :: a, y :: b, z :: c => by simp only [cmpZ]; exact (T3.sgn _ _ _).or (fun _ _ => T3.ints a b c)
theorem cmpZ_snoc : ∀ (a b : List Int) (i : Int), a.length = b.length → cmpZ (a ++ [i]) (b ++ [i]) = cmpZ a b
  | [], [], i, _ => by
    simp only [List.nil_append, cmpZ]
    rw [sgnI_zero.2 rfl]; rfl
  | [], _ :: _, i, h => by simp at h
  | _ :: _, [], i, h => by simp at h
  | x :: a, y :: b, i, h => by
    simp only [List.cons_append, cmpZ]
    rw [cmpZ_snoc a b i (by simpa using h)]
/-- an edge; a way with where it leads and its sum -/
structure Eg where
  src : Int
  dst : Int
  cost : Int
structure Tr where
  to : Int
  sum : Int
  path : List Int
def ordT (a b : Tr) : Int := orI (sgnI a.sum b.sum) (orI (sgnI a.path.length b.path.length) (cmpZ a.path b.path))
theorem ordT_swap (a b : Tr) : ordT b a = -ordT a b := by
  unfold ordT
  rw [sgnI_swap a.sum b.sum, sgnI_swap a.path.length b.path.length, cmpZ_swap a.path b.path, orI_neg, orI_neg]
theorem ordT_zero (a b : Tr) : ordT a b = 0 ↔ a.sum = b.sum ∧ a.path = b.path := by
  unfold ordT
  rw [orI_zero, orI_zero, sgnI_zero, sgnI_zero, cmpZ_zero]
  constructor
  · rintro ⟨h1, -, h3⟩; exact ⟨h1, h3⟩
  · rintro ⟨h1, h3⟩; exact ⟨h1, by rw [h3], h3⟩
theorem ordT_refl (a : Tr) : ordT a a = 0 := (ordT_zero a a).2 ⟨rfl, rfl⟩
theorem T3.trip (a b c : Tr) : T3 (ordT a b) (ordT b c) (ordT a c) := by
  unfold ordT
  exact (T3.sgn _ _ _).or (fun _ _ => (T3.sgn _ _ _).or (fun _ _ => T3.ints _ _ _))
theorem ord_le {a b c : Tr} (h : ordT a b ≤ 0) (k : ordT b c ≤ 0) : ordT a c ≤ 0 := (T3.trip a b c).1 h k
theorem ord_lt {a b c : Tr} (h : ordT a b < 0) (k : ordT b c ≤ 0) : ordT a c < 0 := (T3.trip a b c).2.1 h k
theorem ord_lt' {a b c : Tr} (h : ordT a b ≤ 0) (k : ordT b c < 0) : ordT a c < 0 := (T3.trip a b c).2.2.1 h k
/-- a trip with an edge more -/
def extT (t : Tr) (e : Eg) (i : Int) : Tr := ⟨e.dst, t.sum + e.cost, t.path ++ [i]⟩
theorem ext_mono {a b : Tr} (e : Eg) (i : Int) (h : ordT a b ≤ 0) : ordT (extT a e i) (extT b e i) ≤ 0 := by
  unfold ordT extT at *
  simp only [List.length_append, List.length_singleton]
  have h1 : sgnI (a.sum + e.cost) (b.sum + e.cost) = sgnI a.sum b.sum := by unfold sgnI; split <;> split <;> (try split) <;> (try split) <;> omega
  have h2 : sgnI ((a.path.length + 1 : Nat) : Int) ((b.path.length + 1 : Nat) : Int) = sgnI a.path.length b.path.length := by unfold sgnI; split <;> split <;> (try split) <;> (try split) <;> omega
  rw [h1, h2]
  by_cases hl : a.path.length = b.path.length
  · rw [cmpZ_snoc _ _ _ hl]; exact h
  · have hn : sgnI a.path.length b.path.length ≠ 0 := by rw [Ne, sgnI_zero]; omega
    unfold orI at h ⊢
    rw [if_neg hn] at h ⊢
    exact h
theorem ext_gt (t : Tr) (e : Eg) (i : Int) (h : 0 ≤ e.cost) : ordT t (extT t e i) < 0 := by
  unfold ordT extT
  simp only [List.length_append, List.length_singleton]
  have h2 : sgnI t.path.length ((t.path.length + 1 : Nat) : Int) = -1 := by unfold sgnI; rw [if_pos (by omega)]
  rw [h2]
  unfold orI
  by_cases hc : e.cost = 0
  · rw [if_pos (by rw [sgnI_zero]; omega), if_neg (by omega)]; omega
  · have : sgnI t.sum (t.sum + e.cost) = -1 := by unfold sgnI; rw [if_pos (by omega)]
    rw [this]; omega
def trip0 : Tr := ⟨-1, 0, []⟩
/-- the ways from the source on -/
inductive IsT (L : List Eg) : Tr → Prop where
  | start : IsT L trip0
  | ext (t : Tr) (i : Nat) (e : Eg) : IsT L t → L[i]? = some e → e.src = t.to → IsT L (extT t e i)
def RightE (L : List Eg) : Prop := ∀ e ∈ L, -1 ≤ e.src ∧ e.dst < 400 ∧ e.src < e.dst ∧ 0 ≤ e.cost ∧ e.cost ≤ 1048576
theorem RightE.at {L : List Eg} (h : RightE L) {i : Nat} {e : Eg} (hi : L[i]? = some e) : -1 ≤ e.src ∧ e.dst < 400 ∧ e.src < e.dst ∧ 0 ≤ e.cost ∧ e.cost ≤ 1048576 := h e (List.mem_of_getElem? hi)
theorem IsT.bd {L : List Eg} (hL : RightE L) {t : Tr} (h : IsT L t) : -1 ≤ t.to ∧ t.to < 400 ∧ (t.path.length : Int) ≤ t.to + 1 ∧ 0 ≤ t.sum ∧ t.sum ≤ t.path.length * 1048576 ∧ (t.path = [] → t = trip0) ∧ (t.path ≠ [] → 0 ≤ t.to) ∧ ∀ i ∈ t.path, 0 ≤ i ∧ i < L.length := by
  induction h with
  | start => simp [trip0]
  | ext t i e ht hi hs ih =>
    obtain ⟨h1, h2, h3, h4, h5, h6, h7, h8⟩ := ih
    have hr := hL.at hi
    have hil := (List.getElem?_eq_some_iff.1 hi).1
    refine ⟨by simp [extT]; omega, by simp [extT]; omega, by simp [extT]; omega, by simp [extT]; omega, ?_, by simp [extT], by simp [extT]; omega, ?_⟩
    · simp only [extT, List.length_append, List.length_singleton]; push_cast; omega
    · intro j hj
      simp only [extT, List.mem_append, List.mem_singleton] at hj
      rcases hj with hj | rfl
      · exact h8 j hj
      · omega
/-- the least trips to all versions -/
def Least (L : List Eg) (B : Int → Option Tr) : Prop := ∀ v, (∀ t, B v = some t → IsT L t ∧ t.to = v ∧ t.path ≠ []) ∧ ∀ u, IsT L u → u.to = v → u.path ≠ [] → ∃ t, B v = some t ∧ ordT t u ≤ 0
theorem Least.unique {L : List Eg} {B C : Int → Option Tr} (h : Least L B) (k : Least L C) (v : Int) : B v = C v := by
  have aux : ∀ {B C : Int → Option Tr}, Least L B → Least L C → ∀ t, B v = some t → C v = some t := by
    intro B C h k t ht
    obtain ⟨h1, h2, h3⟩ := (h v).1 t ht
    obtain ⟨s, hs, hst⟩ := (k v).2 t h1 h2 h3
    obtain ⟨g1, g2, g3⟩ := (k v).1 s hs
    obtain ⟨r, hr, hrs⟩ := (h v).2 s g1 g2 g3
    rw [ht] at hr; cases hr
    have h0 : ordT t s = 0 := by have := ordT_swap t s; omega
    obtain ⟨e1, e2⟩ := (ordT_zero t s).1 h0
    rw [hs]
    congr 1
    obtain ⟨a, b, c⟩ := t
    obtain ⟨a', b', c'⟩ := s
    simp only at *
    subst e1 e2 h2 g2
    rfl
  cases hb : B v with
  | some t => rw [aux h k t hb]
  | none =>
    cases hc : C v with
    | none => rfl
    | some t => rw [aux k h t hc] at hb; cases hb
/-- the least trip to a version, or the source's own -/
def bst (B : Int → Option Tr) (v : Int) : Option Tr := if v = -1 then some trip0 else B v
def Relaxed (L : List Eg) (B : Int → Option Tr) (t : Tr) (i : Nat) : Prop := ∀ e, L[i]? = some e → e.src = t.to → ∃ b, B e.dst = some b ∧ ordT b (extT t e i) ≤ 0
theorem least_of {L : List Eg} (hL : RightE L) {B : Int → Option Tr} (h1 : ∀ v t, B v = some t → IsT L t ∧ t.to = v ∧ t.path ≠ []) (h2 : ∀ v t, bst B v = some t → ∀ i, Relaxed L B t i) : Least L B := by
  have key : ∀ u, IsT L u → ∃ t, bst B u.to = some t ∧ ordT t u ≤ 0 := by
    intro u hu
    induction hu with
    | start => exact ⟨trip0, by simp [bst, trip0], by rw [ordT_refl]; omega⟩
    | ext t i e ht hi hs ih =>
      obtain ⟨b, hb, hbt⟩ := ih
      have hbto : b.to = t.to := by
        unfold bst at hb
        split at hb
        · cases hb; rename_i h; rw [h]; rfl
        · exact (h1 _ _ hb).2.1
      obtain ⟨c, hc, hcb⟩ := h2 _ b hb i e hi (by rw [hbto]; exact hs)
      refine ⟨c, ?_, ord_le hcb (ext_mono e i hbt)⟩
      have hr := hL.at hi
      show bst B e.dst = some c
      unfold bst
      rw [if_neg (by omega)]; exact hc
  intro v
  refine ⟨h1 v, fun u hu huv hup => ?_⟩
  obtain ⟨t, ht, htu⟩ := key u hu
  have h0 := (hu.bd hL).2.2.2.2.2.2.1 hup
  rw [huv] at ht h0
  unfold bst at ht
  rw [if_neg (by omega)] at ht
  exact ⟨t, ht, htu⟩
/-! ### the search -/
/-- where the edges from a version on are -/
def fromV (L : List Eg) (v : Int) : List Nat := (List.range L.length).filter fun i => match L[i]? with
  | some e => decide (e.src = v)
  | none => false
theorem fromV_mem {L : List Eg} {v : Int} {i : Nat} : i ∈ fromV L v ↔ ∃ e, L[i]? = some e ∧ e.src = v := by
  unfold fromV
  simp only [List.mem_filter, List.mem_range]
  constructor
  · rintro ⟨h1, h2⟩
    rw [List.getElem?_eq_getElem h1] at h2
    exact ⟨_, List.getElem?_eq_getElem h1, by simpa using h2⟩
  · rintro ⟨e, h1, h2⟩
    refine ⟨(List.getElem?_eq_some_iff.1 h1).1, ?_⟩
    rw [h1]; simpa using h2
def degs (L : List Eg) (X : List Int) : Nat := (X.map fun v => (fromV L v).length).sum
theorem filt_sum {α : Type} (f : α → Int) : ∀ (l : List α) (X : List Int), X.Nodup → (X.map fun v => (l.filter fun a => decide (f a = v)).length).sum ≤ l.length
  | [], X, _ => by
    induction X with
    | nil => simp
    | cons v X ih => simpa using ih (List.nodup_cons.1 ‹_›).2
  | a :: l, X, h => by
    have ih := filt_sum f l X h
    have key : ∀ (X : List Int), X.Nodup → (X.map fun v => ((a :: l).filter fun b => decide (f b = v)).length).sum ≤ (X.map fun v => (l.filter fun b => decide (f b = v)).length).sum + if f a ∈ X then 1 else 0 := by
      intro X
      induction X with
      | nil => simp
      | cons v X ihX =>
        intro hn
        obtain ⟨hv, hn⟩ := List.nodup_cons.1 hn
        have := ihX hn
        rw [List.map_cons, List.sum_cons, List.map_cons, List.sum_cons]
        by_cases e : f a = v
        · have hx : f a ∉ X := by rw [e]; exact hv
          rw [if_neg hx] at this
          rw [List.filter_cons, if_pos (by simpa using e), if_pos (by simp [e]), List.length_cons]
          omega
        · have e2 : (f a ∈ v :: X) = (f a ∈ X) := by simp [e]
          rw [List.filter_cons, if_neg (by simpa using e)]
          simp only [e2]
          omega
    have := key X h
    simp only [List.length_cons]
    split at this <;> omega
theorem degs_le (L : List Eg) (X : List Int) (h : X.Nodup) : degs L X ≤ L.length := by
  have h1 := filt_sum (fun i : Nat => match L[i]? with | some e => e.src | none => -2) (List.range L.length) X h
  rw [List.length_range] at h1
  refine Nat.le_trans (Nat.le_of_eq ?_) h1
  unfold degs
  congr 1
  refine List.map_congr_left fun v hv => ?_
  unfold fromV
  congr 1
  refine List.filter_congr fun i hi => ?_
  rw [List.getElem?_eq_getElem (by simpa using hi)]
/-- the search under way: trip t goes on, by the first m of its edges -/
structure Mid (L : List Eg) (B : Int → Option Tr) (Q : List Tr) (X : List Int) (t : Tr) (s m : Nat) : Prop where
  best : ∀ v u, B v = some u → IsT L u ∧ u.to = v ∧ u.path ≠ []
  que : ∀ q ∈ Q, IsT L q ∧ q.path ≠ [] ∧ ∃ b, B q.to = some b ∧ ordT b q ≤ 0
  wait : ∀ v u, B v = some u → v ∉ X → v ≠ t.to → u ∈ Q
  gone : ∀ v u, B v = some u → v ∈ X ∨ v = t.to → u ∉ Q
  done : ∀ v, v ∈ X → ∃ u, bst B v = some u ∧ (∀ i, Relaxed L B u i) ∧ ordT u t ≤ 0
  here : ∀ i ∈ (fromV L t.to).take m, Relaxed L B t i
  ahead : ∀ q ∈ Q, ordT t q ≤ 0
  size : Q.length ≤ s + m ∧ s ≤ degs L X
  trip : IsT L t ∧ bst B t.to = some t ∧ t.to ∉ X
  nod : Q.Nodup ∧ X.Nodup
  src : t.to = -1 ∨ -1 ∈ X
/-- the search, no trip under way -/
structure Inv (L : List Eg) (B : Int → Option Tr) (Q : List Tr) (X : List Int) : Prop where
  best : ∀ v u, B v = some u → IsT L u ∧ u.to = v ∧ u.path ≠ []
  que : ∀ q ∈ Q, IsT L q ∧ q.path ≠ [] ∧ ∃ b, B q.to = some b ∧ ordT b q ≤ 0
  wait : ∀ v u, B v = some u → v ∉ X → u ∈ Q
  gone : ∀ v u, B v = some u → v ∈ X → u ∉ Q
  done : ∀ v, v ∈ X → ∃ u, bst B v = some u ∧ (∀ i, Relaxed L B u i) ∧ ∀ q ∈ Q, ordT u q ≤ 0
  size : Q.length ≤ degs L X
  nod : Q.Nodup ∧ X.Nodup
  src : -1 ∈ X
theorem Mid.first (L : List Eg) : Mid L (fun _ => none) [] [] trip0 0 0 := by
  refine ⟨fun v u h => (by cases h), fun q h => (by cases h), fun v u h => (by cases h), fun v u h => (by cases h), fun v h => (by cases h), fun i h => (by simp at h), fun q h => (by cases h), by simp, ⟨.start, by simp [bst, trip0], by simp⟩, ⟨.nil, .nil⟩, .inl rfl⟩
theorem Mid.inv {L : List Eg} {B : Int → Option Tr} {Q : List Tr} {X : List Int} {t : Tr} {s m : Nat} (h : Mid L B Q X t s m) (hm : m = (fromV L t.to).length) : Inv L B Q (t.to :: X) := by
  have hrel : ∀ i, Relaxed L B t i := fun i e hi hsrc => h.here i (by rw [List.take_of_length_le (by omega)]; exact fromV_mem.2 ⟨e, hi, hsrc⟩) e hi hsrc
  refine ⟨h.best, h.que, fun v u hv hx => ?_, fun v u hv hx => ?_, fun v hx => ?_, ?_, ⟨h.nod.1, List.nodup_cons.2 ⟨h.trip.2.2, h.nod.2⟩⟩, ?_⟩
  · simp only [List.mem_cons, not_or] at hx
    exact h.wait v u hv hx.2 hx.1
  · rcases List.mem_cons.1 hx with e | hx
    · exact h.gone v u hv (.inr e)
    · exact h.gone v u hv (.inl hx)
  · rcases List.mem_cons.1 hx with e | hx
    · subst e
      exact ⟨t, h.trip.2.1, hrel, h.ahead⟩
    · obtain ⟨u, h0, h1, h2⟩ := h.done v hx
      exact ⟨u, h0, h1, fun q hq => ord_le h2 (h.ahead q hq)⟩
  · have h1 := h.size.1
    have h2 := h.size.2
    unfold degs at *
    simp only [List.map_cons, List.sum_cons]
    omega
  · rcases h.src with e | e
    · rw [e]; simp
    · simp [e]
theorem Relaxed.mono {L : List Eg} {B B' : Int → Option Tr} {u : Tr} {i : Nat} (h : Relaxed L B u i) (hb : ∀ v b, B v = some b → ∃ b', B' v = some b' ∧ ordT b' b ≤ 0) : Relaxed L B' u i := fun e h1 h2 => by
  obtain ⟨b, h3, h4⟩ := h e h1 h2
  obtain ⟨b', h5, h6⟩ := hb _ b h3
  exact ⟨b', h5, ord_le h6 h4⟩
theorem take_next {α : Type} {l : List α} {m : Nat} {i : α} (h : l[m]? = some i) : l.take (m + 1) = l.take m ++ [i] := by
  rw [List.take_add_one, h]; rfl
/-- the next edge leads to nothing better -/
theorem Mid.skip {L : List Eg} {B : Int → Option Tr} {Q : List Tr} {X : List Int} {t b : Tr} {s m i : Nat} {e : Eg} (h : Mid L B Q X t s m) (hi : (fromV L t.to)[m]? = some i) (he : L[i]? = some e) (hb : B e.dst = some b) (hge : ¬ ordT (extT t e i) b < 0) : Mid L B Q X t s (m + 1) := by
  refine ⟨h.best, h.que, h.wait, h.gone, h.done, fun j hj => ?_, h.ahead, ⟨by have := h.size.1; omega, h.size.2⟩, h.trip, h.nod, h.src⟩
  rw [take_next hi, List.mem_append, List.mem_singleton] at hj
  rcases hj with hj | rfl
  · exact h.here j hj
  · intro e' h1 _
    rw [he] at h1; cases h1
    have := ordT_swap (extT t e j) b
    exact ⟨b, hb, by omega⟩
/-- the next edge leads to something better -/
theorem Mid.push {L : List Eg} (hL : RightE L) {B B' : Int → Option Tr} {Q Q' : List Tr} {X : List Int} {t : Tr} {s m i : Nat} {e : Eg} (h : Mid L B Q X t s m) (hi : (fromV L t.to)[m]? = some i) (he : L[i]? = some e)
    (hlt : ∀ b, B e.dst = some b → ordT (extT t e i) b < 0) (hB : ∀ v, B' v = if v = e.dst then some (extT t e i) else B v) (hQ : Q'.Perm (Q ++ [extT t e i])) : Mid L B' Q' X t s (m + 1) := by
  have hsrc : e.src = t.to := by
    obtain ⟨e', h1, h2⟩ := fromV_mem.1 (List.mem_of_getElem? hi)
    rw [he] at h1; cases h1; exact h2
  have hr := hL.at he
  have hgt := ext_gt t e i hr.2.2.2.1
  have hmono : ∀ v b, B v = some b → ∃ b', B' v = some b' ∧ ordT b' b ≤ 0 := fun v b hv => by
    rw [hB]
    by_cases ev : v = e.dst
    · subst ev; rw [if_pos rfl]; exact ⟨_, rfl, by have := hlt b hv; omega⟩
    · rw [if_neg ev]; exact ⟨b, hv, by rw [ordT_refl]; omega⟩
  have hmem : ∀ q, q ∈ Q' ↔ q ∈ Q ∨ q = extT t e i := fun q => by rw [hQ.mem_iff, List.mem_append, List.mem_singleton]
  have hX : e.dst ∉ X := fun hx => by
    obtain ⟨u, h1, _, h2⟩ := h.done _ hx
    unfold bst at h1
    rw [if_neg (by omega)] at h1
    have h3 := hlt u h1
    have h4 := ord_lt' h2 hgt
    have := ordT_swap u (extT t e i)
    omega
  have hT : e.dst ≠ t.to := by omega
  have hnew : extT t e i ∉ Q := fun hq => by
    obtain ⟨_, _, b, h1, h2⟩ := h.que _ hq
    have h3 := hlt b h1
    have := ordT_swap b (extT t e i)
    omega
  refine ⟨fun v u hv => ?_, fun q hq => ?_, fun v u hv hx ht => ?_, fun v u hv hx => ?_, fun v hx => ?_, fun j hj => ?_, fun q hq => ?_, ⟨?_, h.size.2⟩, ⟨h.trip.1, ?_, h.trip.2.2⟩, ⟨?_, h.nod.2⟩, h.src⟩
  · rw [hB] at hv
    by_cases ev : v = e.dst
    · rw [if_pos ev] at hv; cases hv
      exact ⟨.ext t i e h.trip.1 he hsrc, ev.symm, by simp [extT]⟩
    · rw [if_neg ev] at hv; exact h.best v u hv
  · rcases (hmem q).1 hq with hq | rfl
    · obtain ⟨h1, h2, b, h3, h4⟩ := h.que q hq
      obtain ⟨b', h5, h6⟩ := hmono _ b h3
      exact ⟨h1, h2, b', h5, ord_le h6 h4⟩
    · exact ⟨.ext t i e h.trip.1 he hsrc, by simp [extT], _, by rw [hB]; exact if_pos rfl, by rw [ordT_refl]; omega⟩
  · rw [hB] at hv
    rw [hmem]
    by_cases ev : v = e.dst
    · rw [if_pos ev] at hv; cases hv; exact .inr rfl
    · rw [if_neg ev] at hv; exact .inl (h.wait v u hv hx ht)
  · rw [hB] at hv
    have ev : v ≠ e.dst := fun ev => by
      subst ev
      rcases hx with hx | hx
      · exact hX hx
      · exact hT hx
    rw [if_neg ev] at hv
    rw [hmem]
    rintro (hq | rfl)
    · exact h.gone v u hv hx hq
    · exact ev (h.best v _ hv).2.1.symm
  · obtain ⟨u, h1, h2, h3⟩ := h.done v hx
    refine ⟨u, ?_, fun j => (h2 j).mono hmono, h3⟩
    unfold bst at h1 ⊢
    split
    · rename_i hv; rw [if_pos hv] at h1; exact h1
    · rename_i hv; rw [if_neg hv] at h1
      rw [hB, if_neg (fun ev => hX (by rw [← ev]; exact hx))]; exact h1
  · rw [take_next hi, List.mem_append, List.mem_singleton] at hj
    rcases hj with hj | rfl
    · exact (h.here j hj).mono hmono
    · intro e' h1 _
      rw [he] at h1; cases h1
      exact ⟨_, by rw [hB]; exact if_pos rfl, by rw [ordT_refl]; omega⟩
  · rcases (hmem q).1 hq with hq | rfl
    · exact h.ahead q hq
    · omega
  · have := hQ.length_eq
    have := h.size.1
    simp at *
    omega
  · have h1 := h.trip.2.1
    unfold bst at h1 ⊢
    split
    · rename_i hv; rw [if_pos hv] at h1; exact h1
    · rename_i hv; rw [if_neg hv] at h1
      rw [hB, if_neg (Ne.symm hT)]; exact h1
  · rw [hQ.nodup_iff, List.nodup_append]
    refine ⟨h.nod.1, by simp, fun a ha b hb => ?_⟩
    rw [List.mem_singleton] at hb
    subst hb
    exact fun e => hnew (e ▸ ha)
/-- one is popped that counts -/
theorem Inv.fresh {L : List Eg} (hL : RightE L) {B : Int → Option Tr} {Q Q' : List Tr} {X : List Int} {t b : Tr} (h : Inv L B Q X) (hQ : (t :: Q').Perm Q) (ha : ∀ q ∈ Q', ordT t q ≤ 0) (hb : B t.to = some b) (h0 : ordT t b = 0) : Mid L B Q' X t Q'.length 0 := by
  have ht : t ∈ Q := (hQ.mem_iff).1 (by simp)
  have hs : ∀ q ∈ Q', q ∈ Q := fun q hq => (hQ.mem_iff).1 (by simp [hq])
  obtain ⟨h1, h2, _⟩ := h.que t ht
  have hbt : b = t := by
    obtain ⟨e1, e2⟩ := (ordT_zero t b).1 h0
    have e3 := (h.best _ _ hb).2.1
    obtain ⟨a, b, c⟩ := b
    obtain ⟨a', b', c'⟩ := t
    simp only at *
    subst e1 e2 e3
    rfl
  subst hbt
  have hn : (b :: Q').Nodup := (hQ.nodup_iff).2 h.nod.1
  obtain ⟨hn1, hn2⟩ := List.nodup_cons.1 hn
  have hto := (h1.bd hL).2.2.2.2.2.2.1 h2
  refine ⟨h.best, fun q hq => h.que q (hs q hq), fun v u hv hx hvt => ?_, fun v u hv hx => ?_, fun v hx => ?_, fun i hi => (by simp at hi), ha, ⟨Nat.le_refl _, ?_⟩, ⟨h1, ?_, fun hx => h.gone _ _ hb hx ht⟩, ⟨hn2, h.nod.2⟩, .inr h.src⟩
  · rcases List.mem_cons.1 ((hQ.mem_iff).2 (h.wait v u hv hx)) with e | e
    · subst e; exact absurd (h.best _ _ hv).2.1.symm hvt
    · exact e
  · rcases hx with hx | hx
    · exact fun hu => h.gone v u hv hx (hs u hu)
    · subst hx; rw [hb] at hv; cases hv; exact hn1
  · obtain ⟨u, g1, g2, g3⟩ := h.done v hx
    exact ⟨u, g1, g2, g3 _ ht⟩
  · have := hQ.length_eq
    have := h.size
    simp at *
    omega
  · unfold bst; rw [if_neg (by omega)]; exact hb
/-- one is popped that was beaten -/
theorem Inv.stale {L : List Eg} {B : Int → Option Tr} {Q Q' : List Tr} {X : List Int} {t b : Tr} (h : Inv L B Q X) (hQ : (t :: Q').Perm Q) (hb : B t.to = some b) (h0 : ordT t b ≠ 0) : Inv L B Q' X := by
  have hs : ∀ q ∈ Q', q ∈ Q := fun q hq => (hQ.mem_iff).1 (by simp [hq])
  have hn : (t :: Q').Nodup := (hQ.nodup_iff).2 h.nod.1
  refine ⟨h.best, fun q hq => h.que q (hs q hq), fun v u hv hx => ?_, fun v u hv hx hu => h.gone v u hv hx (hs u hu), fun v hx => ?_, ?_, ⟨(List.nodup_cons.1 hn).2, h.nod.2⟩, h.src⟩
  · rcases List.mem_cons.1 ((hQ.mem_iff).2 (h.wait v u hv hx)) with e | e
    · subst e
      have := (h.best _ _ hv).2.1
      subst this
      rw [hb] at hv; cases hv
      exact absurd (ordT_refl _) h0
    · exact e
  · obtain ⟨u, g1, g2, g3⟩ := h.done v hx
    exact ⟨u, g1, g2, fun q hq => g3 q (hs q hq)⟩
  · have := hQ.length_eq
    have := h.size
    simp at *
    omega
theorem Inv.que_best {L : List Eg} {B : Int → Option Tr} {Q : List Tr} {X : List Int} {t : Tr} (h : Inv L B Q X) (ht : t ∈ Q) : ∃ b, B t.to = some b := let ⟨_, _, b, hb, _⟩ := h.que t ht; ⟨b, hb⟩
/-- none is left -/
theorem Inv.least {L : List Eg} (hL : RightE L) {B : Int → Option Tr} {X : List Int} (h : Inv L B [] X) : Least L B := by
  refine least_of hL h.best (fun v t hv i => ?_)
  have hx : v ∈ X := by
    unfold bst at hv
    split at hv
    · rename_i e; rw [e]; exact h.src
    · exact Classical.byContradiction fun hx => by have := h.wait v t hv hx; cases this
  obtain ⟨u, h1, h2, _⟩ := h.done v hx
  rw [hv] at h1; cases h1
  exact h2 i
/-! ### version by version -/
/-- all edges to versions below v, and the first m of those to v, are taken in -/
structure RInv (L : List Eg) (C : Int → Option Tr) (v : Int) (m : Nat) : Prop where
  best : ∀ x u, C x = some u → IsT L u ∧ u.to = x ∧ u.path ≠ []
  rel : ∀ x u (i : Nat) e, bst C x = some u → L[i]? = some e → e.src = x → (e.dst < v ∨ e.dst = v ∧ i < m) → ∃ b, C e.dst = some b ∧ ordT b (extT u e i) ≤ 0
theorem RInv.first {L : List Eg} (hL : RightE L) : RInv L (fun _ => none) 0 0 :=
  ⟨fun x u h => (by cases h), fun x u i e h he hs hv => by have := hL.at he; omega⟩
theorem RInv.next {L : List Eg} {C : Int → Option Tr} {v : Int} (h : RInv L C v L.length) : RInv L C (v + 1) 0 :=
  ⟨h.best, fun x u i e h1 he hs hv => h.rel x u i e h1 he hs (by have := (List.getElem?_eq_some_iff.1 he).1; omega)⟩
theorem RInv.skip {L : List Eg} {C : Int → Option Tr} {v : Int} {m : Nat} {e : Eg} (h : RInv L C v m) (he : L[m]? = some e)
    (hn : e.dst = v → ∀ f, bst C e.src = some f → ∃ b, C v = some b ∧ ¬ ordT (extT f e m) b < 0) : RInv L C v (m + 1) :=
  ⟨h.best, fun x u i e' h1 he' hs hv => by
    by_cases ei : i = m
    · subst ei
      rw [he] at he'; cases he'
      by_cases ev : e.dst = v
      · subst hs
        obtain ⟨b, hb, hlt⟩ := hn ev u h1
        have := ordT_swap (extT u e i) b
        exact ⟨b, by rw [ev]; exact hb, by omega⟩
      · exact h.rel x u i e h1 he hs (by omega)
    · exact h.rel x u i e' h1 he' hs (by omega)⟩
theorem RInv.put {L : List Eg} (hL : RightE L) {C C' : Int → Option Tr} {v : Int} {m : Nat} {e : Eg} {f : Tr} (h : RInv L C v m) (he : L[m]? = some e) (hv : e.dst = v) (hf : bst C e.src = some f)
    (hlt : ∀ b, C v = some b → ordT (extT f e m) b < 0) (hC : ∀ x, C' x = if x = v then some (extT f e m) else C x) : RInv L C' v (m + 1) := by
  have hr := hL.at he
  have hfT : IsT L f ∧ f.to = e.src := by
    unfold bst at hf
    split at hf
    · rename_i h0; cases hf; exact ⟨.start, h0.symm⟩
    · exact ⟨(h.best _ _ hf).1, (h.best _ _ hf).2.1⟩
  refine ⟨fun x u hx => ?_, fun x u i e' h1 he' hs hd => ?_⟩
  · rw [hC] at hx
    by_cases ex : x = v
    · rw [if_pos ex] at hx; cases hx
      exact ⟨.ext f m e hfT.1 he hfT.2.symm, by rw [ex]; exact hv, by simp [extT]⟩
    · rw [if_neg ex] at hx; exact h.best x u hx
  · have hr' := hL.at he'
    have hxv : x ≠ v := by omega
    have h2 : bst C x = some u := by
      unfold bst at h1 ⊢
      split
      · rename_i h0; rw [if_pos h0] at h1; exact h1
      · rename_i h0; rw [if_neg h0, hC, if_neg hxv] at h1; exact h1
    rw [hC]
    by_cases ev : e'.dst = v
    · rw [if_pos ev]
      refine ⟨_, rfl, ?_⟩
      by_cases ei : i = m
      · subst ei
        rw [he] at he'; cases he'
        subst hs
        rw [hf] at h2; cases h2
        rw [ordT_refl]; omega
      · obtain ⟨b, hb, hle⟩ := h.rel x u i e' h2 he' hs (by omega)
        rw [ev] at hb
        have := ord_lt (hlt b hb) hle
        omega
    · rw [if_neg ev]
      exact h.rel x u i e' h2 he' hs (by omega)
theorem RInv.least {L : List Eg} (hL : RightE L) {C : Int → Option Tr} (h : RInv L C 400 0) : Least L C := by
  refine least_of hL h.best (fun v t hv i e he hs => ?_)
  have hto : t.to = v := by
    unfold bst at hv
    split at hv
    · rename_i h0; cases hv; exact h0.symm
    · exact (h.best _ _ hv).2.1
  exact h.rel v t i e hv he (by rw [hs, hto]) (by have := hL.at he; omega)
end Go.Proofs.YthabjnppmhlomaaDoor
