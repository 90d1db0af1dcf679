/- Values, plain: a field's value, a message with one, a map's value at a key, a map with a pair; where a thing stands in a rising row. No program. -/
import Derived.Test.YtcjflglpkpkflaaDoorVa
namespace Go.Proofs.YtcjflglpkpkflaaDoor
set_option linter.unusedVariables false
/-! ### a place in a row, by an order's answers -/
/-- i is the place: all ahead of it answer below 0, none behind it does -/
structure At {α : Type} (c : α → Int) (l : List α) (i : Nat) : Prop where
  le : i ≤ l.length
  lo : ∀ j x, j < i → l[j]? = some x → c x < 0
  hi : ∀ j x, i ≤ j → l[j]? = some x → 0 ≤ c x
/-- the answers rise: once not below 0, always; above 0 behind the first that is not below 0 -/
def Rises {α : Type} (c : α → Int) (l : List α) : Prop := ∀ (i j : Nat) (x y : α), i < j → l[i]? = some x → l[j]? = some y → 0 ≤ c x → 0 < c y
def thereB {α : Type} (c : α → Int) (l : List α) (i : Nat) : Bool := match l[i]? with
  | some x => c x == 0
  | none => false
def splice {α : Type} (l : List α) (i many : Nat) (put : Bool) (x : α) : List α := l.take i ++ (if put then [x] else []) ++ l.drop (i + many)
/-- one is put ahead of the first that is not below it, in place of the one that is the same -/
def putA {α : Type} (c : α → Int) (x : α) : List α → Bool → List α
  | [], done => if done then [] else [x]
  | y :: r, done => (if !done && decide (0 ≤ c y) then [x] else []) ++ (if c y = 0 then [] else [y]) ++ putA c x r (done || decide (0 ≤ c y))
theorem Rises.tail {α : Type} {c : α → Int} {y : α} {l : List α} (h : Rises c (y :: l)) : Rises c l := fun i j a b hij ha hb hc => h (i + 1) (j + 1) a b (by omega) (by simpa using ha) (by simpa using hb) hc
theorem Rises.head {α : Type} {c : α → Int} {y : α} {l : List α} (h : Rises c (y :: l)) (h0 : 0 ≤ c y) : ∀ x ∈ l, 0 < c x := fun x hx => by
  obtain ⟨j, hj⟩ := List.mem_iff_getElem?.1 hx
  exact h 0 (j + 1) y x (by omega) rfl (by simpa using hj) h0
theorem putA_past {α : Type} {c : α → Int} {x : α} : ∀ (l : List α) (done : Bool), (∀ y ∈ l, 0 < c y) → putA c x l done = (if done then [] else [x]) ++ l
  | [], done, _ => by cases done <;> simp [putA]
  | y :: r, done, h => by
    have h1 := h y (by simp)
    have e1 : decide (0 ≤ c y) = true := decide_eq_true (by omega)
    have e2 : ¬ c y = 0 := by omega
    simp only [putA, e1, Bool.and_true, Bool.or_true, if_neg e2]
    rw [putA_past r true (fun z hz => h z (by simp [hz]))]
    cases done <;> simp
theorem putA_splice {α : Type} {c : α → Int} {x : α} : ∀ (l : List α) (i : Nat) (put : Bool), Rises c l → At c l i → putA c x l (!put) = splice l i (if thereB c l i then 1 else 0) put x
  | [], i, put, _, ha => by
    have := ha.le
    simp at this
    subst this
    cases put <;> simp [putA, splice, thereB]
  | y :: r, i, put, hr, ha => by
    by_cases h0 : 0 ≤ c y
    · have hi : i = 0 := by
        by_cases e : i = 0
        · exact e
        · have := ha.lo 0 y (by omega) rfl; omega
      subst hi
      have hp := hr.head h0
      have e1 : decide (0 ≤ c y) = true := decide_eq_true h0
      simp only [putA, e1, Bool.and_true, Bool.or_true]
      rw [putA_past r true hp]
      by_cases e : c y = 0
      · simp [splice, thereB, e]
      · simp [splice, thereB, e]
    · have e1 : decide (0 ≤ c y) = false := decide_eq_false h0
      have e2 : ¬ c y = 0 := by omega
      obtain ⟨k, rfl⟩ : ∃ k, i = k + 1 := by
        cases i with
        | zero => exact absurd (ha.hi 0 y (by omega) rfl) h0
        | succ k => exact ⟨k, rfl⟩
      have ha' : At c r k := ⟨by have := ha.le; simp at this; omega, fun j z hj hz => ha.lo (j + 1) z (by omega) (by simpa using hz), fun j z hj hz => ha.hi (j + 1) z (by omega) (by simpa using hz)⟩
      simp only [putA, e1, Bool.and_false, Bool.or_false, if_neg e2]
      rw [putA_splice r k put hr.tail ha']
      have e3 : thereB c (y :: r) (k + 1) = thereB c r k := by simp [thereB]
      rw [e3]
      unfold splice
      rw [show k + 1 + (if thereB c r k = true then 1 else 0) = (k + if thereB c r k = true then 1 else 0) + 1 by omega]
      simp
/-- the first that answers 0 -/
def findA {α β : Type} (c : α → Int) (f : α → β) (d : β) : List α → β
  | [] => d
  | y :: r => if c y = 0 then f y else findA c f d r
theorem findA_none {α β : Type} {c : α → Int} {f : α → β} {d : β} : ∀ (l : List α), (∀ y ∈ l, c y ≠ 0) → findA c f d l = d
  | [], _ => rfl
  | y :: r, h => by
    simp only [findA]
    rw [if_neg (h y (by simp)), findA_none r (fun z hz => h z (by simp [hz]))]
theorem findA_at {α β : Type} {c : α → Int} {f : α → β} {d : β} : ∀ (l : List α) (i : Nat), Rises c l → At c l i → findA c f d l = match l[i]? with
    | some y => if c y = 0 then f y else d
    | none => d
  | [], i, _, _ => by simp [findA]
  | y :: r, i, hr, ha => by
    by_cases h0 : 0 ≤ c y
    · have hi : i = 0 := by
        by_cases e : i = 0
        · exact e
        · have := ha.lo 0 y (by omega) rfl; omega
      subst hi
      simp only [findA, List.getElem?_cons_zero]
      by_cases e : c y = 0
      · rw [if_pos e, if_pos e]
      · rw [if_neg e, if_neg e, findA_none r (fun z hz => by have := hr.head h0 z hz; omega)]
    · obtain ⟨k, rfl⟩ : ∃ k, i = k + 1 := by
        cases i with
        | zero => exact absurd (ha.hi 0 y (by omega) rfl) h0
        | succ k => exact ⟨k, rfl⟩
      have ha' : At c r k := ⟨by have := ha.le; simp at this; omega, fun j z hj hz => ha.lo (j + 1) z (by omega) (by simpa using hz), fun j z hj hz => ha.hi (j + 1) z (by omega) (by simpa using hz)⟩
      simp only [findA]
      rw [if_neg (by omega), findA_at r k hr.tail ha', List.getElem?_cons_succ]
/-! ### fields -/
def fieldC (num : Int) (p : Int × V) : Int := sgnI p.1 num
theorem rightF_rise : ∀ (l : List (Int × V)) (last : Int), rightF last l = true → (∀ p ∈ l, last < p.1) ∧ l.Pairwise (fun p q => p.1 < q.1)
  | [], _, _ => ⟨fun p h => (by cases h), .nil⟩
  | (n, v) :: r, last, h => by
    simp only [rightF, Bool.and_eq_true, decide_eq_true_eq] at h
    obtain ⟨h1, h2⟩ := rightF_rise r n h.2
    refine ⟨fun p hp => ?_, .cons (fun p hp => h1 p hp) h2⟩
    rcases List.mem_cons.1 hp with rfl | hp
    · exact h.1.1.1.1
    · have := h1 p hp; have := h.1.1.1.1; omega
theorem fields_rise {l : List (Int × V)} {last : Int} (h : rightF last l = true) (num : Int) : Rises (fieldC num) l := by
  intro i j x y hij hx hy h0
  have hp := (rightF_rise l last h).2
  have hxy : x.1 < y.1 := by
    rw [List.pairwise_iff_getElem] at hp
    obtain ⟨hi, rfl⟩ := List.getElem?_eq_some_iff.1 hx
    obtain ⟨hj, rfl⟩ := List.getElem?_eq_some_iff.1 hy
    exact hp i j hi hj hij
  unfold fieldC sgnI at *
  split at h0
  · omega
  · split
    · omega
    · split <;> omega
def getV (v : V) (num : Int) : V := if v.k = 3 then findA (fieldC num) Prod.snd V.none v.fs else V.none
def withV (v : V) (num : Int) (x : V) : V := if v.k ≠ 3 ∨ num < 1 ∨ 536870911 < num then v else .mk 3 0 [] (putA (fieldC num) (num, x) v.fs (x.k == 0)) v.r [] []
theorem rightF_mono : ∀ (l : List (Int × V)) (a b : Int), a ≤ b → rightF b l = true → rightF a l = true
  | [], _, _, _, _ => rfl
  | (n, v) :: r, a, b, h, h' => by
    simp only [rightF, Bool.and_eq_true, decide_eq_true_eq] at h' ⊢
    exact ⟨⟨⟨⟨by have := h'.1.1.1.1; omega, h'.1.1.1.2⟩, h'.1.1.2⟩, h'.1.2⟩, h'.2⟩
theorem rightF_put : ∀ (l : List (Int × V)) (num : Int) (x : V) (last : Int) (done : Bool), rightF last l = true → rightV x = true → 1 ≤ num → num ≤ 536870911 → (done = false → x.k ≠ 0 ∧ last < num) →
    rightF last (putA (fieldC num) (num, x) l done) = true
  | [], num, x, last, done, h, hx, h1, h2, hd => by
    cases done with
    | true => simp [putA, rightF]
    | false =>
      obtain ⟨h3, h4⟩ := hd rfl
      simp [putA, rightF, h4, h2, hx, h3]
  | (n, v) :: r, num, x, last, done, h, hx, h1, h2, hd => by
    simp only [rightF, Bool.and_eq_true, decide_eq_true_eq] at h
    have hn := h.1.1.1.1
    by_cases h0 : 0 ≤ fieldC num (n, v)
    · have hge : num ≤ n := by unfold fieldC sgnI at h0; split at h0 <;> (try split at h0) <;> simp at * <;> omega
      have hpast := rightF_put r num x n true h.2 hx h1 h2 (fun h => by cases h)
      have e1 : decide (0 ≤ fieldC num (n, v)) = true := decide_eq_true h0
      simp only [putA, e1, Bool.and_true, Bool.or_true]
      have hrest : rightF last ((if fieldC num (n, v) = 0 then [] else [(n, v)]) ++ putA (fieldC num) (num, x) r true) = true ∧ (fieldC num (n, v) ≠ 0 → num < n) := by
        refine ⟨?_, fun hne => ?_⟩
        · split
          · exact rightF_mono _ last n (by omega) hpast
          · simpa [rightF, hn, h.1.1.1.2, h.1.2, hpast] using h.1.1.2
        · unfold fieldC sgnI at hne; split at hne <;> (try split at hne) <;> simp at * <;> omega
      cases done with
      | true => simpa using hrest.1
      | false =>
        obtain ⟨h3, h4⟩ := hd rfl
        have hr2 : rightF num ((if fieldC num (n, v) = 0 then [] else [(n, v)]) ++ putA (fieldC num) (num, x) r true) = true := by
          split
          · exact rightF_mono _ num n hge hpast
          · rename_i hne
            simp [rightF, hrest.2 hne, h.1.1.1.2, h.1.2, hpast]
            simpa using h.1.1.2
        simp [rightF, h4, h2, hx, h3]
        simpa using hr2
    · have e1 : decide (0 ≤ fieldC num (n, v)) = false := decide_eq_false h0
      have e2 : ¬ fieldC num (n, v) = 0 := by omega
      have hlt : n < num := by unfold fieldC sgnI at h0; split at h0 <;> (try split at h0) <;> simp at * <;> omega
      simp only [putA, e1, Bool.and_false, Bool.or_false, if_neg e2]
      have := rightF_put r num x n done h.2 hx h1 h2 (fun hd' => ⟨(hd hd').1, hlt⟩)
      simp [rightF, hn, h.1.1.1.2, h.1.2, this]
      simpa using h.1.1.2
/-! ### pairs -/
def pairC (key : V) (p : V × V) : Int := cmpV p.1 key
theorem rightP_rise : ∀ (l : List (V × V)) (last : Option V), rightP last l = true → (∀ q, last = some q → ∀ p ∈ l, cmpV q p.1 < 0) ∧ l.Pairwise (fun p q => cmpV p.1 q.1 < 0)
  | [], _, _ => ⟨fun q _ p h => (by cases h), .nil⟩
  | (a, b) :: r, last, h => by
    simp only [rightP, Bool.and_eq_true] at h
    obtain ⟨⟨_, hr⟩, hrest⟩ := h
    obtain ⟨h1, h2⟩ := rightP_rise r (some a) hrest
    refine ⟨fun q hq p hp => ?_, .cons (fun p hp => h1 a rfl p hp) h2⟩
    have hqa : cmpV q a < 0 := by
      subst hq
      simp only [risesB, Bool.and_eq_true, decide_eq_true_eq] at hr
      exact hr.2
    rcases List.mem_cons.1 hp with rfl | hp
    · exact hqa
    · have h3 := h1 a rfl p hp
      exact (T3.val q a p.1).2.1 hqa (by omega)
theorem pairs_rise {l : List (V × V)} {last : Option V} (h : rightP last l = true) (key : V) : Rises (pairC key) l := by
  intro i j x y hij hx hy h0
  have hp := (rightP_rise l last h).2
  have hxy : cmpV x.1 y.1 < 0 := by
    rw [List.pairwise_iff_getElem] at hp
    obtain ⟨hi, rfl⟩ := List.getElem?_eq_some_iff.1 hx
    obtain ⟨hj, rfl⟩ := List.getElem?_eq_some_iff.1 hy
    exact hp i j hi hj hij
  have hs := cmpV_swap x.1 y.1
  unfold pairC at *
  exact (T3.val y.1 x.1 key).2.2.2.2.1 (by omega) h0
def findV (v : V) (key : V) : V := if v.k = 5 then findA (pairC key) Prod.snd V.none v.ps else V.none
def mapV (l : List (V × V)) : V := if l.isEmpty then V.none else .mk 5 0 [] [] [] [] l
def putV (v : V) (key x : V) : V := if v.k ≠ 5 ∧ v.k ≠ 0 then v else mapV (putA (pairC key) (key, x) v.ps (x.k == 0))
/-! ### what a right value has -/
theorem rightV_iff (v : V) : rightV v = true ↔ ((0 ≤ v.k ∧ v.k ≤ 5) ∧ (v.k ≠ 1 → v.n = 0) ∧ (v.k ≠ 2 → v.t = []) ∧ (v.k ≠ 3 → v.fs = [] ∧ v.r = []) ∧ (v.k = 4 ↔ v.ls ≠ []) ∧ (v.k = 5 ↔ v.ps ≠ [])) ∧ rightF 0 v.fs = true ∧ rightL v.ls = true ∧ rightP none v.ps = true := by
  cases v with
  | mk k n t fs r ls ps =>
    simp only [rightV, Bool.and_eq_true, shapeB_iff, isEmpty_nil, V.k, V.n, V.t, V.fs, V.r, V.ls, V.ps]
    have e1 : ls.isEmpty = false ↔ ls ≠ [] := by cases ls <;> simp
    have e2 : ps.isEmpty = false ↔ ps ≠ [] := by cases ps <;> simp
    rw [e1, e2]
    constructor
    · rintro ⟨⟨⟨h1, h2⟩, h3⟩, h4⟩; exact ⟨h1, h2, h3, h4⟩
    · rintro ⟨h1, h2, h3, h4⟩; exact ⟨⟨⟨h1, h2⟩, h3⟩, h4⟩
theorem right_with {v x : V} {num : Int} (hv : rightV v = true) (hx : rightV x = true) : rightV (withV v num x) = true := by
  unfold withV
  split
  · exact hv
  · rename_i h
    have h3 : v.k = 3 := by omega
    rw [rightV_iff] at hv ⊢
    obtain ⟨⟨_, _, _, _, h4, h5⟩, hf, _, _⟩ := hv
    refine ⟨⟨⟨by simp [V.k], by simp [V.k]⟩, fun _ => rfl, fun _ => rfl, fun h => absurd rfl h, by simp [V.k, V.ls], by simp [V.k, V.ps]⟩, ?_, rfl, rfl⟩
    refine rightF_put v.fs num x 0 _ hf (by exact hx) (by omega) (by omega) (fun hd => ⟨by simpa using hd, by omega⟩)
theorem get_with {v x : V} {num : Int} (hv : rightV v = true) (h3 : v.k = 3) (h1 : 1 ≤ num) (h2 : num ≤ 536870911) (i : Nat) (ha : At (fieldC num) v.fs i) : getV (withV v num x) num = if x.k = 0 then V.none else x := by
  rw [rightV_iff] at hv
  have hr := fields_rise hv.2.1 num
  unfold withV
  rw [if_neg (by omega)]
  unfold getV
  rw [if_pos (show (V.mk 3 0 [] (putA (fieldC num) (num, x) v.fs (x.k == 0)) v.r [] []).k = 3 from rfl)]
  show findA (fieldC num) Prod.snd V.none (putA (fieldC num) (num, x) v.fs (x.k == 0)) = _
  have hbe : (x.k == 0) = (!(x.k != 0)) := by unfold bne; rw [Bool.not_not]
  rw [hbe, putA_splice v.fs i _ hr ha]
  have hlo : ∀ y ∈ v.fs.take i, fieldC num y ≠ 0 := fun y hy => by
    obtain ⟨j, hj⟩ := List.mem_iff_getElem?.1 hy
    rw [List.getElem?_take] at hj
    split at hj
    · have := ha.lo j y (by assumption) hj; omega
    · cases hj
  have happ : ∀ (l m : List (Int × V)), (∀ y ∈ l, fieldC num y ≠ 0) → findA (fieldC num) Prod.snd V.none (l ++ m) = findA (fieldC num) Prod.snd V.none m := by
    intro l
    induction l with
    | nil => intro m _; rfl
    | cons y r ih =>
      intro m h
      simp only [List.cons_append, findA]
      rw [if_neg (h y (by simp)), ih m (fun z hz => h z (by simp [hz]))]
  unfold splice
  rw [List.append_assoc, happ _ _ hlo]
  by_cases hk : x.k = 0
  · rw [if_pos hk, hk]
    simp only [bne_self_eq_false, Bool.false_eq_true, if_false, List.nil_append]
    refine findA_none _ (fun y hy => ?_)
    obtain ⟨j, hj⟩ := List.mem_iff_getElem?.1 hy
    rw [List.getElem?_drop] at hj
    have h0 := ha.hi _ y (by omega) hj
    intro hz
    unfold thereB at hj
    cases hi : v.fs[i]? with
    | none =>
      have := List.getElem?_eq_none_iff.1 hi
      have := (List.getElem?_eq_some_iff.1 hj).1
      omega
    | some z =>
      rw [hi] at hj
      by_cases hz0 : fieldC num z = 0
      · have : (fieldC num z == 0) = true := by simpa using hz0
        simp only [this, if_true] at hj
        have := hr i (i + 1 + j) z y (by omega) hi (by simpa using hj) (by omega)
        omega
      · have : (fieldC num z == 0) = false := by simpa using hz0
        simp only [this, Bool.false_eq_true, if_false, Nat.add_zero] at hj
        by_cases hj0 : j = 0
        · subst hj0; rw [Nat.add_zero, hi] at hj; cases hj; exact hz0 hz
        · have := hr i (i + j) z y (by omega) hi hj (ha.hi i z (Nat.le_refl _) hi)
          omega
  · rw [if_neg hk]
    have hk' : (x.k != 0) = true := by simpa using hk
    rw [hk', if_pos rfl]
    simp only [List.cons_append, findA]
    rw [if_pos (by unfold fieldC; exact sgnI_zero.2 rfl)]
end Go.Proofs.YtcjflglpkpkflaaDoor
