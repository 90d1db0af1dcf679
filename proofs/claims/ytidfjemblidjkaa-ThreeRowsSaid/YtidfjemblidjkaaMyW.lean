/- Plain: which runs are a way, how many edits they have, runs in order. -/
import Derived.Test.YtidfjemblidjkaaMyC
namespace Go.Proofs.Ytidfjemblidjkaa
set_option linter.unusedVariables false
/-- runs as steps -/
def stepsOf (rs : List Rn) : List Int := rs.flatMap fun r => List.replicate r.2.toNat r.1
theorem stepsOf_cons (r : Rn) (rs : List Rn) : stepsOf (r :: rs) = List.replicate r.2.toNat r.1 ++ stepsOf rs := rfl
theorem stepsOf_append (rs qs : List Rn) : stepsOf (rs ++ qs) = stepsOf rs ++ stepsOf qs := by unfold stepsOf; rw [List.flatMap_append]
/-- are steps a way? -/
def wayP : List Int → List Int → List Int → Bool
  | [], a, b => a.isEmpty && b.isEmpty
  | s :: ss, a, b => if s = 1 then (match a, b with | p :: us, q :: bs => p == q && wayP ss us bs | _, _ => false) else if s = 2 then (match a with | _ :: us => wayP ss us b | [] => false) else (match b with | _ :: bs => wayP ss a bs | [] => false)
theorem wayP_1 (p q : Int) (ss us bs : List Int) : wayP (1 :: ss) (p :: us) (q :: bs) = (p == q && wayP ss us bs) := by simp [wayP]
theorem wayP_1a (ss bs : List Int) : wayP (1 :: ss) [] bs = false := by simp [wayP]
theorem wayP_1b (ss us : List Int) : wayP (1 :: ss) us [] = false := by cases us <;> simp [wayP]
theorem wayP_2 (p : Int) (ss us bs : List Int) : wayP (2 :: ss) (p :: us) bs = wayP ss us bs := by simp [wayP]
theorem wayP_2a (ss bs : List Int) : wayP (2 :: ss) [] bs = false := by simp [wayP]
theorem wayP_3 (q : Int) (ss us bs : List Int) : wayP (3 :: ss) us (q :: bs) = wayP ss us bs := by simp [wayP]
theorem wayP_3b (ss us : List Int) : wayP (3 :: ss) us [] = false := by simp [wayP]
/-- is a run right? -/
def rightR (r : Rn) : Bool := decide (1 ≤ r.1 ∧ r.1 ≤ 3 ∧ 1 ≤ r.2)
def rightB (rs : List Rn) : Bool := rs.all rightR
def wayB (rs : List Rn) (a b : List Int) : Bool := rightB rs && wayP (stepsOf rs) a b
/-- how many edits runs have -/
def editsV (rs : List Rn) : Int := (rs.map fun r => if rightR r ∧ r.1 ≠ 1 then r.2 else 0).sum
theorem editsV_cons (r : Rn) (rs : List Rn) : editsV (r :: rs) = (if rightR r ∧ r.1 ≠ 1 then r.2 else 0) + editsV rs := by simp [editsV]
theorem editsV_append (rs qs : List Rn) : editsV (rs ++ qs) = editsV rs + editsV qs := by simp [editsV]
section
variable {a b : List Int} {x y : Nat}
/-! ### one step, by places -/
theorem way1_yes {ss : List Int} (hx : x < a.length) (hy : y < b.length) (h : a[x] = b[y]) : wayP (1 :: ss) (a.drop x) (b.drop y) = wayP ss (a.drop (x + 1)) (b.drop (y + 1)) := by
  rw [drop_cons hx, drop_cons hy, wayP_1, h]; simp
theorem way1_no {ss : List Int} (hx : x < a.length) (hy : y < b.length) (h : ¬ a[x] = b[y]) : wayP (1 :: ss) (a.drop x) (b.drop y) = false := by
  rw [drop_cons hx, drop_cons hy, wayP_1]; simp [h]
theorem way1_a {ss : List Int} (hx : a.length ≤ x) : wayP (1 :: ss) (a.drop x) (b.drop y) = false := by rw [List.drop_of_length_le hx, wayP_1a]
theorem way1_b {ss : List Int} (hy : b.length ≤ y) : wayP (1 :: ss) (a.drop x) (b.drop y) = false := by rw [List.drop_of_length_le hy, wayP_1b]
theorem way2_yes {ss : List Int} (hx : x < a.length) : wayP (2 :: ss) (a.drop x) (b.drop y) = wayP ss (a.drop (x + 1)) (b.drop y) := by rw [drop_cons hx, wayP_2]
theorem way2_a {ss : List Int} (hx : a.length ≤ x) : wayP (2 :: ss) (a.drop x) (b.drop y) = false := by rw [List.drop_of_length_le hx, wayP_2a]
theorem way3_yes {ss : List Int} (hy : y < b.length) : wayP (3 :: ss) (a.drop x) (b.drop y) = wayP ss (a.drop x) (b.drop (y + 1)) := by rw [drop_cons hy, wayP_3]
theorem way3_b {ss : List Int} (hy : b.length ≤ y) : wayP (3 :: ss) (a.drop x) (b.drop y) = false := by rw [List.drop_of_length_le hy, wayP_3b]
theorem way_end (hx : x ≤ a.length) (hy : y ≤ b.length) : wayP [] (a.drop x) (b.drop y) = (decide (x = a.length) && decide (y = b.length)) := by
  have h1 : (a.drop x).isEmpty = decide (x = a.length) := by
    rw [Bool.eq_iff_iff]; simp; omega
  have h2 : (b.drop y).isEmpty = decide (y = b.length) := by
    rw [Bool.eq_iff_iff]; simp; omega
  unfold wayP
  rw [h1, h2]
end
/-! ### many steps of a kind -/
theorem wayN1 : ∀ (n : Nat) (ss a b : List Int), n ≤ a.length → n ≤ b.length → wayP (List.replicate n 1 ++ ss) a b = (a.take n == b.take n && wayP ss (a.drop n) (b.drop n))
  | 0, ss, a, b, _, _ => by simp
  | n + 1, ss, p :: a, q :: b, h1, h2 => by
    rw [List.replicate_succ, List.cons_append, wayP_1, wayN1 n ss a b (by simpa using h1) (by simpa using h2)]
    simp [Bool.and_assoc]
theorem wayN1_no : ∀ (n : Nat) (ss a b : List Int), a.length < n ∨ b.length < n → wayP (List.replicate n 1 ++ ss) a b = false
  | 0, ss, a, b, h => by omega
  | n + 1, ss, [], b, _ => by rw [List.replicate_succ, List.cons_append, wayP_1a]
  | n + 1, ss, p :: a, [], _ => by rw [List.replicate_succ, List.cons_append, wayP_1b]
  | n + 1, ss, p :: a, q :: b, h => by
    rw [List.replicate_succ, List.cons_append, wayP_1, wayN1_no n ss a b (by simpa using h), Bool.and_false]
theorem wayN2 : ∀ (n : Nat) (ss a b : List Int), n ≤ a.length → wayP (List.replicate n 2 ++ ss) a b = wayP ss (a.drop n) b
  | 0, ss, a, b, _ => by simp
  | n + 1, ss, p :: a, b, h1 => by
    rw [List.replicate_succ, List.cons_append, wayP_2, wayN2 n ss a b (by simpa using h1)]; rfl
theorem wayN2_no : ∀ (n : Nat) (ss a b : List Int), a.length < n → wayP (List.replicate n 2 ++ ss) a b = false
  | 0, ss, a, b, h => by omega
  | n + 1, ss, [], b, _ => by rw [List.replicate_succ, List.cons_append, wayP_2a]
  | n + 1, ss, p :: a, b, h => by
    rw [List.replicate_succ, List.cons_append, wayP_2, wayN2_no n ss a b (by simpa using h)]
theorem wayN3 : ∀ (n : Nat) (ss a b : List Int), n ≤ b.length → wayP (List.replicate n 3 ++ ss) a b = wayP ss a (b.drop n)
  | 0, ss, a, b, _ => by simp
  | n + 1, ss, a, p :: b, h1 => by
    rw [List.replicate_succ, List.cons_append, wayP_3, wayN3 n ss a b (by simpa using h1)]; rfl
theorem wayN3_no : ∀ (n : Nat) (ss a b : List Int), b.length < n → wayP (List.replicate n 3 ++ ss) a b = false
  | 0, ss, a, b, h => by omega
  | n + 1, ss, a, [], _ => by rw [List.replicate_succ, List.cons_append, wayP_3b]
  | n + 1, ss, a, p :: b, h => by
    rw [List.replicate_succ, List.cons_append, wayP_3, wayN3_no n ss a b (by simpa using h)]
/-! ### what aligns is a way with the least edits -/
def kindsOk (ss : List Int) : Prop := ∀ s ∈ ss, 1 ≤ s ∧ s ≤ 3
/-- how many steps aren't keeps -/
def nonK (ss : List Int) : Nat := (ss.filter fun s => s ≠ 1).length
theorem nonK_cons (s : Int) (ss : List Int) : nonK (s :: ss) = (if s = 1 then 0 else 1) + nonK ss := by
  unfold nonK
  by_cases h : s = 1 <;> simp [h, Nat.add_comm]
theorem nonK_append (ss ts : List Int) : nonK (ss ++ ts) = nonK ss + nonK ts := by unfold nonK; rw [List.filter_append, List.length_append]
theorem nonK_rep (k : Int) : ∀ n : Nat, nonK (List.replicate n k) = if k = 1 then 0 else n
  | 0 => by simp [nonK]
  | n + 1 => by rw [List.replicate_succ, nonK_cons, nonK_rep k n]; split <;> omega
theorem wayP_T : ∀ (n : Nat) (us bs : List Int), us.length + bs.length ≤ n → wayP (stepsT us bs) us bs = true ∧ nonK (stepsT us bs) = dist us bs ∧ kindsOk (stepsT us bs)
  | _, [], bs, _ => by
    rw [stepsT_nil, dist_nil]
    refine ⟨?_, by rw [nonK_rep]; simp, fun s hs => by have := List.eq_of_mem_replicate hs; omega⟩
    have := wayN3 bs.length [] [] bs (Nat.le_refl _)
    rw [List.append_nil] at this
    rw [this]; simp [wayP]
  | _, x :: us, [], _ => by
    rw [stepsT_nil', dist_nil']
    refine ⟨?_, by rw [nonK_rep]; simp, fun s hs => by have := List.eq_of_mem_replicate hs; omega⟩
    have := wayN2 (x :: us).length [] (x :: us) [] (Nat.le_refl _)
    rw [List.append_nil] at this
    rw [this]; simp [wayP]
  | 0, x :: us, y :: bs, h => by simp at h
  | n + 1, x :: us, y :: bs, h => by
    simp only [List.length_cons] at h
    by_cases e : x = y
    · subst e
      obtain ⟨h1, h2, h3⟩ := wayP_T n us bs (by omega)
      rw [stepsT_same, dist_same]
      exact ⟨by rw [wayP_1, h1]; simp, by rw [nonK_cons, h2]; simp, fun s hs => by rcases List.mem_cons.1 hs with rfl | hs; omega; exact h3 s hs⟩
    · by_cases h2 : dist us (y :: bs) ≤ dist (x :: us) bs
      · obtain ⟨k1, k2, k3⟩ := wayP_T n us (y :: bs) (by simp only [List.length_cons]; omega)
        rw [stepsT_drop e h2, dist_other e, Nat.min_eq_left h2]
        exact ⟨by rw [wayP_2]; exact k1, by rw [nonK_cons, k2]; simp; omega, fun s hs => by rcases List.mem_cons.1 hs with rfl | hs; omega; exact k3 s hs⟩
      · obtain ⟨k1, k2, k3⟩ := wayP_T n (x :: us) bs (by simp only [List.length_cons]; omega)
        rw [stepsT_put e h2, dist_other e, Nat.min_eq_right (by omega)]
        exact ⟨by rw [wayP_3]; exact k1, by rw [nonK_cons, k2]; simp; omega, fun s hs => by rcases List.mem_cons.1 hs with rfl | hs; omega; exact k3 s hs⟩
theorem wayP_least : ∀ (ss a b : List Int), kindsOk ss → wayP ss a b = true → dist a b ≤ nonK ss
  | [], a, b, _, h => by
    unfold wayP at h
    simp at h
    rw [h.1, h.2, dist_nil]; simp
  | s :: ss, a, b, hk, h => by
    have hks : kindsOk ss := fun t ht => hk t (by simp [ht])
    have h1 := hk s (by simp)
    rcases (show s = 1 ∨ s = 2 ∨ s = 3 by omega) with rfl | rfl | rfl
    · cases a with
      | nil => rw [wayP_1a] at h; cases h
      | cons p a =>
        cases b with
        | nil => rw [wayP_1b] at h; cases h
        | cons q b =>
          rw [wayP_1] at h
          simp at h
          obtain ⟨rfl, h⟩ := h
          rw [dist_same, nonK_cons]
          have := wayP_least ss a b hks h
          simp; omega
    · cases a with
      | nil => rw [wayP_2a] at h; cases h
      | cons p a =>
        rw [wayP_2] at h
        rw [nonK_cons]
        have := wayP_least ss a b hks h
        have := dist_drop_l p a b
        simp; omega
    · cases b with
      | nil => rw [wayP_3b] at h; cases h
      | cons q b =>
        rw [wayP_3] at h
        rw [nonK_cons]
        have := wayP_least ss a b hks h
        have := dist_drop_r q a b
        simp; omega
theorem rightB_kinds {rs : List Rn} (h : rightB rs = true) : kindsOk (stepsOf rs) := fun s hs => by
  unfold stepsOf at hs
  obtain ⟨r, hr, hs⟩ := List.mem_flatMap.1 hs
  have h1 := List.all_eq_true.1 h r hr
  unfold rightR at h1
  simp at h1
  have := List.eq_of_mem_replicate hs
  omega
theorem editsV_nonK {rs : List Rn} (h : rightB rs = true) : editsV rs = nonK (stepsOf rs) := by
  induction rs with
  | nil => rfl
  | cons r rs ih =>
    unfold rightB at h
    rw [List.all_cons] at h
    simp only [Bool.and_eq_true] at h
    rw [editsV_cons, stepsOf_cons, nonK_append, nonK_rep, ih h.2]
    have h1 := h.1
    unfold rightR at h1
    simp at h1
    by_cases hk : r.1 = 1
    · simp [hk]
    · rw [if_pos ⟨h.1, hk⟩, if_neg hk]; push_cast; omega
theorem stepsOf_addR {rs : List Rn} {n : Nat} (hg : GoodR n rs) {k c : Int} (hc : 0 ≤ c) : stepsOf (addR rs k c) = stepsOf rs ++ List.replicate c.toNat k := by
  by_cases h0 : c = 0
  · subst h0; rw [addR_zero]; simp
  · rcases List.eq_nil_or_concat rs with rfl | ⟨L, r, rfl⟩
    · rw [addR_nil k h0]; simp [stepsOf]
    · obtain ⟨k2, d⟩ := r
      rw [List.concat_eq_append] at hg ⊢
      by_cases hk : k2 = k
      · subst hk
        have hd := hg (k2, d) (by simp)
        rw [addR_same h0, stepsOf_append, stepsOf_append, List.append_assoc]
        congr 1
        simp only [] at hd
        simp only [stepsOf, List.flatMap_cons, List.flatMap_nil, List.append_nil]
        rw [List.replicate_append_replicate]
        congr 1
        omega
      · rw [addR_other h0 hk, stepsOf_append]
        simp [stepsOf]
theorem stepsOf_runsV (ss : List Int) : stepsOf (runsV ss) = ss := by
  refine snoc_ind (P := fun ss => stepsOf (runsV ss) = ss) rfl ?_ ss
  intro ss s ih
  rw [runsV_snoc, stepsOf_addR (runsV_good ss).1 (by decide), ih]; rfl
theorem addR_right {rs : List Rn} {n : Nat} (hg : GoodR n rs) (h : rightB rs = true) {k c : Int} (hk : 1 ≤ k ∧ k ≤ 3) (hc : 0 ≤ c) : rightB (addR rs k c) = true := by
  by_cases h0 : c = 0
  · subst h0; rw [addR_zero]; exact h
  · rcases List.eq_nil_or_concat rs with rfl | ⟨L, r, rfl⟩
    · rw [addR_nil k h0]; simp [rightB, rightR]; omega
    · obtain ⟨k2, d⟩ := r
      rw [List.concat_eq_append] at hg h ⊢
      unfold rightB at h ⊢
      rw [List.all_append] at h
      simp only [Bool.and_eq_true, List.all_cons, List.all_nil, Bool.and_true] at h
      by_cases hk2 : k2 = k
      · subst hk2
        rw [addR_same h0, List.all_append]
        simp only [Bool.and_eq_true, List.all_cons, List.all_nil, Bool.and_true]
        refine ⟨h.1, ?_⟩
        have := h.2
        unfold rightR at this ⊢
        simp at this ⊢
        omega
      · rw [addR_other h0 hk2, List.all_append, List.all_append]
        simp only [Bool.and_eq_true, List.all_cons, List.all_nil, Bool.and_true]
        refine ⟨⟨h.1, h.2⟩, ?_⟩
        unfold rightR
        simp; omega
theorem runsV_right {ss : List Int} (h : kindsOk ss) : rightB (runsV ss) = true := by
  revert h
  refine snoc_ind (P := fun ss => kindsOk ss → rightB (runsV ss) = true) (fun _ => rfl) ?_ ss
  intro ss s ih h
  rw [runsV_snoc]
  exact addR_right (runsV_good ss).1 (ih (fun t ht => h t (by simp [ht]))) (h s (by simp)) (by decide)
theorem align_way {a b : List Int} (h : dist a b ≤ 400) : wayB (alignV a b) a b = true ∧ editsV (alignV a b) = dist a b := by
  have he : stepsV a b = stepsT a b := by unfold stepsV; rw [if_neg (by omega)]
  obtain ⟨h1, h2, h3⟩ := wayP_T _ a b (Nat.le_refl _)
  have hr : rightB (alignV a b) = true := by unfold alignV; rw [he]; exact runsV_right h3
  refine ⟨?_, ?_⟩
  · unfold wayB; rw [hr]; unfold alignV; rw [he, stepsOf_runsV, h1]; rfl
  · rw [editsV_nonK hr]; unfold alignV; rw [he, stepsOf_runsV, h2]
theorem way_least {rs : List Rn} {a b : List Int} (h : wayB rs a b = true) : (dist a b : Int) ≤ editsV rs := by
  unfold wayB at h
  simp only [Bool.and_eq_true] at h
  rw [editsV_nonK h.1]
  have := wayP_least _ a b (rightB_kinds h.1) h.2
  omega
/-- no two runs of a kind, one behind the other -/
def parted : List Rn → Prop
  | r :: s :: rs => r.1 ≠ s.1 ∧ parted (s :: rs)
  | _ => True
theorem parted_snoc : ∀ (rs : List Rn) (r s : Rn), parted (rs ++ [r]) → r.1 ≠ s.1 → parted (rs ++ [r] ++ [s])
  | [], r, s, _, h => ⟨h, trivial⟩
  | [q], r, s, hp, h => ⟨hp.1, h, trivial⟩
  | p :: q :: rs, r, s, hp, h => ⟨hp.1, parted_snoc (q :: rs) r s hp.2 h⟩
theorem parted_swap : ∀ (rs : List Rn) (r s : Rn), parted (rs ++ [r]) → r.1 = s.1 → parted (rs ++ [s])
  | [], r, s, _, h => trivial
  | [q], r, s, hp, h => ⟨by rw [← h]; exact hp.1, trivial⟩
  | p :: q :: rs, r, s, hp, h => ⟨hp.1, parted_swap (q :: rs) r s hp.2 h⟩
theorem addR_parted {rs : List Rn} (h : parted rs) (k c : Int) : parted (addR rs k c) := by
  by_cases h0 : c = 0
  · subst h0; rw [addR_zero]; exact h
  · rcases List.eq_nil_or_concat rs with rfl | ⟨L, r, rfl⟩
    · rw [addR_nil k h0]; trivial
    · obtain ⟨k2, d⟩ := r
      rw [List.concat_eq_append] at h ⊢
      by_cases hk : k2 = k
      · subst hk
        rw [addR_same h0]
        exact parted_swap L _ _ h rfl
      · rw [addR_other h0 hk]
        exact parted_snoc L _ _ h hk
theorem runsV_parted (ss : List Int) : parted (runsV ss) := by
  refine snoc_ind (P := fun ss => parted (runsV ss)) trivial ?_ ss
  intro ss s ih
  rw [runsV_snoc]
  exact addR_parted ih s 1
theorem parted_at : ∀ (rs : List Rn) (i : Nat) (r s : Rn), parted rs → rs[i]? = some r → rs[i + 1]? = some s → r.1 ≠ s.1
  | [], i, r, s, _, h, _ => by simp at h
  | [p], i, r, s, _, _, h => by simp at h
  | p :: q :: rs, 0, r, s, hp, h1, h2 => by
    simp at h1 h2
    subst h1; subst h2; exact hp.1
  | p :: q :: rs, i + 1, r, s, hp, h1, h2 => parted_at (q :: rs) i r s hp.2 (by simpa using h1) (by simpa using h2)
/-- a row with itself -/
theorem stepsT_self : ∀ a : List Int, stepsT a a = List.replicate a.length 1
  | [] => by rw [stepsT_nil]; rfl
  | x :: a => by rw [stepsT_same, stepsT_self a]; rfl
theorem align_self (a : List Int) : alignV a a = if a.length = 0 then [] else [(1, (a.length : Int))] := by
  have hd : dist a a = 0 := (dist_zero a a).2 rfl
  have he : stepsV a a = List.replicate a.length 1 := by unfold stepsV; rw [if_neg (by omega), stepsT_self]
  unfold alignV
  rw [he, ← List.nil_append (List.replicate a.length (1 : Int)), runsV_rep]
  show addR [] 1 a.length = _
  by_cases h : a.length = 0
  · rw [if_pos h, h]; rfl
  · rw [if_neg h, addR_nil 1 (by omega)]
end Go.Proofs.Ytidfjemblidjkaa
