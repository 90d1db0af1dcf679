/- Plain: runs in order. -/
import Derived.Test.YtidfjemblidjkaaMyU
namespace Go.Proofs.Ytidfjemblidjkaa
set_option linter.unusedVariables false
/-- steps in order: what has been dropped and put since the last keep comes ahead of the next one -/
structure TdS where
  ss : List Int
  d : Nat
  p : Nat
/-- so many of a kind more -/
def tdStep (s : TdS) (k : Int) (c : Nat) : TdS :=
  if k = 1 then (if c = 0 then s else ⟨s.ss ++ List.replicate s.d 2 ++ List.replicate s.p 3 ++ List.replicate c 1, 0, 0⟩) else if k = 2 then ⟨s.ss, s.d + c, s.p⟩ else if k = 3 then ⟨s.ss, s.d, s.p + c⟩ else s
def tdAll (rs : List Rn) : TdS := rs.foldl (fun s r => tdStep s r.1 r.2.toNat) ⟨[], 0, 0⟩
def tdEnd (s : TdS) : List Int := s.ss ++ List.replicate s.d 2 ++ List.replicate s.p 3
def tidyV (rs : List Rn) : List Rn := runsV (tdEnd (tdAll rs))
theorem tdAll_snoc (rs : List Rn) (r : Rn) : tdAll (rs ++ [r]) = tdStep (tdAll rs) r.1 r.2.toNat := by unfold tdAll; rw [List.foldl_append]; rfl
theorem tdStep_one {s : TdS} {c : Nat} (h : c ≠ 0) : tdStep s 1 c = ⟨s.ss ++ List.replicate s.d 2 ++ List.replicate s.p 3 ++ List.replicate c 1, 0, 0⟩ := by unfold tdStep; rw [if_pos rfl, if_neg h]
theorem tdStep_zero (s : TdS) (k : Int) : tdStep s k 0 = s := by unfold tdStep; split; rfl; split; rfl; split <;> rfl
theorem tdStep_two (s : TdS) (c : Nat) : tdStep s 2 c = ⟨s.ss, s.d + c, s.p⟩ := by unfold tdStep; rw [if_neg (by decide), if_pos rfl]
theorem tdStep_three (s : TdS) (c : Nat) : tdStep s 3 c = ⟨s.ss, s.d, s.p + c⟩ := by unfold tdStep; rw [if_neg (by decide), if_neg (by decide), if_pos rfl]
theorem tdStep_else {k : Int} (h1 : k ≠ 1) (h2 : k ≠ 2) (h3 : k ≠ 3) (s : TdS) (c : Nat) : tdStep s k c = s := by unfold tdStep; rw [if_neg h1, if_neg h2, if_neg h3]
/-- one more -/
theorem tdStep_succ (s : TdS) (k : Int) (c : Nat) : tdStep (tdStep s k c) k 1 = tdStep s k (c + 1) := by
  by_cases h1 : k = 1
  · subst h1
    by_cases h0 : c = 0
    · subst h0; rw [tdStep_zero]
    · rw [tdStep_one h0, tdStep_one (by decide), tdStep_one (by omega)]
      simp [List.replicate_succ']
  · by_cases h2 : k = 2
    · subst h2; rw [tdStep_two, tdStep_two, tdStep_two, Nat.add_assoc]
    · by_cases h3 : k = 3
      · subst h3; rw [tdStep_three, tdStep_three, tdStep_three, Nat.add_assoc]
      · rw [tdStep_else h1 h2 h3, tdStep_else h1 h2 h3, tdStep_else h1 h2 h3]
/-- how many steps there are -/
def tdLen (s : TdS) : Nat := s.ss.length + s.d + s.p
theorem tdStep_len (s : TdS) (k : Int) (c : Nat) : tdLen (tdStep s k c) ≤ tdLen s + c := by
  unfold tdStep tdLen
  split
  · split
    · omega
    · simp; omega
  · split
    · simp; omega
    · split <;> simp <;> omega
theorem tdAll_len {rs : List Rn} (hN : ∀ r ∈ rs, r.2 ≤ 200) : ∀ m, tdLen (tdAll (rs.take m)) ≤ 200 * m
  | 0 => by simp [tdAll, tdLen]
  | m + 1 => by
    have ih := tdAll_len hN m
    rw [List.take_add_one]
    cases h : rs[m]? with
    | none => simp; omega
    | some r =>
      have h1 := hN r (List.mem_of_getElem? h)
      show tdLen (tdAll (rs.take m ++ [r])) ≤ _
      rw [tdAll_snoc]
      have := tdStep_len (tdAll (rs.take m)) r.1 r.2.toNat
      omega
theorem tdEnd_len (s : TdS) : (tdEnd s).length = tdLen s := by unfold tdEnd tdLen; simp; omega
/-- the program's state: runs, and how many have been dropped and put -/
theorem tidy_run (s : TdS) : runsV (tdEnd s) = addR (addR (runsV s.ss) 2 s.d) 3 s.p := by unfold tdEnd; rw [runsV_rep, runsV_rep]
theorem tidy_one (s : TdS) {c : Nat} (h : c ≠ 0) : runsV (tdStep s 1 c).ss = addR (addR (addR (runsV s.ss) 2 s.d) 3 s.p) 1 c := by
  rw [tdStep_one h]
  show runsV (s.ss ++ List.replicate s.d 2 ++ List.replicate s.p 3 ++ List.replicate c 1) = _
  rw [runsV_rep, runsV_rep, runsV_rep]
/-- the last keep, which isn't theirs, is taken off -/
def trimR (rs : List Rn) (most : Int) : List Rn := match rs.getLast? with
  | some r => if r.2 - most = 0 then rs.dropLast else rs.dropLast ++ [(r.1, r.2 - most)]
  | none => []
theorem trim_add {rs : List Rn} {n : Nat} (hg : GoodR n rs) {most : Int} (hm : most ≠ 0) : trimR (addR rs 1 most) most = rs := by
  rcases List.eq_nil_or_concat rs with rfl | ⟨L, r, rfl⟩
  · rw [addR_nil 1 hm]; simp [trimR]
  · obtain ⟨k, d⟩ := r
    rw [List.concat_eq_append] at hg ⊢
    have hd := (hg (k, d) (by simp)).1
    simp only [] at hd
    by_cases hk : k = 1
    · subst hk
      rw [addR_same hm]
      unfold trimR
      simp only [List.getLast?_append, List.getLast?_singleton, Option.some_or, List.dropLast_concat]
      rw [if_neg (by omega)]
      congr 2
      simp
    · rw [addR_other hm hk]
      unfold trimR
      simp
/-! ### a way in order is a way -/
/-- the steps in order, one by one -/
def tdSt (s : TdS) (ss : List Int) : TdS := ss.foldl (fun s k => tdStep s k 1) s
theorem tdSt_rep (s : TdS) (k : Int) : ∀ c : Nat, tdSt s (List.replicate c k) = tdStep s k c
  | 0 => (tdStep_zero s k).symm
  | c + 1 => by
    rw [List.replicate_succ']
    unfold tdSt
    rw [List.foldl_append]
    have := tdSt_rep s k c
    unfold tdSt at this
    rw [this]
    exact tdStep_succ s k c
theorem tdSt_append (s : TdS) (ss ts : List Int) : tdSt s (ss ++ ts) = tdSt (tdSt s ss) ts := by unfold tdSt; rw [List.foldl_append]
theorem tdAll_steps (rs : List Rn) : tdAll rs = tdSt ⟨[], 0, 0⟩ (stepsOf rs) := by
  refine snoc_ind (P := fun rs => tdAll rs = tdSt ⟨[], 0, 0⟩ (stepsOf rs)) rfl ?_ rs
  intro rs r ih
  rw [tdAll_snoc, ih, stepsOf_append, tdSt_append]
  unfold stepsOf
  simp only [List.flatMap_cons, List.flatMap_nil, List.append_nil]
  rw [tdSt_rep]
/-- a way from the beginning through what is behind -/
theorem wayP_tail : ∀ (ss : List Int) (s : TdS) (A B a b : List Int), A.length = s.d → B.length = s.p → kindsOk ss → wayP ss a b = true →
    ∃ ts, tdEnd (tdSt s ss) = s.ss ++ ts ∧ wayP ts (A ++ a) (B ++ b) = true
  | [], s, A, B, a, b, hA, hB, _, h => by
    unfold wayP at h
    simp at h
    obtain ⟨rfl, rfl⟩ := h
    refine ⟨List.replicate s.d 2 ++ List.replicate s.p 3, by unfold tdSt tdEnd; simp, ?_⟩
    rw [List.append_nil, List.append_nil, wayN2 _ _ _ _ (by omega), ← hA, List.drop_length]
    have := wayN3 s.p [] [] B (by omega)
    rw [List.append_nil] at this
    rw [this, ← hB, List.drop_length]; rfl
  | t :: ss, s, A, B, a, b, hA, hB, hk, h => by
    have hks : kindsOk ss := fun u hu => hk u (by simp [hu])
    have h1 := hk t (by simp)
    rcases (show t = 1 ∨ t = 2 ∨ t = 3 by omega) with rfl | rfl | rfl
    · cases a with
      | nil => rw [wayP_1a] at h; cases h
      | cons p a =>
        cases b with
        | nil => rw [wayP_1b] at h; cases h
        | cons q b =>
          rw [wayP_1] at h
          simp at h
          obtain ⟨rfl, h⟩ := h
          obtain ⟨ts, h2, h3⟩ := wayP_tail ss (tdStep s 1 1) [] [] a b (by rw [tdStep_one (by decide)]; rfl) (by rw [tdStep_one (by decide)]; rfl) hks h
          refine ⟨List.replicate s.d 2 ++ (List.replicate s.p 3 ++ (1 :: ts)), ?_, ?_⟩
          · show tdEnd (tdSt (tdStep s 1 1) ss) = _
            rw [h2, tdStep_one (by decide)]; simp
          · rw [wayN2 _ _ _ _ (by simp; omega), wayN3 _ _ _ _ (by simp; omega), ← hA, ← hB, List.drop_left, List.drop_left, wayP_1]
            simpa using h3
    · cases a with
      | nil => rw [wayP_2a] at h; cases h
      | cons p a =>
        rw [wayP_2] at h
        obtain ⟨ts, h2, h3⟩ := wayP_tail ss (tdStep s 2 1) (A ++ [p]) B a b (by rw [tdStep_two]; simp; omega) (by rw [tdStep_two]; exact hB) hks h
        refine ⟨ts, ?_, by simpa using h3⟩
        show tdEnd (tdSt (tdStep s 2 1) ss) = _
        rw [h2, tdStep_two]
    · cases b with
      | nil => rw [wayP_3b] at h; cases h
      | cons p b =>
        rw [wayP_3] at h
        obtain ⟨ts, h2, h3⟩ := wayP_tail ss (tdStep s 3 1) A (B ++ [p]) a b (by rw [tdStep_three]; exact hA) (by rw [tdStep_three]; simp; omega) hks h
        refine ⟨ts, ?_, by simpa using h3⟩
        show tdEnd (tdSt (tdStep s 3 1) ss) = _
        rw [h2, tdStep_three]
theorem tdStep_kinds {s : TdS} (h : kindsOk s.ss) (k : Int) (c : Nat) : kindsOk (tdStep s k c).ss := by
  unfold tdStep
  split
  · split
    · exact h
    · intro t ht
      simp only [List.mem_append] at ht
      rcases ht with ((ht | ht) | ht) | ht
      · exact h t ht
      · have := List.eq_of_mem_replicate ht; omega
      · have := List.eq_of_mem_replicate ht; omega
      · have := List.eq_of_mem_replicate ht; omega
  · split
    · exact h
    · split <;> exact h
theorem tdAll_kinds (rs : List Rn) : kindsOk (tdEnd (tdAll rs)) := by
  have h : kindsOk (tdAll rs).ss := by
    refine snoc_ind (P := fun rs => kindsOk (tdAll rs).ss) (fun t ht => by simp [tdAll] at ht) ?_ rs
    intro rs r ih
    rw [tdAll_snoc]
    exact tdStep_kinds ih _ _
  intro t ht
  unfold tdEnd at ht
  simp only [List.mem_append] at ht
  rcases ht with (ht | ht) | ht
  · exact h t ht
  · have := List.eq_of_mem_replicate ht; omega
  · have := List.eq_of_mem_replicate ht; omega
theorem tidy_way {rs : List Rn} {a b : List Int} (h : wayB rs a b = true) : wayB (tidyV rs) a b = true := by
  unfold wayB at h
  simp only [Bool.and_eq_true] at h
  obtain ⟨ts, h1, h2⟩ := wayP_tail (stepsOf rs) ⟨[], 0, 0⟩ [] [] a b rfl rfl (rightB_kinds h.1) h.2
  unfold wayB tidyV
  rw [runsV_right (tdAll_kinds rs), stepsOf_runsV, tdAll_steps, h1]
  simpa using h2
end Go.Proofs.Ytidfjemblidjkaa
