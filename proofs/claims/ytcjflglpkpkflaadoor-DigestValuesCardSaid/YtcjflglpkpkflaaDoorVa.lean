/- Values as trees, plain: weight, size, depth, order, what is right; no program. -/
import Derived.Test.YtcjflglpkpkflaaDoorLib
namespace Go.Proofs.YtcjflglpkpkflaaDoor
set_option linter.unusedVariables false
/-- a value as a tree, plain -/
inductive V where
  | mk (k : Int) (n : Nat) (t : List UInt8) (fs : List (Int × V)) (r : List UInt8) (ls : List V) (ps : List (V × V))
def V.k : V → Int | .mk k _ _ _ _ _ _ => k
def V.n : V → Nat | .mk _ n _ _ _ _ _ => n
def V.t : V → List UInt8 | .mk _ _ t _ _ _ _ => t
def V.fs : V → List (Int × V) | .mk _ _ _ fs _ _ _ => fs
def V.r : V → List UInt8 | .mk _ _ _ _ r _ _ => r
def V.ls : V → List V | .mk _ _ _ _ _ ls _ => ls
def V.ps : V → List (V × V) | .mk _ _ _ _ _ _ ps => ps
theorem V.eta : ∀ v : V, V.mk v.k v.n v.t v.fs v.r v.ls v.ps = v | .mk _ _ _ _ _ _ _ => rfl
def V.none : V := .mk 0 0 [] [] [] [] []
theorem V.ind {P : V → Prop} (h : ∀ v : V, (∀ p ∈ v.fs, P p.2) → (∀ x ∈ v.ls, P x) → (∀ p ∈ v.ps, P p.1 ∧ P p.2) → P v) : ∀ v, P v
  | .mk k n t fs r ls ps => h (.mk k n t fs r ls ps) (fun p hp => V.ind h p.2) (fun x hx => V.ind h x) (fun p hp => ⟨V.ind h p.1, V.ind h p.2⟩)
termination_by v => SizeOf.sizeOf v
decreasing_by
  all_goals
    first
      | (have h1 := List.sizeOf_lt_of_mem (show p ∈ fs from hp); obtain ⟨a, b⟩ := p; simp at h1 ⊢; omega)
      | (have h1 := List.sizeOf_lt_of_mem (show p ∈ ps from hp); obtain ⟨a, b⟩ := p; simp at h1 ⊢; omega)
      | (have h1 := List.sizeOf_lt_of_mem (show x ∈ ls from hx); simp at h1 ⊢; omega)
/-! ### a weight that bounds all that is reckoned -/
mutual
def wV : V → Nat
  | .mk _ _ t fs r ls ps => 1 + t.length + r.length + wF fs + wL ls + wP ps
def wF : List (Int × V) → Nat
  | [] => 0
  | (_, v) :: r => 1 + wV v + wF r
def wL : List V → Nat
  | [] => 0
  | v :: r => 1 + wV v + wL r
def wP : List (V × V) → Nat
  | [] => 0
  | (a, b) :: r => 1 + wV a + wV b + wP r
end
theorem wV_eq (v : V) : wV v = 1 + v.t.length + v.r.length + wF v.fs + wL v.ls + wP v.ps := by cases v; rfl
theorem wF_len : ∀ l, l.length ≤ wF l
  | [] => Nat.le_refl _
  | (n, v) :: r => by have := wF_len r; simp [wF]; omega
theorem wL_len : ∀ l, l.length ≤ wL l
  | [] => Nat.le_refl _
  | v :: r => by have := wL_len r; simp [wL]; omega
theorem wP_len : ∀ l, l.length ≤ wP l
  | [] => Nat.le_refl _
  | (a, b) :: r => by have := wP_len r; simp [wP]; omega
theorem wF_mem : ∀ l, ∀ p ∈ l, wV p.2 < wF l
  | [], p, h => by cases h
  | (n, v) :: r, p, h => by
    rcases List.mem_cons.1 h with rfl | h
    · simp [wF]; omega
    · have := wF_mem r p h; simp [wF]; omega
theorem wL_mem : ∀ l, ∀ p ∈ l, wV p < wL l
  | [], p, h => by cases h
  | v :: r, p, h => by
    rcases List.mem_cons.1 h with rfl | h
    · simp [wL]; omega
    · have := wL_mem r p h; simp [wL]; omega
theorem wP_mem : ∀ l, ∀ p ∈ l, wV p.1 + wV p.2 < wP l
  | [], p, h => by cases h
  | (a, b) :: r, p, h => by
    rcases List.mem_cons.1 h with rfl | h
    · simp [wP]; omega
    · have := wP_mem r p h; simp [wP]; omega
/-! ### size, depth -/
mutual
def sizeV : V → Nat
  | .mk k _ _ fs _ ls ps => if k = 0 then 0 else 1 + sizeF fs + sizeL ls + sizeP ps
def sizeF : List (Int × V) → Nat
  | [] => 0
  | (_, v) :: r => sizeV v + sizeF r
def sizeL : List V → Nat
  | [] => 0
  | v :: r => sizeV v + sizeL r
def sizeP : List (V × V) → Nat
  | [] => 0
  | (a, b) :: r => sizeV a + sizeV b + sizeP r
end
mutual
def depthV : V → Nat
  | .mk k _ _ fs _ ls ps => max (max (depthF fs) (depthL ls)) (depthP ps) + if k = 3 then 1 else 0
def depthF : List (Int × V) → Nat
  | [] => 0
  | (_, v) :: r => max (depthV v) (depthF r)
def depthL : List V → Nat
  | [] => 0
  | v :: r => max (depthV v) (depthL r)
def depthP : List (V × V) → Nat
  | [] => 0
  | (a, b) :: r => max (max (depthV a) (depthV b)) (depthP r)
end
mutual
theorem sizeV_le : ∀ v, sizeV v ≤ wV v
  | .mk k n t fs r ls ps => by
    have h1 := sizeF_le fs
    have h2 := sizeL_le ls
    have h3 := sizeP_le ps
    simp only [sizeV, wV]
    split <;> omega
theorem sizeF_le : ∀ l, sizeF l ≤ wF l
  | [] => Nat.le_refl _
  | (n, v) :: r => by have h1 := sizeV_le v; have h2 := sizeF_le r; simp only [sizeF, wF]; omega
theorem sizeL_le : ∀ l, sizeL l ≤ wL l
  | [] => Nat.le_refl _
  | v :: r => by have h1 := sizeV_le v; have h2 := sizeL_le r; simp only [sizeL, wL]; omega
theorem sizeP_le : ∀ l, sizeP l ≤ wP l
  | [] => Nat.le_refl _
  | (a, b) :: r => by have h1 := sizeV_le a; have h3 := sizeV_le b; have h2 := sizeP_le r; simp only [sizeP, wP]; omega
end
theorem depthF_mem : ∀ l, ∀ p ∈ l, depthV p.2 ≤ depthF l
  | [], p, h => by cases h
  | (n, v) :: r, p, h => by
    rcases List.mem_cons.1 h with rfl | h
    · simp only [depthF]; omega
    · have := depthF_mem r p h; simp only [depthF]; omega
mutual
theorem depthV_le : ∀ v, depthV v ≤ wV v
  | .mk k n t fs r ls ps => by
    have h1 := depthF_le fs
    have h2 := depthL_le ls
    have h3 := depthP_le ps
    simp only [depthV, wV]
    split <;> omega
theorem depthF_le : ∀ l, depthF l ≤ wF l
  | [] => Nat.le_refl _
  | (n, v) :: r => by have h1 := depthV_le v; have h2 := depthF_le r; simp only [depthF, wF]; omega
theorem depthL_le : ∀ l, depthL l ≤ wL l
  | [] => Nat.le_refl _
  | v :: r => by have h1 := depthV_le v; have h2 := depthL_le r; simp only [depthL, wL]; omega
theorem depthP_le : ∀ l, depthP l ≤ wP l
  | [] => Nat.le_refl _
  | (a, b) :: r => by have h1 := depthV_le a; have h3 := depthV_le b; have h2 := depthP_le r; simp only [depthP, wP]; omega
end
/-! ### great: how much more there may be -/
mutual
def greatV : V → Int → Int → Int
  | .mk _ _ t fs r ls ps, left, deep => if deep = 0 ∨ 400 < t.length ∨ 400 < r.length then -1 else greatP ps (greatL ls (greatF fs (left - 1) (deep - 1)) (deep - 1)) (deep - 1)
def greatF : List (Int × V) → Int → Int → Int
  | [], left, _ => left
  | (_, v) :: r, left, deep => greatF r (if 0 ≤ left then greatV v left deep else left) deep
def greatL : List V → Int → Int → Int
  | [], left, _ => left
  | v :: r, left, deep => greatL r (if 0 ≤ left then greatV v left deep else left) deep
def greatP : List (V × V) → Int → Int → Int
  | [], left, _ => left
  | (a, b) :: r, left, deep => greatP r (if 0 ≤ (if 0 ≤ left then greatV a left deep else left) then greatV b (if 0 ≤ left then greatV a left deep else left) deep else (if 0 ≤ left then greatV a left deep else left)) deep
end
mutual
theorem greatV_bd : ∀ (v : V) (left deep : Int), 0 ≤ left → -1 ≤ greatV v left deep ∧ greatV v left deep ≤ left
  | .mk k n t fs r ls ps, left, deep => by
    intro h
    simp only [greatV]
    split
    · omega
    · have h1 := greatF_bd fs (left - 1) (deep - 1) (by omega)
      have h2 := greatL_bd ls _ (deep - 1) h1.1
      have h3 := greatP_bd ps _ (deep - 1) h2.1
      omega
theorem greatF_bd : ∀ (l : List (Int × V)) (left deep : Int), -1 ≤ left → -1 ≤ greatF l left deep ∧ greatF l left deep ≤ left
  | [], left, deep => by intro h; simp only [greatF]; omega
  | (n, v) :: r, left, deep => by
    intro h
    simp only [greatF]
    by_cases h0 : 0 ≤ left
    · rw [if_pos h0]
      have h1 := greatV_bd v left deep h0
      have h2 := greatF_bd r _ deep h1.1
      omega
    · rw [if_neg h0]
      exact greatF_bd r left deep h
theorem greatL_bd : ∀ (l : List V) (left deep : Int), -1 ≤ left → -1 ≤ greatL l left deep ∧ greatL l left deep ≤ left
  | [], left, deep => by intro h; simp only [greatL]; omega
  | v :: r, left, deep => by
    intro h
    simp only [greatL]
    by_cases h0 : 0 ≤ left
    · rw [if_pos h0]
      have h1 := greatV_bd v left deep h0
      have h2 := greatL_bd r _ deep h1.1
      omega
    · rw [if_neg h0]
      exact greatL_bd r left deep h
theorem greatP_bd : ∀ (l : List (V × V)) (left deep : Int), -1 ≤ left → -1 ≤ greatP l left deep ∧ greatP l left deep ≤ left
  | [], left, deep => by intro h; simp only [greatP]; omega
  | (a, b) :: r, left, deep => by
    intro h
    simp only [greatP]
    by_cases h0 : 0 ≤ left
    · rw [if_pos h0]
      have h1 := greatV_bd a left deep h0
      by_cases h3 : 0 ≤ greatV a left deep
      · rw [if_pos h3]
        have h4 := greatV_bd b _ deep h3
        have h2 := greatP_bd r _ deep h4.1
        omega
      · rw [if_neg h3]
        have h2 := greatP_bd r _ deep h1.1
        omega
    · rw [if_neg h0, if_neg h0]
      exact greatP_bd r left deep h
end
mutual
/-- what is not too great is small -/
theorem greatV_w : ∀ (v : V) (left deep : Int), 0 ≤ left → 0 ≤ greatV v left deep → (wV v : Int) + 3 ≤ 804 * (left - greatV v left deep)
  | .mk k n t fs r ls ps, left, deep => by
    intro h h0
    simp only [greatV] at h0 ⊢
    split at h0
    · omega
    · rename_i hc
      rw [if_neg hc]
      have h1 := greatF_bd fs (left - 1) (deep - 1) (by omega)
      have h2 := greatL_bd ls _ (deep - 1) h1.1
      have h3 := greatP_bd ps _ (deep - 1) h2.1
      have g3 := greatP_w ps _ (deep - 1) h2.1 h0
      have g2 := greatL_w ls _ (deep - 1) h1.1 (by omega)
      have g1 := greatF_w fs (left - 1) (deep - 1) (by omega) (by omega)
      simp only [wV]
      push_cast
      omega
theorem greatF_w : ∀ (l : List (Int × V)) (left deep : Int), -1 ≤ left → 0 ≤ greatF l left deep → (wF l : Int) ≤ 804 * (left - greatF l left deep)
  | [], left, deep => by intro h h0; simp only [greatF, wF] at h0 ⊢; omega
  | (n, v) :: r, left, deep => by
    intro h
    simp only [greatF]
    by_cases h0 : 0 ≤ left
    · rw [if_pos h0]
      intro h5
      have h1 := greatV_bd v left deep h0
      have h2 := greatF_bd r _ deep h1.1
      have g1 := greatV_w v left deep h0 (by omega)
      have g2 := greatF_w r _ deep h1.1 h5
      simp only [wF]
      push_cast
      omega
    · rw [if_neg h0]
      intro h5
      have := greatF_bd r left deep h
      omega
theorem greatL_w : ∀ (l : List V) (left deep : Int), -1 ≤ left → 0 ≤ greatL l left deep → (wL l : Int) ≤ 804 * (left - greatL l left deep)
  | [], left, deep => by intro h h0; simp only [greatL, wL] at h0 ⊢; omega
  | v :: r, left, deep => by
    intro h
    simp only [greatL]
    by_cases h0 : 0 ≤ left
    · rw [if_pos h0]
      intro h5
      have h1 := greatV_bd v left deep h0
      have h2 := greatL_bd r _ deep h1.1
      have g1 := greatV_w v left deep h0 (by omega)
      have g2 := greatL_w r _ deep h1.1 h5
      simp only [wL]
      push_cast
      omega
    · rw [if_neg h0]
      intro h5
      have := greatL_bd r left deep h
      omega
theorem greatP_w : ∀ (l : List (V × V)) (left deep : Int), -1 ≤ left → 0 ≤ greatP l left deep → (wP l : Int) ≤ 804 * (left - greatP l left deep)
  | [], left, deep => by intro h h0; simp only [greatP, wP] at h0 ⊢; omega
  | (a, b) :: r, left, deep => by
    intro h
    simp only [greatP]
    by_cases h0 : 0 ≤ left
    · rw [if_pos h0]
      have h1 := greatV_bd a left deep h0
      by_cases h3 : 0 ≤ greatV a left deep
      · rw [if_pos h3]
        intro h5
        have h4 := greatV_bd b _ deep h3
        have h2 := greatP_bd r _ deep h4.1
        have g1 := greatV_w a left deep h0 h3
        have g3 := greatV_w b _ deep h3 (by omega)
        have g2 := greatP_w r _ deep h4.1 h5
        simp only [wP]
        push_cast
        omega
      · rw [if_neg h3]
        intro h5
        have h2 := greatP_bd r _ deep h1.1
        omega
    · rw [if_neg h0, if_neg h0]
      intro h5
      have := greatP_bd r left deep h
      omega
end
/-! ### order -/
def sgnI (a b : Int) : Int := if a < b then -1 else if b < a then 1 else 0
def orI (a b : Int) : Int := if a = 0 then b else a
theorem sgnI_swap (a b : Int) : sgnI b a = -sgnI a b := by unfold sgnI; split <;> split <;> omega
theorem orI_neg (a b : Int) : orI (-a) (-b) = -orI a b := by unfold orI; split <;> split <;> omega
theorem orI_zero {a b : Int} : orI a b = 0 ↔ a = 0 ∧ b = 0 := by unfold orI; split <;> omega
theorem sgnI_zero {a b : Int} : sgnI a b = 0 ↔ a = b := by unfold sgnI; split <;> (try split) <;> omega
/-- three answers of an order: of a and b, b and c, a and c -/
def T3 (x y z : Int) : Prop := (x ≤ 0 → y ≤ 0 → z ≤ 0) ∧ (x < 0 → y ≤ 0 → z < 0) ∧ (x ≤ 0 → y < 0 → z < 0) ∧ (0 ≤ x → 0 ≤ y → 0 ≤ z) ∧ (0 < x → 0 ≤ y → 0 < z) ∧ (0 ≤ x → 0 < y → 0 < z)
theorem T3.or {x y z x' y' z' : Int} (h : T3 x y z) (h' : x = 0 → y = 0 → T3 x' y' z') : T3 (orI x x') (orI y y') (orI z z') := by
  obtain ⟨a1, a2, a3, a4, a5, a6⟩ := h
  by_cases hx : x = 0
  · by_cases hy : y = 0
    · have h2 := h' hx hy
      have hz : z = 0 := by omega
      subst hx hy hz
      exact h2
    · have hz : z ≠ 0 := by omega
      subst hx
      unfold T3 orI
      rw [if_pos rfl, if_neg hy, if_neg hz]
      omega
  · by_cases hy : y = 0
    · have hz : z ≠ 0 := by omega
      subst hy
      unfold T3 orI
      rw [if_pos rfl, if_neg hx, if_neg hz]
      omega
    · unfold T3 orI
      rw [if_neg hx, if_neg hy]
      split <;> omega
theorem T3.sgn (a b c : Int) : T3 (sgnI a b) (sgnI b c) (sgnI a c) := by
  unfold T3 sgnI
  split <;> split <;> split <;> (try split) <;> (try split) <;> (try split) <;> omega
def cmpB : List UInt8 → List UInt8 → Int
  | [], [] => 0
  | [], _ :: _ => -1
  | _ :: _, [] => 1
  | x :: a, y :: b => orI (sgnI x.toNat y.toNat) (cmpB a b)
theorem cmpB_swap : ∀ a b, cmpB b a = -cmpB a b
  | [], [] => by simp [cmpB]
  | [], _ :: _ => by simp [cmpB]
  | _ :: _, [] => by simp [cmpB]
  | x :: a, y :: b => by simp only [cmpB]; rw [sgnI_swap x.toNat y.toNat, cmpB_swap a b, orI_neg]
theorem cmpB_zero : ∀ a b, cmpB a b = 0 ↔ a = b
  | [], [] => by simp [cmpB]
  | [], _ :: _ => by simp [cmpB]
  | _ :: _, [] => by simp [cmpB]
  | x :: a, y :: b => by
    simp only [cmpB, orI_zero, sgnI_zero, cmpB_zero a b, List.cons.injEq]
    refine and_congr_left' ⟨fun h => UInt8.toNat_inj.1 (by omega), fun h => by rw [h]⟩
theorem T3.bytes : ∀ a b c, T3 (cmpB a b) (cmpB b c) (cmpB a c)
  | [], [], [] => by simp [cmpB, T3]
  | [], [], _ :: _ => by simp [cmpB, T3]
  | [], _ :: _, [] => by simp [cmpB, T3]
  | [], _ :: _, _ :: _ => by simp only [cmpB, T3]; omega
  | _ :: _, [], [] => by simp [cmpB, T3]
  | _ :: _, [], _ :: _ => by simp only [cmpB, T3]; omega
  | _ :: _, _ :: _, [] => by simp only [cmpB, T3]; omega
  | x :: a, y :: b, z :: c => by simp only [cmpB]; exact (T3.sgn _ _ _).or (fun _ _ => T3.bytes a b c)
mutual
def cmpV : V → V → Int
  | .mk k n t fs r ls ps, .mk k' n' t' fs' r' ls' ps' =>
    orI (sgnI k k') (if k = 1 then sgnI n n' else if k = 2 then cmpB t t' else if k = 3 then orI (cmpF fs fs') (cmpB r r') else if k = 4 then cmpL ls ls' else if k = 5 then cmpP ps ps' else 0)
def cmpF : List (Int × V) → List (Int × V) → Int
  | [], [] => 0
  | [], _ :: _ => -1
  | _ :: _, [] => 1
  | (n, v) :: r, (n', v') :: r' => orI (orI (sgnI n n') (cmpV v v')) (cmpF r r')
def cmpL : List V → List V → Int
  | [], [] => 0
  | [], _ :: _ => -1
  | _ :: _, [] => 1
  | v :: r, v' :: r' => orI (cmpV v v') (cmpL r r')
def cmpP : List (V × V) → List (V × V) → Int
  | [], [] => 0
  | [], _ :: _ => -1
  | _ :: _, [] => 1
  | (a, b) :: r, (a', b') :: r' => orI (orI (cmpV a a') (cmpV b b')) (cmpP r r')
end
mutual
theorem cmpV_swap : ∀ a b, cmpV b a = -cmpV a b
  | .mk k n t fs r ls ps, .mk k' n' t' fs' r' ls' ps' => by
    simp only [cmpV]
    rw [sgnI_swap k k', ← orI_neg]
    by_cases hk : k = k'
    · subst hk
      congr 1
      rw [sgnI_swap n n', cmpB_swap t t', cmpF_swap fs fs', cmpB_swap r r', orI_neg, cmpL_swap ls ls', cmpP_swap ps ps']
      split
      · rfl
      · split
        · rfl
        · split
          · rfl
          · split
            · rfl
            · split
              · rfl
              · rfl
    · have h : sgnI k k' ≠ 0 := fun h => hk (sgnI_zero.1 h)
      unfold orI
      rw [if_neg (by omega), if_neg (by omega)]
theorem cmpF_swap : ∀ a b, cmpF b a = -cmpF a b
  | [], [] => by simp [cmpF]
  | [], (_, _) :: _ => by simp [cmpF]
  | (_, _) :: _, [] => by simp [cmpF]
  | (n, v) :: r, (n', v') :: r' => by simp only [cmpF]; rw [sgnI_swap n n', cmpV_swap v v', cmpF_swap r r', orI_neg, orI_neg]
theorem cmpL_swap : ∀ a b, cmpL b a = -cmpL a b
  | [], [] => by simp [cmpL]
  | [], _ :: _ => by simp [cmpL]
  | _ :: _, [] => by simp [cmpL]
  | v :: r, v' :: r' => by simp only [cmpL]; rw [cmpV_swap v v', cmpL_swap r r', orI_neg]
theorem cmpP_swap : ∀ a b, cmpP b a = -cmpP a b
  | [], [] => by simp [cmpP]
  | [], (_, _) :: _ => by simp [cmpP]
  | (_, _) :: _, [] => by simp [cmpP]
  | (a, b) :: r, (a', b') :: r' => by simp only [cmpP]; rw [cmpV_swap a a', cmpV_swap b b', cmpP_swap r r', orI_neg, orI_neg]
end
theorem cmpV_self (a : V) : cmpV a a = 0 := by have := cmpV_swap a a; omega
mutual
theorem T3.val : ∀ a b c, T3 (cmpV a b) (cmpV b c) (cmpV a c)
  | .mk k n t fs r ls ps, .mk k' n' t' fs' r' ls' ps', .mk k2 n2 t2 fs2 r2 ls2 ps2 => by
    simp only [cmpV]
    refine (T3.sgn k k' k2).or (fun h1 h2 => ?_)
    obtain rfl := sgnI_zero.1 h1
    obtain rfl := sgnI_zero.1 h2
    split
    · exact T3.sgn _ _ _
    · split
      · exact T3.bytes _ _ _
      · split
        · exact (T3.fields fs fs' fs2).or (fun _ _ => T3.bytes _ _ _)
        · split
          · exact T3.list ls ls' ls2
          · split
            · exact T3.pairs ps ps' ps2
            · simp [T3]
theorem T3.fields : ∀ a b c, T3 (cmpF a b) (cmpF b c) (cmpF a c)
  | [], [], [] => by simp [cmpF, T3]
  | [], [], _ :: _ => by simp [cmpF, T3]
  | [], _ :: _, [] => by simp [cmpF, T3]
  | [], (_, _) :: _, (_, _) :: _ => by simp only [cmpF, T3]; omega
  | _ :: _, [], [] => by simp [cmpF, T3]
  | (_, _) :: _, [], (_, _) :: _ => by simp only [cmpF, T3]; omega
  | (_, _) :: _, (_, _) :: _, [] => by simp only [cmpF, T3]; omega
  | (n, a) :: r, (n', b) :: r', (n2, c) :: r2 => by simp only [cmpF]; exact ((T3.sgn n n' n2).or (fun _ _ => T3.val a b c)).or (fun _ _ => T3.fields r r' r2)
theorem T3.list : ∀ a b c, T3 (cmpL a b) (cmpL b c) (cmpL a c)
  | [], [], [] => by simp [cmpL, T3]
  | [], [], _ :: _ => by simp [cmpL, T3]
  | [], _ :: _, [] => by simp [cmpL, T3]
  | [], _ :: _, _ :: _ => by simp only [cmpL, T3]; omega
  | _ :: _, [], [] => by simp [cmpL, T3]
  | _ :: _, [], _ :: _ => by simp only [cmpL, T3]; omega
  | _ :: _, _ :: _, [] => by simp only [cmpL, T3]; omega
  | a :: r, b :: r', c :: r2 => by simp only [cmpL]; exact (T3.val a b c).or (fun _ _ => T3.list r r' r2)
theorem T3.pairs : ∀ a b c, T3 (cmpP a b) (cmpP b c) (cmpP a c)
  | [], [], [] => by simp [cmpP, T3]
  | [], [], _ :: _ => by simp [cmpP, T3]
  | [], _ :: _, [] => by simp [cmpP, T3]
  | [], (_, _) :: _, (_, _) :: _ => by simp only [cmpP, T3]; omega
  | _ :: _, [], [] => by simp [cmpP, T3]
  | (_, _) :: _, [], (_, _) :: _ => by simp only [cmpP, T3]; omega
  | (_, _) :: _, (_, _) :: _, [] => by simp only [cmpP, T3]; omega
  | (a, x) :: r, (b, y) :: r', (c, z) :: r2 => by simp only [cmpP]; exact ((T3.val a b c).or (fun _ _ => T3.val x y z)).or (fun _ _ => T3.pairs r r' r2)
end
/-! ### which values are right -/
def singleK (k : Int) : Bool := k == 1 || k == 2 || k == 3
def shapeB (k : Int) (n : Nat) (t fs r ls ps : Bool) : Bool := decide (0 ≤ k) && decide (k ≤ 5) && (k == 1 || n == 0) && (k == 2 || t) && (k == 3 || (fs && r)) && ((k == 4) == !ls) && ((k == 5) == !ps)
def risesB (last : Option V) (a : V) : Bool := match last with
  | none => true
  | some p => p.k == a.k && decide (cmpV p a < 0)
mutual
def rightV : V → Bool
  | .mk k n t fs r ls ps => shapeB k n t.isEmpty fs.isEmpty r.isEmpty ls.isEmpty ps.isEmpty && rightF 0 fs && rightL ls && rightP none ps
def rightF : Int → List (Int × V) → Bool
  | _, [] => true
  | last, (n, v) :: r => decide (last < n) && decide (n ≤ 536870911) && (v.k != 0) && rightV v && rightF n r
def rightL : List V → Bool
  | [] => true
  | v :: r => singleK v.k && rightV v && rightL r
def rightP : Option V → List (V × V) → Bool
  | _, [] => true
  | last, (a, b) :: r => decide (a.k ≤ 2) && singleK a.k && rightV a && singleK b.k && rightV b && risesB last a && rightP (some a) r
end
theorem shapeB_iff {k : Int} {n : Nat} {t fs r ls ps : Bool} : shapeB k n t fs r ls ps = true ↔ (0 ≤ k ∧ k ≤ 5) ∧ (k ≠ 1 → n = 0) ∧ (k ≠ 2 → t = true) ∧ (k ≠ 3 → fs = true ∧ r = true) ∧ (k = 4 ↔ ls = false) ∧ (k = 5 ↔ ps = false) := by
  unfold shapeB
  simp only [Bool.and_eq_true, decide_eq_true_eq, Bool.or_eq_true, beq_iff_eq]
  constructor
  · rintro ⟨⟨⟨⟨⟨⟨h1, h2⟩, h3⟩, h4⟩, h5⟩, h6⟩, h7⟩
    refine ⟨⟨h1, h2⟩, fun h => h3.resolve_left h, fun h => h4.resolve_left h, fun h => h5.resolve_left h, ?_, ?_⟩
    · by_cases e : k = 4
      · simp [e] at h6 ⊢; exact h6
      · have : (k == 4) = false := by simpa using e
        rw [this] at h6
        simp [e] at h6 ⊢; exact h6
    · by_cases e : k = 5
      · simp [e] at h7 ⊢; exact h7
      · have : (k == 5) = false := by simpa using e
        rw [this] at h7
        simp [e] at h7 ⊢; exact h7
  · rintro ⟨⟨h1, h2⟩, h3, h4, h5, h6, h7⟩
    refine ⟨⟨⟨⟨⟨⟨h1, h2⟩, ?_⟩, ?_⟩, ?_⟩, ?_⟩, ?_⟩
    · by_cases e : k = 1
      · exact .inl e
      · exact .inr (h3 e)
    · by_cases e : k = 2
      · exact .inl e
      · exact .inr (h4 e)
    · by_cases e : k = 3
      · exact .inl e
      · exact .inr (h5 e)
    · by_cases e : k = 4
      · simp [e, h6.1 e]
      · have : (k == 4) = false := by simpa using e
        rw [this]
        cases ls
        · exact absurd (h6.2 rfl) e
        · rfl
    · by_cases e : k = 5
      · simp [e, h7.1 e]
      · have : (k == 5) = false := by simpa using e
        rw [this]
        cases ps
        · exact absurd (h7.2 rfl) e
        · rfl
theorem isEmpty_nil {α : Type} {l : List α} : l.isEmpty = true ↔ l = [] := by cases l <;> simp
mutual
theorem right_eq : ∀ a b, rightV a = true → rightV b = true → cmpV a b = 0 → a = b
  | .mk k n t fs r ls ps, .mk k' n' t' fs' r' ls' ps' => by
    intro h h' h0
    simp only [rightV, Bool.and_eq_true, shapeB_iff, isEmpty_nil] at h h'
    simp only [cmpV] at h0
    have hk := (orI_zero.1 h0).1
    replace h0 := (orI_zero.1 h0).2
    obtain rfl := sgnI_zero.1 hk
    obtain ⟨⟨⟨⟨hb, s1, s2, s3, s4, s5⟩, hf⟩, hl⟩, hp⟩ := h
    obtain ⟨⟨⟨⟨hb', s1', s2', s3', s4', s5'⟩, hf'⟩, hl'⟩, hp'⟩ := h'
    have e4 : k ≠ 4 → ls = [] := fun h => by
      cases hls : ls with
      | nil => rfl
      | cons x y => exact absurd (s4.2 (by rw [hls]; rfl)) h
    have e4' : k ≠ 4 → ls' = [] := fun h => by
      cases hls : ls' with
      | nil => rfl
      | cons x y => exact absurd (s4'.2 (by rw [hls]; rfl)) h
    have e5 : k ≠ 5 → ps = [] := fun h => by
      cases hls : ps with
      | nil => rfl
      | cons x y => exact absurd (s5.2 (by rw [hls]; rfl)) h
    have e5' : k ≠ 5 → ps' = [] := fun h => by
      cases hls : ps' with
      | nil => rfl
      | cons x y => exact absurd (s5'.2 (by rw [hls]; rfl)) h
    have n1 : n = n' := by
      by_cases e : k = 1
      · rw [if_pos e] at h0; have := sgnI_zero.1 h0; omega
      · rw [s1 e, s1' e]
    have n2 : t = t' := by
      by_cases e : k = 2
      · rw [if_neg (by omega), if_pos e] at h0; exact (cmpB_zero t t').1 h0
      · rw [s2 e, s2' e]
    have n3 : fs = fs' ∧ r = r' := by
      by_cases e : k = 3
      · rw [if_neg (by omega), if_neg (by omega), if_pos e] at h0
        obtain ⟨h1, h2⟩ := orI_zero.1 h0
        exact ⟨right_eqF fs fs' 0 0 hf hf' h1, (cmpB_zero r r').1 h2⟩
      · rw [(s3 e).1, (s3 e).2, (s3' e).1, (s3' e).2]; exact ⟨rfl, rfl⟩
    have n4 : ls = ls' := by
      by_cases e : k = 4
      · rw [if_neg (by omega), if_neg (by omega), if_neg (by omega), if_pos e] at h0
        exact right_eqL ls ls' hl hl' h0
      · rw [e4 e, e4' e]
    have n5 : ps = ps' := by
      by_cases e : k = 5
      · rw [if_neg (by omega), if_neg (by omega), if_neg (by omega), if_neg (by omega), if_pos e] at h0
        exact right_eqP ps ps' none none hp hp' h0
      · rw [e5 e, e5' e]
    rw [n1, n2, n3.1, n3.2, n4, n5]
theorem right_eqF : ∀ (a b : List (Int × V)) (l l' : Int), rightF l a = true → rightF l' b = true → cmpF a b = 0 → a = b
  | [], [], _, _ => by intros; rfl
  | [], (_, _) :: _, _, _ => by intro _ _ h; simp [cmpF] at h
  | (_, _) :: _, [], _, _ => by intro _ _ h; simp [cmpF] at h
  | (n, v) :: r, (n', v') :: r', l, l' => by
    intro h h' h0
    simp only [rightF, Bool.and_eq_true] at h h'
    simp only [cmpF] at h0
    obtain ⟨h1, h2⟩ := orI_zero.1 h0
    obtain ⟨h3, h4⟩ := orI_zero.1 h1
    rw [sgnI_zero.1 h3, right_eq v v' h.1.2 h'.1.2 h4, right_eqF r r' n n' h.2 h'.2 h2]
theorem right_eqL : ∀ (a b : List V), rightL a = true → rightL b = true → cmpL a b = 0 → a = b
  | [], [] => by intros; rfl
  | [], _ :: _ => by intro _ _ h; simp [cmpL] at h
  | _ :: _, [] => by intro _ _ h; simp [cmpL] at h
  | v :: r, v' :: r' => by
    intro h h' h0
    simp only [rightL, Bool.and_eq_true] at h h'
    simp only [cmpL] at h0
    obtain ⟨h1, h2⟩ := orI_zero.1 h0
    rw [right_eq v v' h.1.2 h'.1.2 h1, right_eqL r r' h.2 h'.2 h2]
theorem right_eqP : ∀ (a b : List (V × V)) (l l' : Option V), rightP l a = true → rightP l' b = true → cmpP a b = 0 → a = b
  | [], [], _, _ => by intros; rfl
  | [], (_, _) :: _, _, _ => by intro _ _ h; simp [cmpP] at h
  | (_, _) :: _, [], _, _ => by intro _ _ h; simp [cmpP] at h
  | (a, b) :: r, (a', b') :: r', l, l' => by
    intro h h' h0
    simp only [rightP, Bool.and_eq_true] at h h'
    simp only [cmpP] at h0
    obtain ⟨h1, h2⟩ := orI_zero.1 h0
    obtain ⟨h3, h4⟩ := orI_zero.1 h1
    obtain ⟨⟨⟨⟨⟨⟨_, _⟩, g1⟩, _⟩, g2⟩, _⟩, g3⟩ := h
    obtain ⟨⟨⟨⟨⟨⟨_, _⟩, g1'⟩, _⟩, g2'⟩, _⟩, g3'⟩ := h'
    rw [right_eq a a' g1 g1' h3, right_eq b b' g2 g2' h4, right_eqP r r' _ _ g3 g3' h2]
end
end Go.Proofs.YtcjflglpkpkflaaDoor
