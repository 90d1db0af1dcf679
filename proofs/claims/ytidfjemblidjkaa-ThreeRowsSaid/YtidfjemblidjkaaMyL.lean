/- Plain: how far one gets from the ends of two rows, edit by edit, on each diagonal: the least place from which so many edits suffice. -/
import Derived.Test.YtidfjemblidjkaaMyS
namespace Go.Proofs.Ytidfjemblidjkaa
set_option linter.unusedVariables false
/-- back along a diagonal as long as numbers are the same -/
def slideN (a b : List Int) : Nat → Nat → Nat
  | 0, _ => 0
  | x + 1, 0 => x + 1
  | x + 1, y + 1 => if a[x]? = b[y]? then slideN a b x y else x + 1
theorem slideN_le (a b : List Int) : ∀ x y, slideN a b x y ≤ x ∧ x - slideN a b x y ≤ y
  | 0, _ => by simp [slideN]
  | x + 1, 0 => by simp [slideN]
  | x + 1, y + 1 => by
    rw [slideN]
    have := slideN_le a b x y
    split <;> omega
theorem slideN_tab {a b : List Int} : ∀ x y, x ≤ a.length → y ≤ b.length → tab a b (slideN a b x y) (y - (x - slideN a b x y)) = tab a b x y
  | 0, _, _, _ => by simp [slideN]
  | x + 1, 0, _, _ => by simp [slideN]
  | x + 1, y + 1, hx, hy => by
    rw [slideN]
    split
    · rename_i h
      have hl := slideN_le a b x y
      have ih := slideN_tab (a := a) (b := b) x y (by omega) (by omega)
      rw [show y + 1 - (x + 1 - slideN a b x y) = y - (x - slideN a b x y) from by omega, ih]
      rw [List.getElem?_eq_getElem (show x < a.length by omega), List.getElem?_eq_getElem (show y < b.length by omega)] at h
      exact tab_same (a := a) (b := b) (x := x) (y := y) (by omega) (by omega) (Option.some.inj h)
    · simp
theorem slideN_run {a b : List Int} : ∀ k x y, (∀ j, j < k → a[x + j]? = b[y + j]?) → slideN a b (x + k) (y + k) ≤ x
  | 0, x, y, _ => (slideN_le a b x y).1
  | k + 1, x, y, h => by
    show slideN a b (x + k + 1) (y + k + 1) ≤ x
    rw [slideN, if_pos (h k (by omega))]
    exact slideN_run k x y (fun j hj => h j (by omega))
/-- forward along a diagonal to where the numbers part -/
theorem run_end {a b : List Int} : ∀ n x y, a.length - x ≤ n → x ≤ a.length → y ≤ b.length →
    ∃ k, x + k ≤ a.length ∧ y + k ≤ b.length ∧ (∀ j, j < k → a[x + j]? = b[y + j]?) ∧ tab a b (x + k) (y + k) = tab a b x y ∧ (x + k = a.length ∨ y + k = b.length ∨ ∃ (h1 : x + k < a.length) (h2 : y + k < b.length), ¬ a[x + k] = b[y + k])
  | n, x, y, hn, hx, hy => by
    by_cases h1 : x = a.length
    · exact ⟨0, by omega, by omega, fun j hj => by omega, rfl, .inl (by omega)⟩
    · by_cases h2 : y = b.length
      · exact ⟨0, by omega, by omega, fun j hj => by omega, rfl, .inr (.inl (by omega))⟩
      · have h1' : x < a.length := by omega
        have h2' : y < b.length := by omega
        by_cases h3 : a[x] = b[y]
        · obtain ⟨m, rfl⟩ : ∃ m, n = m + 1 := ⟨n - 1, by omega⟩
          obtain ⟨k, k1, k2, k3, k4, k5⟩ := run_end (a := a) (b := b) m (x + 1) (y + 1) (by omega) (by omega) (by omega)
          refine ⟨k + 1, by omega, by omega, fun j hj => ?_, ?_, ?_⟩
          · cases j with
            | zero => rw [Nat.add_zero, Nat.add_zero, List.getElem?_eq_getElem h1', List.getElem?_eq_getElem h2', h3]
            | succ j =>
              have := k3 j (by omega)
              rw [show x + (j + 1) = x + 1 + j from by omega, show y + (j + 1) = y + 1 + j from by omega]; exact this
          · rw [show x + (k + 1) = x + 1 + k from by omega, show y + (k + 1) = y + 1 + k from by omega, k4]
            exact (tab_same h1' h2' h3).symm
          · rcases k5 with h | h | ⟨h4, h5, h6⟩
            · exact .inl (by omega)
            · exact .inr (.inl (by omega))
            · refine .inr (.inr ⟨by omega, by omega, ?_⟩)
              have e1 : x + (k + 1) = x + 1 + k := by omega
              have e2 : y + (k + 1) = y + 1 + k := by omega
              simp only [e1, e2]; exact h6
        · exact ⟨0, by omega, by omega, fun j hj => by omega, rfl, .inr (.inr ⟨by simpa using h1', by simpa using h2', by simpa using h3⟩)⟩
theorem tab_mono {a b : List Int} : ∀ k x y, x + k ≤ a.length → y + k ≤ b.length → tab a b (x + k) (y + k) ≤ tab a b x y
  | 0, _, _, _, _ => Nat.le_refl _
  | k + 1, x, y, hx, hy => Nat.le_trans (tab_diag (x := x + k) (y := y + k) (by omega) (by omega)) (tab_mono k x y (by omega) (by omega))

/-- a place that isn't got to -/
def unr : Int := 1073741824
theorem unr_def : unr = 1073741824 := rfl
/-- the diagonal of the ends -/
def dEnd (a b : List Int) : Int := (a.length : Int) - b.length
def slideZ (a b : List Int) (x d : Int) : Int := slideN a b x.toNat (x - d).toNat
def from1 (l low : Int) : Int := if l = unr then unr else max (l - 1) low
def from2 (l low : Int) : Int := if l = unr then unr else max l low
/-- one step, out of what so many edits less give on three diagonals -/
def pick3 (c c1 c2 low : Int) : Int := min (min c (from1 c1 low)) (from2 c2 low)
def stepZ (a b : List Int) (d c c1 c2 : Int) : Int :=
  if d < -(b.length : Int) ∨ (a.length : Int) < d then unr
  else if pick3 c c1 c2 (max d 0) = unr then unr else slideZ a b (pick3 c c1 c2 (max d 0)) d
def stepO (a b : List Int) (d : Int) : Int := if d < -(b.length : Int) ∨ (a.length : Int) < d then unr else if d = dEnd a b then slideZ a b a.length d else unr
def stepE (a b : List Int) : Nat → (Int → Int) → Int → Int
  | 0, _, d => stepO a b d
  | _ + 1, L, d => stepZ a b d (L d) (L (d + 1)) (L (d - 1))
/-- the least place on a diagonal by so many edits -/
def lst (a b : List Int) : Nat → Int → Int
  | 0, d => if d = dEnd a b then stepO a b d else unr
  | e + 1, d => if dEnd a b - (e + 1) ≤ d ∧ d ≤ dEnd a b + (e + 1) then stepE a b (e + 1) (lst a b e) d else unr
/-- what so many edits say: of a place in range -/
def Reach (a b : List Int) (e : Nat) (L : Int → Int) : Prop :=
  (∀ d, L d = unr ∨ (0 ≤ L d ∧ d ≤ L d ∧ L d ≤ a.length ∧ L d - d ≤ b.length)) ∧
  ∀ x y : Nat, x ≤ a.length → y ≤ b.length → (L ((x : Int) - y) ≤ x ↔ tab a b x y ≤ e)
theorem Reach.tab {a b : List Int} {e : Nat} {L : Int → Int} (h : Reach a b e L) {d : Int} (hd : L d ≠ unr) : tab a b (L d).toNat (L d - d).toNat ≤ e := by
  rcases h.1 d with h1 | ⟨h1, h2, h3, h4⟩
  · exact absurd h1 hd
  · have h5 := (h.2 (L d).toNat (L d - d).toNat (by omega) (by omega)).1
    rw [show (((L d).toNat : Nat) : Int) - (((L d - d).toNat : Nat) : Int) = d from by omega] at h5
    exact h5 (by omega)
theorem tab_gap {a b : List Int} : ∀ (n x y : Nat), (a.length - x) + (b.length - y) ≤ n → x ≤ a.length → y ≤ b.length → ((a.length : Int) - x) - ((b.length : Int) - y) ≤ tab a b x y ∧ ((b.length : Int) - y) - ((a.length : Int) - x) ≤ tab a b x y
  | n, x, y, hn, hx, hy => by
    by_cases h1 : x = a.length
    · rw [tab_end (by omega)]; omega
    · by_cases h2 : y = b.length
      · rw [tab_end' (by omega)]; omega
      · obtain ⟨m, rfl⟩ : ∃ m, n = m + 1 := ⟨n - 1, by omega⟩
        by_cases h3 : a[x]'(by omega) = b[y]'(by omega)
        · rw [tab_same (by omega) (by omega) h3]
          have := tab_gap (a := a) (b := b) m (x + 1) (y + 1) (by omega) (by omega) (by omega)
          push_cast at this; omega
        · rw [tab_other (by omega) (by omega) h3]
          have k1 := tab_gap (a := a) (b := b) m (x + 1) y (by omega) (by omega) (by omega)
          have k2 := tab_gap (a := a) (b := b) m x (y + 1) (by omega) (by omega) (by omega)
          rcases Nat.le_total (tab a b (x + 1) y) (tab a b x (y + 1)) with h4 | h4
          · rw [Nat.min_eq_left h4]; push_cast at k1 ⊢; omega
          · rw [Nat.min_eq_right h4]; push_cast at k2 ⊢; omega
section
variable {a b : List Int} (ha : a.length ≤ 1000000) (hb : b.length ≤ 1000000)
include ha
theorem reach_slide {e : Nat} {d x0 : Int} (h1 : 0 ≤ x0) (h2 : d ≤ x0) (h3 : x0 ≤ a.length) (h4 : x0 - d ≤ b.length) (ht : tab a b x0.toNat (x0 - d).toNat ≤ e) :
    (0 ≤ slideZ a b x0 d ∧ d ≤ slideZ a b x0 d ∧ slideZ a b x0 d ≤ a.length ∧ slideZ a b x0 d - d ≤ b.length) ∧
    (∀ x y : Nat, x ≤ a.length → y ≤ b.length → (x : Int) - y = d → slideZ a b x0 d ≤ x → tab a b x y ≤ e) ∧ slideZ a b x0 d ≠ unr := by
  have hl := slideN_le a b x0.toNat (x0 - d).toNat
  have hs : slideZ a b x0 d = slideN a b x0.toNat (x0 - d).toNat := rfl
  have htb := slideN_tab (a := a) (b := b) x0.toNat (x0 - d).toNat (by omega) (by omega)
  generalize slideN a b x0.toNat (x0 - d).toNat = s at *
  rw [hs]
  refine ⟨⟨by omega, by omega, by omega, by omega⟩, fun x y hx hy hd hsx => ?_, by unfold unr; omega⟩
  have hm := tab_mono (a := a) (b := b) (x - s) s ((x0 - d).toNat - (x0.toNat - s)) (by omega) (by omega)
  rw [show s + (x - s) = x from by omega, show (x0 - d).toNat - (x0.toNat - s) + (x - s) = y from by omega] at hm
  omega
theorem reach_zero : Reach a b 0 (lst a b 0) := by
  have hL : ∀ d, lst a b 0 d = if d = dEnd a b then slideZ a b a.length d else unr := fun d => by
    unfold lst stepO dEnd
    by_cases h : d = (a.length : Int) - b.length
    · rw [if_pos h, if_neg (by omega), if_pos h]
    · rw [if_neg h, if_neg h]
  have hr := reach_slide (b := b) ha (e := 0) (d := dEnd a b) (x0 := a.length) (by omega) (by unfold dEnd; omega) (by omega) (by unfold dEnd; omega) (by
    rw [Int.toNat_natCast, tab_end (Nat.le_refl _)]; unfold dEnd; omega)
  refine ⟨fun d => ?_, fun x y hx hy => ?_⟩
  · rw [hL]
    split
    · rename_i h; subst h; exact .inr hr.1
    · exact .inl rfl
  · rw [hL]
    by_cases h : (x : Int) - y = dEnd a b
    · rw [if_pos h, h]
      refine ⟨fun h1 => hr.2.1 x y hx hy h h1, fun h1 => ?_⟩
      obtain ⟨k, k1, k2, k3, k4, k5⟩ := run_end (a := a) (b := b) _ x y (Nat.le_refl _) hx hy
      have hk : x + k = a.length := by
        unfold dEnd at h
        rcases k5 with k5 | k5 | ⟨h4, h5, h6⟩
        · exact k5
        · omega
        · rw [← k4, tab_other h4 h5 h6] at h1; omega
      have h2 := slideN_run (a := a) (b := b) k x y k3
      unfold slideZ
      rw [Int.toNat_natCast, show ((a.length : Int) - dEnd a b).toNat = y + k from by unfold dEnd at h ⊢; omega, ← hk]
      omega
    · rw [if_neg h]
      refine ⟨fun h1 => by unfold unr at h1; omega, fun h1 => ?_⟩
      have := tab_gap (a := a) (b := b) _ x y (Nat.le_refl _) hx hy
      unfold dEnd at h
      omega
include hb
theorem reach_pick {e : Nat} {L : Int → Int} (h : Reach a b e L) (d : Int) (h1 : -(b.length : Int) ≤ d) (h2 : d ≤ a.length) :
    (pick3 (L d) (L (d + 1)) (L (d - 1)) (max d 0) = unr ∨ (0 ≤ pick3 (L d) (L (d + 1)) (L (d - 1)) (max d 0) ∧ d ≤ pick3 (L d) (L (d + 1)) (L (d - 1)) (max d 0) ∧ pick3 (L d) (L (d + 1)) (L (d - 1)) (max d 0) ≤ a.length ∧ pick3 (L d) (L (d + 1)) (L (d - 1)) (max d 0) - d ≤ b.length ∧
      tab a b (pick3 (L d) (L (d + 1)) (L (d - 1)) (max d 0)).toNat (pick3 (L d) (L (d + 1)) (L (d - 1)) (max d 0) - d).toNat ≤ e + 1)) := by
  have hu : unr = 1073741824 := rfl
  have r0 := h.1 d
  have r1 := h.1 (d + 1)
  have r2 := h.1 (d - 1)
  have t0 := h.tab (d := d)
  have t1 := h.tab (d := d + 1)
  have t2 := h.tab (d := d - 1)
  -- each of the three
  have good : ∀ X : Int, (X = L d ∨ X = from1 (L (d + 1)) (max d 0) ∨ X = from2 (L (d - 1)) (max d 0)) → X = unr ∨ (0 ≤ X ∧ d ≤ X ∧ X ≤ a.length ∧ X - d ≤ b.length ∧ tab a b X.toNat (X - d).toNat ≤ e + 1) := by
    rintro X (rfl | rfl | rfl)
    · rcases r0 with r0 | ⟨r3, r4, r5, r6⟩
      · exact .inl r0
      · exact .inr ⟨r3, r4, r5, r6, Nat.le_succ_of_le (t0 (by omega))⟩
    · unfold from1
      split
      · exact .inl rfl
      · rename_i hne
        rcases r1 with r1 | ⟨r3, r4, r5, r6⟩
        · exact absurd r1 hne
        · refine .inr ?_
          have t1 := t1 hne
          by_cases h0 : L (d + 1) = 0
          · rw [h0] at t1 r4 r6 ⊢
            rw [show max ((0 : Int) - 1) (max d 0) = 0 from by omega]
            refine ⟨by omega, by omega, by omega, by omega, ?_⟩
            have := tab_near' a b 0 (0 - (d + 1)).toNat
            rw [show (0 - (d + 1)).toNat + 1 = (0 - d).toNat from by omega] at this
            simp only [Int.toNat_zero] at t1 ⊢
            omega
          · rw [show max (L (d + 1) - 1) (max d 0) = L (d + 1) - 1 from by omega]
            refine ⟨by omega, by omega, by omega, by omega, ?_⟩
            have := tab_near a b (L (d + 1) - 1).toNat (L (d + 1) - 1 - d).toNat
            rw [show (L (d + 1) - 1).toNat + 1 = (L (d + 1)).toNat from by omega] at this
            rw [show L (d + 1) - (d + 1) = L (d + 1) - 1 - d from by omega] at t1
            omega
    · unfold from2
      split
      · exact .inl rfl
      · rename_i hne
        rcases r2 with r2 | ⟨r3, r4, r5, r6⟩
        · exact absurd r2 hne
        · refine .inr ?_
          have t2 := t2 hne
          by_cases h0 : L (d - 1) < d
          · have e1 : L (d - 1) = d - 1 := by omega
            rw [e1] at t2 r3 ⊢
            rw [show max (d - 1) (max d 0) = d from by omega]
            refine ⟨by omega, by omega, by omega, by omega, ?_⟩
            have := tab_near a b (d - 1).toNat 0
            rw [show (d - 1).toNat + 1 = d.toNat from by omega] at this
            rw [show (d - 1 - (d - 1)).toNat = 0 from by omega] at t2
            rw [show (d - d).toNat = 0 from by omega]
            omega
          · rw [show max (L (d - 1)) (max d 0) = L (d - 1) from by omega]
            refine ⟨by omega, by omega, by omega, by omega, ?_⟩
            have := tab_near' a b (L (d - 1)).toNat (L (d - 1) - d).toNat
            rw [show (L (d - 1) - d).toNat + 1 = (L (d - 1) - (d - 1)).toNat from by omega] at this
            omega
  refine good _ ?_
  unfold pick3
  omega
theorem reach_low {e : Nat} {L : Int → Int} (h : Reach a b e L) (x y : Nat) (hx : x ≤ a.length) (hy : y ≤ b.length) (ht : tab a b x y ≤ e + 1)
    (hend : x = a.length ∨ y = b.length ∨ ∃ (h1 : x < a.length) (h2 : y < b.length), ¬ a[x] = b[y]) :
    pick3 (L ((x : Int) - y)) (L ((x : Int) - y + 1)) (L ((x : Int) - y - 1)) (max ((x : Int) - y) 0) ≤ x := by
  have hu : unr = 1073741824 := rfl
  by_cases h0 : tab a b x y ≤ e
  · have := (h.2 x y hx hy).2 h0
    unfold pick3; omega
  · have w1 : ∀ (_ : x + 1 ≤ a.length) (_ : tab a b (x + 1) y ≤ e), from1 (L ((x : Int) - y + 1)) (max ((x : Int) - y) 0) ≤ x := fun k1 k2 => by
      have := (h.2 (x + 1) y k1 hy).2 k2
      rw [show (((x + 1 : Nat) : Int) - y) = (x : Int) - y + 1 from by omega] at this
      unfold from1
      rw [if_neg (by omega)]; omega
    have w2 : ∀ (_ : y + 1 ≤ b.length) (_ : tab a b x (y + 1) ≤ e), from2 (L ((x : Int) - y - 1)) (max ((x : Int) - y) 0) ≤ x := fun k1 k2 => by
      have := (h.2 x (y + 1) hx k1).2 k2
      rw [show ((x : Int) - ((y + 1 : Nat) : Int)) = (x : Int) - y - 1 from by omega] at this
      unfold from2
      rw [if_neg (by omega)]; omega
    have : from1 (L ((x : Int) - y + 1)) (max ((x : Int) - y) 0) ≤ x ∨ from2 (L ((x : Int) - y - 1)) (max ((x : Int) - y) 0) ≤ x := by
      rcases hend with rfl | rfl | ⟨h1, h2, h3⟩
      · rw [tab_end (Nat.le_refl _)] at ht h0
        exact .inr (w2 (by omega) (by rw [tab_end (Nat.le_refl _)]; omega))
      · rw [tab_end' (Nat.le_refl _)] at ht h0
        exact .inl (w1 (by omega) (by rw [tab_end' (Nat.le_refl _)]; omega))
      · rw [tab_other h1 h2 h3] at ht
        rcases Nat.le_total (tab a b (x + 1) y) (tab a b x (y + 1)) with h4 | h4
        · rw [Nat.min_eq_left h4] at ht
          exact .inl (w1 (by omega) (by omega))
        · rw [Nat.min_eq_right h4] at ht
          exact .inr (w2 (by omega) (by omega))
    unfold pick3
    omega
theorem reach_succ {e : Nat} (h : Reach a b e (lst a b e)) : Reach a b (e + 1) (lst a b (e + 1)) := by
  have hu : unr = 1073741824 := rfl
  have hL : ∀ d, lst a b (e + 1) d = if dEnd a b - (e + 1) ≤ d ∧ d ≤ dEnd a b + (e + 1) then stepZ a b d (lst a b e d) (lst a b e (d + 1)) (lst a b e (d - 1)) else unr := fun d => rfl
  refine ⟨fun d => ?_, fun x y hx hy => ?_⟩
  · rw [hL]
    split
    · unfold stepZ
      split
      · exact .inl rfl
      · rename_i hd
        split
        · exact .inl rfl
        · rename_i hp
          rcases reach_pick ha hb h d (by omega) (by omega) with h1 | ⟨h1, h2, h3, h4, h5⟩
          · exact absurd h1 hp
          · exact .inr (reach_slide ha h1 h2 h3 h4 h5).1
    · exact .inl rfl
  · rw [hL]
    by_cases hr : dEnd a b - (e + 1) ≤ (x : Int) - y ∧ (x : Int) - y ≤ dEnd a b + (e + 1)
    · rw [if_pos hr]
      unfold stepZ
      rw [if_neg (by omega)]
      have hp := reach_pick ha hb h ((x : Int) - y) (by omega) (by omega)
      constructor
      · intro h1
        split at h1
        · omega
        · rename_i hne
          rcases hp with hp | ⟨h5, h2, h3, h4, h6⟩
          · exact absurd hp hne
          · exact (reach_slide ha h5 h2 h3 h4 h6).2.1 x y hx hy rfl h1
      · intro h1
        obtain ⟨k, k1, k2, k3, k4, k5⟩ := run_end (a := a) (b := b) _ x y (Nat.le_refl _) hx hy
        have hlow := reach_low ha hb h (x + k) (y + k) k1 k2 (by omega) k5
        rw [show (((x + k : Nat) : Int) - ((y + k : Nat) : Int)) = (x : Int) - y from by omega] at hlow
        generalize pick3 (lst a b e ((x : Int) - y)) (lst a b e ((x : Int) - y + 1)) (lst a b e ((x : Int) - y - 1)) (max ((x : Int) - y) 0) = p at *
        rw [if_neg (by omega)]
        rcases hp with hp | ⟨h5, h2, h3, h4, h6⟩
        · omega
        · unfold slideZ
          by_cases hle : p ≤ x
          · have := (slideN_le a b p.toNat (p - ((x : Int) - y)).toNat).1
            omega
          · have := slideN_run (a := a) (b := b) (p.toNat - x) x y (fun j hj => k3 j (by omega))
            rw [show x + (p.toNat - x) = p.toNat from by omega, show y + (p.toNat - x) = (p - ((x : Int) - y)).toNat from by omega] at this
            omega
    · rw [if_neg hr]
      refine ⟨fun h1 => by omega, fun h1 => ?_⟩
      have := tab_gap (a := a) (b := b) _ x y (Nat.le_refl _) hx hy
      unfold dEnd at hr
      omega
theorem reach_all : ∀ e, Reach a b e (lst a b e)
  | 0 => reach_zero ha
  | e + 1 => reach_succ ha hb (reach_all e)
end
end Go.Proofs.Ytidfjemblidjkaa
