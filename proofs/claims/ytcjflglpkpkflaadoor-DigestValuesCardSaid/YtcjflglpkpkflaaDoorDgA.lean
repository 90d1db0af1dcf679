/- Digests, plain: a value's text. -/
import Derived.Test.YtcjflglpkpkflaaDoorVa
import Derived.Test.YtcjflglpkpkflaaDoorScB
namespace Go.Proofs.YtcjflglpkpkflaaDoor
set_option linter.unusedVariables false
/-- a number's figures, with its sign -/
def decZ (n : Int) : Bs := if n < 0 then 45 :: Lib.decDigits n.natAbs else Lib.decDigits n.natAbs
/-- bytes in quotes -/
def qtB (t : Bs) : Bs := 39 :: (hexB t ++ [39])
def restT (r : Bs) : List Bs := if r = [] then [] else [126 :: qtB r]
mutual
/-- a value's text -/
def txtV : V → Bs
  | .mk k n t fs r ls ps =>
    if k = 1 then Lib.decDigits n
    else if k = 2 then qtB t
    else if k = 3 then 123 :: (joi 32 (txtF fs ++ restT r) ++ [125])
    else if k = 4 then 91 :: (joi 32 (txtL ls) ++ [93])
    else if k = 5 then 40 :: (joi 32 (txtP ps) ++ [41])
    else [45]
def txtF : List (Int × V) → List Bs
  | [] => []
  | (n, v) :: r => (decZ n ++ 58 :: txtV v) :: txtF r
def txtL : List V → List Bs
  | [] => []
  | v :: r => txtV v :: txtL r
def txtP : List (V × V) → List Bs
  | [] => []
  | (a, b) :: r => (txtV a ++ 58 :: txtV b) :: txtP r
end
theorem txtF_map : ∀ l : List (Int × V), txtF l = l.map fun p => decZ p.1 ++ 58 :: txtV p.2
  | [] => rfl
  | (n, v) :: r => by rw [txtF, txtF_map r]; rfl
theorem txtL_map : ∀ l : List V, txtL l = l.map txtV
  | [] => rfl
  | v :: r => by rw [txtL, txtL_map r]; rfl
theorem txtP_map : ∀ l : List (V × V), txtP l = l.map fun p => txtV p.1 ++ 58 :: txtV p.2
  | [] => rfl
  | (a, b) :: r => by rw [txtP, txtP_map r]; rfl
/-! ### how long it is -/
def totB : List Bs → Nat
  | [] => 0
  | x :: r => x.length + 1 + totB r
theorem totB_app : ∀ a b : List Bs, totB (a ++ b) = totB a + totB b
  | [], b => by simp [totB]
  | x :: r, b => by rw [List.cons_append, totB, totB_app r b, totB]; omega
theorem totB_mem : ∀ (l : List Bs), ∀ x ∈ l, x.length < totB l + 1
  | [], x, h => by cases h
  | y :: r, x, h => by
    rw [totB]
    rcases List.mem_cons.1 h with rfl | h
    · omega
    · have := totB_mem r x h; omega
theorem totB_len : ∀ l : List Bs, l.length ≤ totB l
  | [] => Nat.le_refl _
  | x :: r => by have := totB_len r; rw [totB, List.length_cons]; omega
theorem joi_tot (c : UInt8) : ∀ xs : List Bs, (joi c xs).length ≤ totB xs
  | [] => Nat.le_refl _
  | [x] => by simp [joi, totB]
  | x :: y :: r => by
    have ih := joi_tot c (y :: r)
    rw [joi_cons c x (by simp), List.length_append, List.length_cons, totB]
    omega
theorem dec_len20 {u : Nat} (h : u < 18446744073709551616) : (Lib.decDigits u).length ≤ 20 := dec_len 19 u (by omega)
theorem decZ_len {n : Int} (h : -9223372036854775808 ≤ n ∧ n ≤ 9223372036854775807) : (decZ n).length ≤ 21 := by
  have := dec_len20 (u := n.natAbs) (by omega)
  unfold decZ
  split <;> simp <;> omega
theorem qtB_len (t : Bs) : (qtB t).length = 2 * t.length + 2 := by unfold qtB; simp [hexB_len]
theorem restT_tot (r : Bs) : totB (restT r) ≤ 2 * r.length + 4 := by
  unfold restT
  split
  · simp [totB]
  · simp [totB, qtB_len]
mutual
/-- the numbers in a value are as the machine has them -/
def mV : V → Prop
  | .mk k n t fs r ls ps => n < 18446744073709551616 ∧ mF fs ∧ mL ls ∧ mP ps
def mF : List (Int × V) → Prop
  | [] => True
  | (n, v) :: r => (-9223372036854775808 ≤ n ∧ n ≤ 9223372036854775807) ∧ mV v ∧ mF r
def mL : List V → Prop
  | [] => True
  | v :: r => mV v ∧ mL r
def mP : List (V × V) → Prop
  | [] => True
  | (a, b) :: r => mV a ∧ mV b ∧ mP r
end
mutual
theorem txtV_len : ∀ v, mV v → (txtV v).length ≤ 30 * wV v
  | .mk k n t fs r ls ps, h => by
    obtain ⟨h1, h2, h3, h4⟩ := h
    have q1 := dec_len20 h1
    have q2 := qtB_len t
    have q3 := txtF_len fs h2
    have q4 := txtL_len ls h3
    have q5 := txtP_len ps h4
    have q6 := joi_tot 32 (txtF fs ++ restT r)
    have q7 := joi_tot 32 (txtL ls)
    have q8 := joi_tot 32 (txtP ps)
    have q9 := restT_tot r
    rw [totB_app] at q6
    rw [txtV, wV]
    split
    · omega
    · split
      · omega
      · split
        · simp only [List.length_cons, List.length_append, List.length_nil]; omega
        · split
          · simp only [List.length_cons, List.length_append, List.length_nil]; omega
          · split
            · simp only [List.length_cons, List.length_append, List.length_nil]; omega
            · simp only [List.length_cons, List.length_nil]; omega
theorem txtF_len : ∀ l, mF l → totB (txtF l) ≤ 30 * wF l
  | [], _ => Nat.le_refl _
  | (n, v) :: r, h => by
    obtain ⟨h1, h2, h3⟩ := h
    have q1 := decZ_len h1
    have q2 := txtV_len v h2
    have q3 := txtF_len r h3
    rw [txtF, totB, wF]
    simp only [List.length_cons, List.length_append]
    omega
theorem txtL_len : ∀ l, mL l → totB (txtL l) ≤ 30 * wL l
  | [], _ => Nat.le_refl _
  | v :: r, h => by
    obtain ⟨h2, h3⟩ := h
    have q2 := txtV_len v h2
    have q3 := txtL_len r h3
    rw [txtL, totB, wL]
    omega
theorem txtP_len : ∀ l, mP l → totB (txtP l) ≤ 30 * wP l
  | [], _ => Nat.le_refl _
  | (a, b) :: r, h => by
    obtain ⟨h1, h2, h3⟩ := h
    have q1 := txtV_len a h1
    have q2 := txtV_len b h2
    have q3 := txtP_len r h3
    rw [txtP, totB, wP]
    simp only [List.length_cons, List.length_append]
    omega
end
theorem mF_iff : ∀ l : List (Int × V), mF l ↔ ∀ p ∈ l, (-9223372036854775808 ≤ p.1 ∧ p.1 ≤ 9223372036854775807) ∧ mV p.2
  | [] => by simp [mF]
  | (n, v) :: r => by simp only [mF, mF_iff r, List.forall_mem_cons]; exact ⟨fun h => ⟨⟨h.1, h.2.1⟩, h.2.2⟩, fun h => ⟨h.1.1, h.1.2, h.2⟩⟩
theorem mL_iff : ∀ l : List V, mL l ↔ ∀ p ∈ l, mV p
  | [] => by simp [mL]
  | v :: r => by simp only [mL, mL_iff r, List.forall_mem_cons]
theorem mP_iff : ∀ l : List (V × V), mP l ↔ ∀ p ∈ l, mV p.1 ∧ mV p.2
  | [] => by simp [mP]
  | (a, b) :: r => by simp only [mP, mP_iff r, List.forall_mem_cons]; exact ⟨fun h => ⟨⟨h.1, h.2.1⟩, h.2.2⟩, fun h => ⟨h.1.1, h.1.2, h.2⟩⟩
/-! ### the document puts a blank ahead of each, and cuts the first one off -/
def catB (xs : List Bs) : Bs := xs.flatMap fun x => 32 :: x
theorem catB_cons (x : Bs) (r : List Bs) : catB (x :: r) = 32 :: (x ++ catB r) := by unfold catB; rw [List.flatMap_cons]; rfl
theorem catB_app (a b : List Bs) : catB (a ++ b) = catB a ++ catB b := by unfold catB; rw [List.flatMap_append]
theorem catB_drop : ∀ xs : List Bs, (catB xs).drop 1 = joi 32 xs
  | [] => rfl
  | [x] => by rw [catB_cons]; simp [joi, catB]
  | x :: y :: r => by
    have ih := catB_drop (y :: r)
    rw [catB_cons, joi_cons 32 x (by simp), ← ih, catB_cons, List.drop_succ_cons, List.drop_zero, List.drop_succ_cons, List.drop_zero]
theorem catB_len (xs : List Bs) : (catB xs).length = totB xs := by
  induction xs with
  | nil => rfl
  | cons x r ih => rw [catB_cons, List.length_cons, List.length_append, ih, totB]; omega
end Go.Proofs.YtcjflglpkpkflaaDoor
