/- Scripts, plain: how long the line of an act is that is not too long. -/
import Derived.Test.YtbcpciegdmminaaGreatDoorScY
namespace Go.Proofs.YtbcpciegdmminaaGreatDoor
open Go Go.RowKit
set_option linter.unusedVariables false
/-- the words of a right act are few and short -/
theorem rest_lenN {A : Ac} {N : Nat} (h : rightA A = true) (hN : 9 ≤ N) (hb : (putB A.bs).length ≤ N) (hk : (putL decI A.keep).length ≤ N) (ht : (putL putT A.torn).length ≤ N) : (restA A).length ≤ 4 ∧ ∀ x ∈ restA A, x.length ≤ N := by
  obtain ⟨k, a, b, c, n, bs, keep, torn⟩ := A
  simp only at hb hk ht
  obtain ⟨-, hn, l1, l2, l3, h1, h2⟩ := right_parts h
  unfold numb numbered at hn
  have hdi : ∀ x : Int, inN x = true → (decI x).length ≤ N := fun x hx => by have := decI_len hx; omega
  have hp := polOf_len n
  unfold restA
  simp only at hn ⊢
  by_cases e1 : k = 1
  · rw [if_pos e1]
    refine ⟨by simp, fun x hx => ?_⟩
    rw [List.mem_singleton] at hx
    rw [hx]; exact hb
  · rw [if_neg e1]
    by_cases e3 : k = 3 ∨ k = 6 ∨ k = 11
    · rw [if_pos e3] at hn ⊢
      simp only [Bool.and_eq_true] at hn
      exact ⟨by simp, fun x hx => by rw [List.mem_singleton] at hx; rw [hx]; exact hdi _ hn.1⟩
    · rw [if_neg e3] at hn ⊢
      by_cases e5 : k = 5
      · rw [if_pos e5] at hn ⊢
        simp only [Bool.and_eq_true] at hn
        refine ⟨by simp, fun x hx => ?_⟩
        simp only [List.mem_cons, List.not_mem_nil, or_false] at hx
        rcases hx with rfl | rfl
        · exact hdi _ hn.1.1
        · exact hdi _ hn.1.2
      · rw [if_neg e5] at hn ⊢
        by_cases e4 : k = 4
        · rw [if_pos e4] at hn ⊢
          simp only [Bool.and_eq_true] at hn
          refine ⟨by simp, fun x hx => ?_⟩
          simp only [List.mem_cons, List.not_mem_nil, or_false] at hx
          rcases hx with rfl | rfl | rfl | rfl
          · exact hdi _ hn.1.1.1
          · exact hdi _ hn.1.1.2
          · exact hdi _ hn.1.2
          · omega
        · rw [if_neg e4] at hn ⊢
          by_cases e8 : k = 8
          · rw [if_pos e8] at hn ⊢
            simp only [Bool.and_eq_true, Bool.or_eq_true, beq_iff_eq] at hn
            by_cases ea : a = -1
            · rw [if_pos ea]
              exact ⟨by simp, fun x hx => by rw [List.mem_singleton] at hx; rw [hx]; exact Nat.le_trans (by decide : offW.length ≤ 3) (by omega)⟩
            · rw [if_neg ea]
              exact ⟨by simp, fun x hx => by rw [List.mem_singleton] at hx; rw [hx]; exact hdi _ (hn.1.resolve_right ea)⟩
          · rw [if_neg e8]
            by_cases e9 : k = 9
            · rw [if_pos e9]
              refine ⟨by simp, fun x hx => ?_⟩
              simp only [List.mem_cons, List.not_mem_nil, or_false] at hx
              rcases hx with rfl | rfl | rfl | rfl
              · exact Nat.le_trans (by decide : keepW.length ≤ 4) (by omega)
              · exact hk
              · exact Nat.le_trans (by decide : tornW.length ≤ 4) (by omega)
              · exact ht
            · rw [if_neg e9]; exact ⟨by simp, fun x hx => by cases hx⟩
theorem line_len {A : Ac} (h : rightA A = true) (hl : longA A.bs A.keep A.torn = false) : (lineA A).length ≤ 90000 := by
  obtain ⟨l1, l2, l3, l4⟩ := long_no hl
  obtain ⟨k, a, b, c, n, bs, keep, torn⟩ := A
  simp only at l1 l2 l3 l4
  obtain ⟨-, -, -, -, -, h1, h2⟩ := right_parts h
  have p1 := putB_len bs
  have p2 := putL_len (p := decI) (l := keep) (N := 9) (fun x hx => decI_len (List.all_eq_true.1 h1 x hx))
  have p3 := putL_len (p := putT) (l := torn) (N := 211) (fun x hx => by
    have hok := List.all_eq_true.1 h2 x hx
    unfold tornOk at hok
    simp only [Bool.and_eq_true, decide_eq_true_eq] at hok
    have := putT_len hok.1
    have := l4 x hx
    omega)
  obtain ⟨q1, q2⟩ := rest_lenN (N := 15000) h (by omega) (by show (putB bs).length ≤ _; omega) (by show (putL decI keep).length ≤ _; omega) (by show (putL putT torn).length ≤ _; omega)
  have hw := wordOf_len k
  unfold lineA
  have := joi_len 32 15000 (wordOf k :: restA ⟨k, a, b, c, n, bs, keep, torn⟩) (fun x hx => by
    rcases List.mem_cons.1 hx with rfl | hx
    · omega
    · exact q2 x hx)
  rw [List.length_cons] at this
  simp only
  omega
end Go.Proofs.YtbcpciegdmminaaGreatDoor
