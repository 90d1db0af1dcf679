/- Plain: what comes of chunks; the chapter's example. -/
import Derived.Test.YtidfjemblidjkaaThF
namespace Go.Proofs.Ytidfjemblidjkaa
set_option linter.unusedVariables false
/-- what comes of chunks -/
def mergeL (a b : List Int) (cs : List Ck) : List Int := cs.flatMap fun c => if c.k = 3 then seg b c.b0 c.b1 else seg a c.a0 c.a1
/-- are there no conflicts? -/
def clearB (cs : List Ck) : Bool := cs.all fun c => decide (c.k ≠ 5)
theorem mergeL_append (a b : List Int) (cs ds : List Ck) : mergeL a b (cs ++ ds) = mergeL a b cs ++ mergeL a b ds := by unfold mergeL; rw [List.flatMap_append]
theorem cov_mem {o a b : List Int} : ∀ {cs : List Ck} {x y z : Nat} {l : Int}, Cov o a b cs x y z l → ∀ c ∈ cs, (c.o0 ≤ c.o1 ∧ c.o1 ≤ o.length) ∧ (c.a0 ≤ c.a1 ∧ c.a1 ≤ a.length) ∧ (c.b0 ≤ c.b1 ∧ c.b1 ≤ b.length) ∧ 1 ≤ c.k ∧ c.k ≤ 5
  | [], _, _, _, _, _, c, hc => by simp at hc
  | d :: cs, x, y, z, l, h, c, hc => by
    obtain ⟨⟨h1, h2, h3⟩, ⟨h4, h5, h6⟩, ⟨h7, h8, h9⟩, _, h10, _, h11⟩ := h
    rcases List.mem_cons.1 hc with rfl | hc
    · exact ⟨⟨by omega, h7⟩, ⟨by omega, h8⟩, ⟨by omega, h9⟩, h10⟩
    · exact cov_mem h11 c hc
theorem alive_fa : felV [1, 2, 3] [1, 3] = [0, -1, 1] := by
  have h : ¬ 400 < dist [1, 2, 3] [1, 3] := by
    have := dist_le _ [1, 2, 3] [1, 3] (Nat.le_refl _)
    simp at this; omega
  unfold felV stepsV
  rw [if_neg h, stepsT_same, stepsT_drop (by decide) (by simp [dist]), stepsT_same, stepsT_nil]
  rfl
theorem alive_fb : felV [1, 2, 3] [1, 2, 3, 4] = [0, 1, 2] := by
  have h : ¬ 400 < dist [1, 2, 3] [1, 2, 3, 4] := by
    have := dist_le _ [1, 2, 3] [1, 2, 3, 4] (Nat.le_refl _)
    simp at this; omega
  unfold felV stepsV
  rw [if_neg h, stepsT_same, stepsT_same, stepsT_same, stepsT_nil]
  rfl
theorem alive_chunks : chunks [1, 2, 3] [1, 3] [1, 2, 3, 4] (felV [1, 2, 3] [1, 3]) (felV [1, 2, 3] [1, 2, 3, 4]) 10 0 0 0 = [⟨1, 0, 1, 0, 1, 0, 1⟩, ⟨2, 1, 2, 1, 1, 1, 2⟩, ⟨1, 2, 3, 1, 2, 2, 3⟩, ⟨3, 3, 3, 2, 2, 3, 4⟩] := by
  rw [alive_fa, alive_fb]; rfl
theorem alive_merge : mergeL [1, 3] [1, 2, 3, 4] [⟨1, 0, 1, 0, 1, 0, 1⟩, ⟨2, 1, 2, 1, 1, 1, 2⟩, ⟨1, 2, 3, 1, 2, 2, 3⟩, ⟨3, 3, 3, 2, 2, 3, 4⟩] = [1, 3, 4] := by rfl
end Go.Proofs.Ytidfjemblidjkaa
