/- Plain: the document's chunks, mark by mark, are the program's. -/
import Derived.Test.YtidfjemblidjkaaThA
namespace Go.Proofs.Ytidfjemblidjkaa
set_option linter.unusedVariables false
abbrev Mk := Nat × Nat × Nat
/-- the numbers that are kept by both, from a place on -/
def marksL : List Int → List Int → Nat → List Mk
  | p :: f, q :: g, i => if 0 ≤ p ∧ 0 ≤ q then (i, p.toNat, q.toNat) :: marksL f g (i + 1) else marksL f g (i + 1)
  | _, _, _ => []
section
variable (o a b : List Int)
def gapC (x y z : Nat) (m : Mk) : Ck := ⟨kindV (seg o x m.1) (seg a y m.2.1) (seg b z m.2.2), x, m.1, y, m.2.1, z, m.2.2⟩
def gapP (out : List Ck) (x y z : Nat) (m : Mk) : List Ck := if x < m.1 ∨ y < m.2.1 ∨ z < m.2.2 then out ++ [gapC o a b x y z m] else out
def oneC (m : Mk) : Ck := ⟨1, m.1, m.1 + 1, m.2.1, m.2.1 + 1, m.2.2, m.2.2 + 1⟩
/-- does a chunk go on at a mark? -/
def goesOn (c : Ck) (m : Mk) : Prop := c.k = 1 ∧ c.o1 = m.1 ∧ c.a1 = m.2.1 ∧ c.b1 = m.2.2
instance (c : Ck) (m : Mk) : Decidable (goesOn c m) := by unfold goesOn; infer_instance
def stabP (out : List Ck) (m : Mk) : List Ck := match out.getLast? with
  | some c => if goesOn c m then out.dropLast ++ [⟨c.k, c.o0, m.1 + 1, c.a0, m.2.1 + 1, c.b0, m.2.2 + 1⟩] else out ++ [oneC m]
  | none => out ++ [oneC m]
def refGo : List Mk → List Ck → Nat → Nat → Nat → List Ck
  | [], out, x, y, z => gapP o a b out x y z (o.length, a.length, b.length)
  | m :: ms, out, x, y, z => refGo ms (stabP (gapP o a b out x y z m) m) (m.1 + 1) (m.2.1 + 1) (m.2.2 + 1)
end
theorem stabP_new {out : List Ck} {m : Mk} (h : ∀ c, out.getLast? = some c → ¬ goesOn c m) : stabP out m = out ++ [oneC m] := by
  unfold stabP
  cases e : out.getLast? with
  | none => rfl
  | some c => simp only [if_neg (h c e)]
theorem stabP_more {out : List Ck} {c : Ck} {m : Mk} (h : goesOn c m) : stabP (out ++ [c]) m = out ++ [⟨c.k, c.o0, m.1 + 1, c.a0, m.2.1 + 1, c.b0, m.2.2 + 1⟩] := by
  unfold stabP
  simp [h]
theorem gapP_none {o a b : List Int} {out : List Ck} {x y z : Nat} : gapP o a b out x y z (x, y, z) = out := by
  unfold gapP; rw [if_neg (by simp)]
theorem marks_skip : ∀ (n : Nat) (f g : List Int) (i : Nat), (∀ (k : Nat) (p : Int), f[k]? = some p → -1 ≤ p) → (∀ (k : Nat) (q : Int), g[k]? = some q → -1 ≤ q) → n ≤ leadL f g → marksL f g i = marksL (f.drop n) (g.drop n) (i + n)
  | 0, f, g, i, _, _, _ => by simp
  | n + 1, [], g, i, _, _, h => by simp [leadL] at h
  | n + 1, p :: f, [], i, _, _, h => by simp [leadL] at h
  | n + 1, p :: f, q :: g, i, hf, hg, h => by
    rw [leadL] at h
    split at h
    · omega
    · rename_i h1
      have hp := hf 0 p rfl
      have hq := hg 0 q rfl
      rw [marksL, if_neg (fun h2 => h1 ⟨by omega, by omega⟩), marks_skip n f g (i + 1) (fun k p' hk => hf (k + 1) p' (by simpa using hk)) (fun k q' hk => hg (k + 1) q' (by simpa using hk)) (by omega)]
      simp only [List.drop_succ_cons]
      congr 1; omega
theorem marks_at {f g : List Int} {x p q : Nat} (hp : f[x]? = some (p : Int)) (hq : g[x]? = some (q : Int)) : marksL (f.drop x) (g.drop x) x = (x, p, q) :: marksL (f.drop (x + 1)) (g.drop (x + 1)) (x + 1) := by
  have h1 := List.getElem?_eq_some_iff.1 hp
  have h2 := List.getElem?_eq_some_iff.1 hq
  rw [List.drop_eq_getElem_cons h1.1, List.drop_eq_getElem_cons h2.1, h1.2, h2.2, marksL, if_pos ⟨by omega, by omega⟩]
  simp
section
variable {o a b f g : List Int} (hf : Fel o a f) (hg : Fel o b g)
include hf hg
omit hf hg in
/-- from one number that is kept by both to the next one, none of them missing -/
theorem refGo_stab {x y z : Nat} (out : List Ck) (hno : ∀ c, out.getLast? = some c → ¬ goesOn c (x, y, z)) : ∀ j, 0 < j → j ≤ stb f g x y z →
    refGo o a b (marksL (f.drop x) (g.drop x) x) out x y z = refGo o a b (marksL (f.drop (x + j)) (g.drop (x + j)) (x + j)) (out ++ [⟨1, x, x + j, y, y + j, z, z + j⟩]) (x + j) (y + j) (z + j)
  | 0, h, _ => by omega
  | 1, _, hj => by
    have hget := stabL_get (f.drop x) (g.drop x) y z 0 (by unfold stb at hj; omega)
    rw [List.getElem?_drop, List.getElem?_drop] at hget
    rw [marks_at (p := y) (q := z) (by simpa using hget.1) (by simpa using hget.2)]
    rw [refGo, gapP_none, stabP_new hno]
    rfl
  | j + 2, _, hj => by
    rw [refGo_stab out hno (j + 1) (by omega) (by omega)]
    have hget := stabL_get (f.drop x) (g.drop x) y z (j + 1) (by unfold stb at hj; omega)
    rw [List.getElem?_drop, List.getElem?_drop] at hget
    rw [marks_at (x := x + (j + 1)) (p := y + (j + 1)) (q := z + (j + 1)) (by rw [hget.1]; push_cast; rfl) (by rw [hget.2]; push_cast; rfl)]
    rw [refGo, gapP_none, stabP_more ⟨rfl, rfl, rfl, rfl⟩]
    rfl
theorem refGo_chunks : ∀ (n x y z : Nat) (out : List Ck), o.length + a.length + b.length + 1 ≤ n + x + y + z → At o a b f g x y z → ((∀ c, out.getLast? = some c → ¬ goesOn c (x, y, z)) ∨ stb f g x y z = 0) →
    refGo o a b (marksL (f.drop x) (g.drop x) x) out x y z = out ++ chunks o a b f g n x y z
  | 0, x, y, z, out, hn, h, _ => by have := h.hx; have := h.hy; have := h.hz; omega
  | n + 1, x, y, z, out, hn, h, hno => by
    rw [chunks]
    by_cases hm : x < o.length ∨ y < a.length ∨ z < b.length
    · rw [if_pos hm]
      by_cases hs : 0 < stb f g x y z
      · rw [if_pos hs, refGo_stab out (hno.resolve_right (by omega)) (stb f g x y z) hs (Nat.le_refl _),
          refGo_chunks n _ _ _ _ (by omega) (stb_at hf hg h hs) (.inr stb_next)]
        simp
      · rw [if_neg hs]
        obtain ⟨h1, h2, h3, h4⟩ := nxt_at hf hg h
        have h5 := nxt_more hf hg h (by omega) hm
        by_cases hi : nxi f g x < o.length
        · obtain ⟨p, q, k1, k2, k3, k4, k5, k6⟩ := nxi_get hf hg h hi
          have hX := nxt_eq (o := o) (a := a) (b := b) hi k1 k2
          rw [hX] at h1 h2 h3 h4 h5 ⊢
          replace h1 : At o a b f g (nxi f g x) p q := h1
          replace h5 : x + y + z < nxi f g x + p + q := h5
          have hl := nxi_le hf h
          have hsk : marksL (f.drop x) (g.drop x) x = marksL (f.drop (nxi f g x)) (g.drop (nxi f g x)) (nxi f g x) := by
            have := marks_skip (leadL (f.drop x) (g.drop x)) (f.drop x) (g.drop x) x (fun k p' hk => hf.low (x + k) p' (by rw [← List.getElem?_drop]; exact hk)) (fun k q' hk => hg.low (x + k) q' (by rw [← List.getElem?_drop]; exact hk)) (Nat.le_refl _)
            rw [this, List.drop_drop, List.drop_drop]; rfl
          have ih := refGo_chunks n (nxi f g x) p q (out ++ [gapC o a b x y z (nxi f g x, p, q)]) (by omega) h1 (.inl (fun c hc => by
            simp at hc
            subst hc
            intro hg'
            have hk := hg'.1
            replace hk : kindV _ _ _ = 1 := hk
            have hb : ∀ u v w, 2 ≤ kindV u v w := fun u v w => by unfold kindV; split; omega; split; omega; split <;> omega
            have := hb (seg o x (nxi f g x)) (seg a y p) (seg b z q)
            simp only [] at hk
            omega))
          have hmk := marks_at k1 k2
          rw [hmk, refGo, gapP_none] at ih
          rw [hsk, hmk, refGo]
          have hgp : gapP o a b out x y z (nxi f g x, p, q) = out ++ [gapC o a b x y z (nxi f g x, p, q)] := by
            unfold gapP
            rw [if_pos]
            show x < nxi f g x ∨ y < p ∨ z < q
            omega
          rw [hgp, ih]
          simp [gapC]
        · have hX : nxt o a b f g x = (o.length, a.length, b.length) := by unfold nxt; rw [if_neg hi]
          rw [hX] at h5 ⊢
          have hl := nxi_le hf h
          have hsk : marksL (f.drop x) (g.drop x) x = [] := by
            have := marks_skip (leadL (f.drop x) (g.drop x)) (f.drop x) (g.drop x) x (fun k p' hk => hf.low (x + k) p' (by rw [← List.getElem?_drop]; exact hk)) (fun k q' hk => hg.low (x + k) q' (by rw [← List.getElem?_drop]; exact hk)) (Nat.le_refl _)
            rw [this, List.drop_drop, List.drop_drop]
            have e : x + leadL (f.drop x) (g.drop x) = o.length := by unfold nxi at hi hl; omega
            rw [e, List.drop_of_length_le (by rw [hf.len]; exact Nat.le_refl _)]
            rfl
          rw [hsk, refGo]
          have hend : ∀ m, chunks o a b f g m o.length a.length b.length = [] := fun m => by
            cases m with
            | zero => rfl
            | succ m => rw [chunks, if_neg (by omega)]
          rw [hend]
          unfold gapP
          rw [if_pos]
          · rfl
          · show x < o.length ∨ y < a.length ∨ z < b.length
            exact hm
    · rw [if_neg hm]
      have h1 := h.hx; have h2 := h.hy; have h3 := h.hz
      have e1 : x = o.length := by omega
      have e2 : y = a.length := by omega
      have e3 : z = b.length := by omega
      rw [List.drop_of_length_le (show f.length ≤ x by rw [hf.len]; omega)]
      show gapP o a b out x y z (o.length, a.length, b.length) = _
      rw [e1, e2, e3, gapP_none, List.append_nil]
end
end Go.Proofs.Ytidfjemblidjkaa
