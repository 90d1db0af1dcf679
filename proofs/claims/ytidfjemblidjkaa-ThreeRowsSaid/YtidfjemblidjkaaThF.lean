/- Plain: chunks cover all three rows. -/
import Derived.Test.YtidfjemblidjkaaThA
namespace Go.Proofs.Ytidfjemblidjkaa
set_option linter.unusedVariables false
/-- chunks cover the rows from a place on; the last chunk's kind -/
def Cov (o a b : List Int) : List Ck → Nat → Nat → Nat → Int → Prop
  | [], x, y, z, _ => x = o.length ∧ y = a.length ∧ z = b.length
  | c :: cs, x, y, z, l => (c.o0 = x ∧ c.a0 = y ∧ c.b0 = z) ∧ (x ≤ c.o1 ∧ y ≤ c.a1 ∧ z ≤ c.b1) ∧ (c.o1 ≤ o.length ∧ c.a1 ≤ a.length ∧ c.b1 ≤ b.length) ∧ x + y + z < c.o1 + c.a1 + c.b1 ∧
      (1 ≤ c.k ∧ c.k ≤ 5) ∧ (c.k = 1 → l ≠ 1 ∧ seg o x c.o1 = seg a y c.a1 ∧ seg o x c.o1 = seg b z c.b1) ∧ Cov o a b cs c.o1 c.a1 c.b1 c.k
theorem seg_get (l : List Int) (i s k : Nat) : (seg l i (i + s))[k]? = if k < s then l[i + k]? else none := by
  unfold seg
  rw [List.getElem?_drop, List.getElem?_take]
  split
  · rw [if_pos (by omega)]
  · rw [if_neg (by omega)]
theorem seg_same {l m : List Int} {i j s : Nat} (h : ∀ k, k < s → l[i + k]? = m[j + k]?) : seg l i (i + s) = seg m j (j + s) := by
  apply List.ext_getElem?
  intro k
  rw [seg_get, seg_get]
  split
  · rename_i hk; exact h k hk
  · rfl
theorem kindV_bd (p q r : List Int) : 2 ≤ kindV p q r ∧ kindV p q r ≤ 5 := by
  unfold kindV
  split
  · omega
  · split
    · omega
    · split <;> omega
section
variable {o a b f g : List Int} (hf : Fel o a f) (hg : Fel o b g)
include hf hg
theorem chunks_cov : ∀ (n x y z : Nat) (l : Int), o.length + a.length + b.length + 1 ≤ n + x + y + z → At o a b f g x y z → (l = 1 → stb f g x y z = 0) → Cov o a b (chunks o a b f g n x y z) x y z l
  | 0, x, y, z, l, hn, h, _ => by have := h.hx; have := h.hy; have := h.hz; omega
  | n + 1, x, y, z, l, hn, h, hl => by
    rw [chunks]
    by_cases hm : x < o.length ∨ y < a.length ∨ z < b.length
    · rw [if_pos hm]
      by_cases hs : 0 < stb f g x y z
      · rw [if_pos hs]
        have hat := stb_at hf hg h hs
        have ih := chunks_cov n _ _ _ 1 (by omega) hat (fun _ => stb_next)
        refine ⟨⟨rfl, rfl, rfl⟩, ⟨Nat.le_add_right _ _, Nat.le_add_right _ _, Nat.le_add_right _ _⟩, ⟨hat.hx, hat.hy, hat.hz⟩, by show x + y + z < (x + stb f g x y z) + (y + stb f g x y z) + (z + stb f g x y z); omega, ⟨Int.le_refl _, by show (1 : Int) ≤ 5; decide⟩, fun _ => ⟨fun e => by have := hl e; omega, seg_same (fun k hk => (stb_same hf hg k hk).1), seg_same (fun k hk => (stb_same hf hg k hk).2)⟩, ih⟩
      · rw [if_neg hs]
        obtain ⟨h1, h2, h3, h4⟩ := nxt_at hf hg h
        have h5 := nxt_more hf hg h (by omega) hm
        have hk := kindV_bd (seg o x (nxt o a b f g x).1) (seg a y (nxt o a b f g x).2.1) (seg b z (nxt o a b f g x).2.2)
        have ih := chunks_cov n _ _ _ (kindV (seg o x (nxt o a b f g x).1) (seg a y (nxt o a b f g x).2.1) (seg b z (nxt o a b f g x).2.2)) (by omega) h1 (fun e => by omega)
        exact ⟨⟨rfl, rfl, rfl⟩, ⟨h2, h3, h4⟩, ⟨h1.hx, h1.hy, h1.hz⟩, h5, ⟨by show 1 ≤ kindV _ _ _; omega, by show kindV _ _ _ ≤ 5; omega⟩, fun e => by exfalso; replace e : kindV _ _ _ = 1 := e; omega, ih⟩
    · rw [if_neg hm]
      have := h.hx; have := h.hy; have := h.hz
      exact ⟨by omega, by omega, by omega⟩
end
theorem at_start (o a b f g : List Int) : At o a b f g 0 0 0 := ⟨Nat.zero_le _, Nat.zero_le _, Nat.zero_le _, fun _ _ _ _ => Nat.zero_le _, fun _ _ _ _ => Nat.zero_le _⟩
theorem cov_start {o a b : List Int} (ha : dist o a ≤ 400) (hb : dist o b ≤ 400) : Cov o a b (chunks o a b (felV o a) (felV o b) (o.length + a.length + b.length + 1) 0 0 0) 0 0 0 0 :=
  chunks_cov (felV_ok ha) (felV_ok hb) _ 0 0 0 0 (by omega) (at_start _ _ _ _ _) (fun e => by omega)
end Go.Proofs.Ytidfjemblidjkaa
