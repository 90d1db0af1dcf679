/- Plain: chunks with the sides changed are mirrored; what comes of chunks where two rows are one. -/
import Derived.Test.YtidfjemblidjkaaThI
namespace Go.Proofs.Ytidfjemblidjkaa
set_option linter.unusedVariables false
theorem stabL_comm : ∀ (f g : List Int) (y z : Int), stabL g f z y = stabL f g y z
  | [], [], y, z => rfl
  | [], q :: g, y, z => rfl
  | p :: f, [], y, z => rfl
  | p :: f, q :: g, y, z => by
    rw [stabL, stabL, stabL_comm f g (y + 1) (z + 1)]
    by_cases h : p = y ∧ q = z
    · rw [if_pos h, if_pos ⟨h.2, h.1⟩]
    · rw [if_neg h, if_neg (fun k => h ⟨k.2, k.1⟩)]
theorem leadL_comm : ∀ f g : List Int, leadL g f = leadL f g
  | [], [] => rfl
  | [], q :: g => rfl
  | p :: f, [] => rfl
  | p :: f, q :: g => by
    rw [leadL, leadL, leadL_comm f g]
    by_cases h : p ≠ -1 ∧ q ≠ -1
    · rw [if_pos h, if_pos ⟨h.2, h.1⟩]
    · rw [if_neg h, if_neg (fun k => h ⟨k.2, k.1⟩)]
/-- a chunk with the sides changed -/
def mirK (k : Int) : Int := if k = 2 then 3 else if k = 3 then 2 else k
def mirC (c : Ck) : Ck := ⟨mirK c.k, c.o0, c.o1, c.b0, c.b1, c.a0, c.a1⟩
theorem kindV_comm (p q r : List Int) : kindV p r q = mirK (kindV p q r) := by
  unfold kindV
  by_cases h1 : q = r
  · subst h1; rw [if_pos rfl]; rfl
  · rw [if_neg h1, if_neg (fun h => h1 h.symm)]
    by_cases h2 : q = p
    · subst h2; rw [if_pos rfl, if_neg (fun h => h1 h.symm), if_pos rfl]; rfl
    · rw [if_neg h2]
      by_cases h3 : r = p
      · rw [if_pos h3, if_neg h2, if_pos h3]; rfl
      · rw [if_neg h3, if_neg h2, if_neg h3]; rfl
theorem nxi_comm (f g : List Int) (x : Nat) : nxi g f x = nxi f g x := by unfold nxi; rw [leadL_comm]
theorem stb_comm (f g : List Int) (x y z : Nat) : stb g f x z y = stb f g x y z := by unfold stb; rw [stabL_comm]
theorem nxt_comm (o a b f g : List Int) (x : Nat) : nxt o b a g f x = ((nxt o a b f g x).1, (nxt o a b f g x).2.2, (nxt o a b f g x).2.1) := by
  unfold nxt
  rw [nxi_comm]
  split <;> rfl
theorem chunks_mirror (o a b f g : List Int) : ∀ n x y z : Nat, chunks o b a g f n x z y = (chunks o a b f g n x y z).map mirC
  | 0, x, y, z => by rw [chunks, chunks]; rfl
  | n + 1, x, y, z => by
    rw [chunks, chunks, stb_comm, nxt_comm]
    by_cases hm : x < o.length ∨ y < a.length ∨ z < b.length
    · rw [if_pos hm, if_pos (show x < o.length ∨ z < b.length ∨ y < a.length by omega)]
      by_cases hs : 0 < stb f g x y z
      · rw [if_pos hs, if_pos hs, chunks_mirror o a b f g n, List.map_cons]; rfl
      · rw [if_neg hs, if_neg hs, chunks_mirror o a b f g n, List.map_cons, kindV_comm]; rfl
    · rw [if_neg hm, if_neg (show ¬ (x < o.length ∨ z < b.length ∨ y < a.length) by omega)]; rfl
/-- what a chunk's kind tells -/
def KindOk (o a b : List Int) (c : Ck) : Prop := (c.k = 1 ∧ seg o c.o0 c.o1 = seg a c.a0 c.a1 ∧ seg o c.o0 c.o1 = seg b c.b0 c.b1) ∨ c.k = kindV (seg o c.o0 c.o1) (seg a c.a0 c.a1) (seg b c.b0 c.b1)
theorem chunks_kind {o a b f g : List Int} (hf : Fel o a f) (hg : Fel o b g) : ∀ n x y z : Nat, At o a b f g x y z → ∀ c ∈ chunks o a b f g n x y z, KindOk o a b c
  | 0, x, y, z, _, c, hc => by rw [chunks] at hc; simp at hc
  | n + 1, x, y, z, h, c, hc => by
    rw [chunks] at hc
    by_cases hm : x < o.length ∨ y < a.length ∨ z < b.length
    · rw [if_pos hm] at hc
      by_cases hs : 0 < stb f g x y z
      · rw [if_pos hs] at hc
        rcases List.mem_cons.1 hc with rfl | hc
        · exact .inl ⟨rfl, seg_same (fun k hk => (stb_same hf hg k hk).1), seg_same (fun k hk => (stb_same hf hg k hk).2)⟩
        · exact chunks_kind hf hg n _ _ _ (stb_at hf hg h hs) c hc
      · rw [if_neg hs] at hc
        rcases List.mem_cons.1 hc with rfl | hc
        · exact .inr rfl
        · exact chunks_kind hf hg n _ _ _ (nxt_at hf hg h).1 c hc
    · rw [if_neg hm] at hc; simp at hc
theorem mirK_5 (k : Int) : mirK k = 5 ↔ k = 5 := by unfold mirK; split; omega; split <;> omega
theorem clear_mirror (cs : List Ck) : clearB (cs.map mirC) = clearB cs := by
  unfold clearB
  rw [List.all_map]
  congr 1
  funext c
  show decide (mirK c.k ≠ 5) = decide (c.k ≠ 5)
  have := mirK_5 c.k
  simp [this]
theorem merge_mirror {o a b : List Int} : ∀ {cs : List Ck}, (∀ c ∈ cs, KindOk o a b c) → clearB cs = true → mergeL b a (cs.map mirC) = mergeL a b cs
  | [], _, _ => rfl
  | c :: cs, hk, hcl => by
    have h1 : c.k ≠ 5 := by have := List.all_eq_true.1 hcl c (by simp); simpa using this
    have h2 : clearB cs = true := List.all_eq_true.2 fun d hd => List.all_eq_true.1 hcl d (by simp [hd])
    have ih := merge_mirror (fun d hd => hk d (by simp [hd])) h2
    have h3 : (if mirK c.k = 3 then seg a c.a0 c.a1 else seg b c.b0 c.b1) = if c.k = 3 then seg b c.b0 c.b1 else seg a c.a0 c.a1 := by
      rcases hk c (by simp) with ⟨k1, k2, k3⟩ | hk
      · rw [k1, if_neg (by decide), if_neg (by decide), ← k2, ← k3]
      · unfold kindV at hk
        split at hk
        · rename_i e; rw [hk, if_neg (by decide), if_neg (by decide), e]
        · split at hk
          · rw [hk, if_neg (by decide), if_pos rfl]
          · split at hk
            · rw [hk, if_pos (by decide), if_neg (by decide)]
            · exact absurd hk h1
    show (if (mirC c).k = 3 then seg a (mirC c).b0 (mirC c).b1 else seg b (mirC c).a0 (mirC c).a1) ++ mergeL b a (cs.map mirC) = (if c.k = 3 then seg b c.b0 c.b1 else seg a c.a0 c.a1) ++ mergeL a b cs
    rw [ih]
    congr 1
theorem cov_flat {o a b : List Int} : ∀ {cs : List Ck} {x y z : Nat} {l : Int}, Cov o a b cs x y z l → cs.flatMap (fun c => seg a c.a0 c.a1) = a.drop y
  | [], x, y, z, l, h => by obtain ⟨_, h, _⟩ := h; rw [h, List.drop_length]; rfl
  | c :: cs, x, y, z, l, h => by
    obtain ⟨⟨_, h1, _⟩, ⟨_, h2, _⟩, ⟨_, h3, _⟩, _, _, _, h4⟩ := h
    rw [List.flatMap_cons, cov_flat h4, h1]
    unfold seg
    have := List.drop_append_of_le_length (l₁ := a.take c.a1) (l₂ := a.drop c.a1) (i := y) (by rw [List.length_take]; omega)
    rw [List.take_append_drop] at this
    exact this.symm
theorem cov_len {o a b : List Int} : ∀ {cs : List Ck} {x y z : Nat} {l : Int}, Cov o a b cs x y z l → cs.length + x + y + z ≤ o.length + a.length + b.length
  | [], x, y, z, l, h => by obtain ⟨h1, h2, h3⟩ := h; simp; omega
  | c :: cs, x, y, z, l, h => by
    obtain ⟨_, _, _, h1, _, _, h4⟩ := h
    have := cov_len h4
    simp; omega
/-- all is taken from a -/
theorem merge_left {o a b : List Int} {cs : List Ck} (hc : Cov o a b cs 0 0 0 0) (hk : ∀ c ∈ cs, c.k ≠ 5 ∧ c.k ≠ 3) : clearB cs = true ∧ mergeL a b cs = a := by
  refine ⟨List.all_eq_true.2 fun c h => by simpa using (hk c h).1, ?_⟩
  have h1 := cov_flat hc
  rw [List.drop_zero] at h1
  refine Eq.trans ?_ h1
  unfold mergeL
  have : ∀ cs : List Ck, (∀ c ∈ cs, c.k ≠ 3) → cs.flatMap (fun c => if c.k = 3 then seg b c.b0 c.b1 else seg a c.a0 c.a1) = cs.flatMap (fun c => seg a c.a0 c.a1) := fun cs => by
    induction cs with
    | nil => intro _; rfl
    | cons c cs ih => intro h; rw [List.flatMap_cons, List.flatMap_cons, ih (fun d hd => h d (by simp [hd])), if_neg (h c (by simp))]
  rw [this cs (fun c h => (hk c h).2)]
/-- the sides are one row -/
theorem chunks_twin (o a f : List Int) : ∀ n x y : Nat, ∀ c ∈ chunks o a a f f n x y y, c.a0 = c.b0 ∧ c.a1 = c.b1
  | 0, x, y, c, hc => by rw [chunks] at hc; simp at hc
  | n + 1, x, y, c, hc => by
    rw [chunks] at hc
    have h2 : (nxt o a a f f x).2.2 = (nxt o a a f f x).2.1 := by unfold nxt; split <;> rfl
    rw [h2] at hc
    split at hc
    · split at hc
      · rcases List.mem_cons.1 hc with rfl | hc
        · exact ⟨rfl, rfl⟩
        · exact chunks_twin o a f n _ _ c hc
      · rcases List.mem_cons.1 hc with rfl | hc
        · exact ⟨rfl, rfl⟩
        · exact chunks_twin o a f n _ _ c hc
    · simp at hc
/-- the right side is the old row -/
theorem chunks_old (o a f g : List Int) (hg : ∀ i, i < o.length → g[i]? = some (i : Int)) : ∀ n x y : Nat, ∀ c ∈ chunks o a o f g n x y x, c.b0 = c.o0 ∧ c.b1 = c.o1
  | 0, x, y, c, hc => by rw [chunks] at hc; simp at hc
  | n + 1, x, y, c, hc => by
    rw [chunks] at hc
    have h2 : (nxt o a o f g x).2.2 = (nxt o a o f g x).1 := by
      unfold nxt
      split
      · rename_i h
        show (g.getD (nxi f g x) 0).toNat = nxi f g x
        rw [List.getD_eq_getElem?_getD, hg _ h]; rfl
      · rfl
    rw [h2] at hc
    split at hc
    · split at hc
      · rcases List.mem_cons.1 hc with rfl | hc
        · exact ⟨rfl, rfl⟩
        · exact chunks_old o a f g hg n _ _ c hc
      · rcases List.mem_cons.1 hc with rfl | hc
        · exact ⟨rfl, rfl⟩
        · exact chunks_old o a f g hg n _ _ c hc
    · simp at hc
theorem fel_ones : ∀ (n : Nat) (p : Int) (i : Nat), i < n → (fel (List.replicate n 1) p)[i]? = some (p + i)
  | 0, p, i, h => by omega
  | n + 1, p, i, h => by
    have hf : fel (List.replicate (n + 1) 1) p = p :: fel (List.replicate n 1) (p + 1) := by rw [List.replicate_succ]; simp [fel]
    rw [hf]
    cases i with
    | zero => simp
    | succ i => rw [List.getElem?_cons_succ, fel_ones n (p + 1) i (by omega)]; congr 1; push_cast; omega
theorem felV_self {o : List Int} (h : dist o o ≤ 400) (i : Nat) (hi : i < o.length) : (felV o o)[i]? = some (i : Int) := by
  unfold felV stepsV
  rw [if_neg (by omega), stepsT_self, fel_ones _ _ _ hi]
  simp
section
variable {o a b : List Int}
theorem chunks_of (ha : dist o a ≤ 400) (hb : dist o b ≤ 400) : ∀ c ∈ chunks o a b (felV o a) (felV o b) (o.length + a.length + b.length + 1) 0 0 0, KindOk o a b c := chunks_kind (felV_ok ha) (felV_ok hb) _ 0 0 0 (at_start _ _ _ _ _)
theorem merge_twin (ha : dist o a ≤ 400) : clearB (chunks o a a (felV o a) (felV o a) (o.length + a.length + a.length + 1) 0 0 0) = true ∧ mergeL a a (chunks o a a (felV o a) (felV o a) (o.length + a.length + a.length + 1) 0 0 0) = a := by
  refine merge_left (cov_start ha ha) fun c hc => ?_
  have h1 := chunks_twin o a (felV o a) _ 0 0 c hc
  rcases chunks_of ha ha c hc with ⟨h, _⟩ | h
  · omega
  · rw [h1.1, h1.2] at h
    unfold kindV at h
    rw [if_pos rfl] at h
    omega
theorem merge_old (ha : dist o a ≤ 400) (ho : dist o o ≤ 400) : clearB (chunks o a o (felV o a) (felV o o) (o.length + a.length + o.length + 1) 0 0 0) = true ∧ mergeL a o (chunks o a o (felV o a) (felV o o) (o.length + a.length + o.length + 1) 0 0 0) = a := by
  refine merge_left (cov_start ha ho) fun c hc => ?_
  have h1 := chunks_old o a (felV o a) (felV o o) (felV_self ho) _ 0 0 c hc
  rcases chunks_of ha ho c hc with ⟨h, _⟩ | h
  · omega
  · rw [h1.1, h1.2] at h
    unfold kindV at h
    by_cases e : seg a c.a0 c.a1 = seg o c.o0 c.o1
    · rw [if_pos e] at h; omega
    · rw [if_neg e, if_neg e, if_pos rfl] at h; omega
/-- what comes with the sides changed -/
theorem chunks_swap : chunks o b a (felV o b) (felV o a) (o.length + b.length + a.length + 1) 0 0 0 = (chunks o a b (felV o a) (felV o b) (o.length + a.length + b.length + 1) 0 0 0).map mirC := by
  rw [show o.length + b.length + a.length + 1 = o.length + a.length + b.length + 1 from by omega]
  exact chunks_mirror o a b _ _ _ 0 0 0
end
end Go.Proofs.Ytidfjemblidjkaa
