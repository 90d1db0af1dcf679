/- Paths, plain: which are right, their texts, and the path of a text. -/
import Derived.Test.YtcjflglpkpkflaaGreatDoorDgA
import Derived.Lib.ParseIntBCases
namespace Go.Proofs.YtcjflglpkpkflaaGreatDoor
set_option linter.unusedVariables false
/-- a step -/
structure PS where
  k : Int
  n : Int
  t : Int
  v : V
def V0 : V := .mk 0 0 [] [] [] [] []
def keyB (v : V) : Bool := rightV v && (v.k == 1 || (v.k == 2 && decide (v.t.length ≤ 4096)))
def noB (v : V) : Bool := v.k == 0 && rightV v
def inB (n lo hi : Int) : Bool := decide (lo ≤ n) && decide (n ≤ hi)
def stepB (s : PS) : Bool :=
  if s.k = 1 ∨ s.k = 3 ∨ s.k = 6 then inB s.n 0 1073741824 && s.t == 0 && noB s.v
  else if s.k = 4 then s.n == 0 && s.t == 0 && noB s.v
  else if s.k = 5 then inB s.n 0 1073741824 && inB s.t s.n 1073741824 && noB s.v
  else if s.k = 2 then s.n == 0 && s.t == 0 && keyB s.v
  else false
def pathB (p : List PS) : Bool := p.all stepB
/-! ### texts -/
def keyT (v : V) : Bs := if v.k = 1 then Lib.decDigits v.n else qtB v.t
def stepT (s : PS) : Bs :=
  if s.k = 1 then 46 :: decZ s.n
  else if s.k = 2 then 123 :: (keyT s.v ++ [125])
  else if s.k = 3 then 91 :: (decZ s.n ++ [93])
  else if s.k = 4 then [126]
  else if s.k = 5 then 91 :: (decZ s.n ++ 58 :: (decZ s.t ++ [93]))
  else 124 :: decZ s.n
def pathT : List PS → Bs
  | [] => []
  | s :: r => stepT s ++ pathT r
/-! ### a text's path -/
def takeS (c : UInt8) : Bs → Option Bs
  | [] => none
  | x :: r => if x = c then some r else none
def isHx (c : UInt8) : Bool := (unhexD c).isSome
def numP (l : Bs) : Option (Nat × Bs) :=
  match Lib.parseUintB 64 (l.takeWhile isDg) with
  | .ok u => if (l.takeWhile isDg).length ≤ 1 ∨ (l.takeWhile isDg).head? ≠ some 48 then some (u, l.dropWhile isDg) else none
  | _ => none
def smallP (l : Bs) : Option (Nat × Bs) := match numP l with
  | some (u, r) => if u ≤ 1073741824 then some (u, r) else none
  | none => none
def keyP (l : Bs) : Option (V × Bs) := match takeS 39 l with
  | none => match numP l with
    | some (u, r) => some (.mk 1 u [] [] [] [] [], r)
    | none => none
  | some l1 => match unhex (l1.takeWhile isHx), takeS 39 (l1.dropWhile isHx) with
    | some t, some r => some (.mk 2 0 t [] [] [] [], r)
    | _, _ => none
def stepP (l : Bs) : Option (PS × Bs) := match takeS 46 l with
  | some r => match smallP r with
    | some (u, r2) => some (⟨1, u, 0, V0⟩, r2)
    | none => none
  | none => match takeS 126 l with
    | some r => some (⟨4, 0, 0, V0⟩, r)
    | none => match takeS 124 l with
      | some r => match smallP r with
        | some (u, r2) => some (⟨6, u, 0, V0⟩, r2)
        | none => none
      | none => match takeS 123 l with
        | some r => match keyP r with
          | none => none
          | some (v, r2) => match takeS 125 r2 with
            | some r3 => some (⟨2, 0, 0, v⟩, r3)
            | none => none
        | none => match takeS 91 l with
          | none => none
          | some r => match smallP r with
            | none => none
            | some (u, r2) => match takeS 58 r2 with
              | none => match takeS 93 r2 with
                | some r3 => some (⟨3, u, 0, V0⟩, r3)
                | none => none
              | some r3 => match smallP r3 with
                | none => none
                | some (m, r4) => match takeS 93 r4 with
                  | some r5 => some (⟨5, u, m, V0⟩, r5)
                  | none => none
theorem takeS_cons (c x : UInt8) (r : Bs) : takeS c (x :: r) = if x = c then some r else none := rfl
theorem takeS_some {c : UInt8} {l r : Bs} (h : takeS c l = some r) : l = c :: r := by
  cases l with
  | nil => cases h
  | cons x l =>
    rw [takeS_cons] at h
    by_cases e : x = c
    · rw [if_pos e] at h; rw [e, Option.some.inj h]
    · rw [if_neg e] at h; cases h
theorem takeS_hit (c : UInt8) (r : Bs) : takeS c (c :: r) = some r := if_pos rfl
theorem takeS_miss {c x : UInt8} (h : x ≠ c) (r : Bs) : takeS c (x :: r) = none := if_neg h
theorem drop_le {p : UInt8 → Bool} (l : Bs) : (l.dropWhile p).length ≤ l.length := by
  induction l with
  | nil => simp
  | cons x l ih =>
    rw [List.dropWhile_cons]
    split
    · simp; omega
    · simp
theorem takeW_all {p : UInt8 → Bool} : ∀ (x r : Bs), (∀ b ∈ x, p b = true) → (∀ b, r.head? = some b → p b = false) → (x ++ r).takeWhile p = x ∧ (x ++ r).dropWhile p = r
  | [], r, _, h => by
    cases r with
    | nil => simp
    | cons b r => simp [h b rfl]
  | b :: x, r, h, h2 => by
    obtain ⟨h3, h4⟩ := takeW_all x r (fun c hc => h c (by simp [hc])) h2
    simp [h b (by simp), h3, h4]
theorem takeW_dg (p : UInt8 → Bool) (l : Bs) : ∀ b ∈ l.takeWhile p, p b = true := by
  induction l with
  | nil => intro b h; cases h
  | cons x l ih =>
    intro b h
    rw [List.takeWhile_cons] at h
    split at h
    · rename_i hx
      rcases List.mem_cons.1 h with rfl | h
      · exact hx
      · exact ih b h
    · cases h
theorem dec_digits {s : Bs} {u : Nat} (h : Lib.parseUintB 64 s = .ok u) (h4 : s.length ≤ 1 ∨ s.head? ≠ some 48) : Lib.decDigits u = s := by
  unfold Lib.parseUintB at h
  by_cases h0 : s = []
  · rw [if_pos h0] at h; cases h
  · rw [if_neg h0] at h
    obtain ⟨h3, rfl⟩ := parseUintM_dg _ s 0 u h
    cases s with
    | nil => exact absurd rfl h0
    | cons b x =>
      have hb := h3 b (by simp)
      unfold isDg at hb
      simp only [decide_eq_true_eq] at hb
      have e3 : UInt8.ofNat (48 + (b.toNat - 48)) = b := by
        apply UInt8.toNat.inj
        rw [dg_nat _ (by omega)]; omega
      rw [valD_cons, Nat.zero_mul, Nat.zero_add]
      by_cases hz : b.toNat - 48 = 0
      · have hx : x = [] := by
          rcases h4 with h4 | h4
          · cases x with
            | nil => rfl
            | cons c y => simp at h4
          · exfalso
            apply h4
            have : b = 48 := UInt8.toNat.inj (by simp; omega)
            rw [this]; rfl
        subst hx
        rw [valD_nil, dec_small _ (by omega), e3]
      · rw [dec_of_val x _ (fun c hc => h3 c (by simp [hc])) hz, dec_small _ (by omega), e3]
        rfl
theorem valD_ge : ∀ (x : Bs) (n : Nat), n ≤ valD n x
  | [], n => Nat.le_refl _
  | b :: x, n => by have := valD_ge x (n * 10 + (b.toNat - 48)); rw [valD_cons]; omega
theorem parseM64 : ∀ (x : Bs) (n : Nat), (∀ b ∈ x, isDg b = true) → valD n x < 18446744073709551616 → Lib.parseUintM 18446744073709551615 n x = .ok (valD n x)
  | [], n, _, _ => rfl
  | b :: x, n, h, h1 => by
    have hb := h b (by simp)
    unfold isDg at hb
    simp only [decide_eq_true_eq] at hb
    have hg := valD_ge x (n * 10 + (b.toNat - 48))
    rw [valD_cons] at h1 ⊢
    rw [Lib.parseUintM, if_pos hb, if_neg (by omega), if_neg (by omega)]
    exact parseM64 x _ (fun c hc => h c (by simp [hc])) h1
theorem parse_dec {u : Nat} (h : u < 18446744073709551616) : Lib.parseUintB 64 (Lib.decDigits u) = .ok u := by
  unfold Lib.parseUintB
  rw [if_neg (dec_ne u)]
  have := parseM64 (Lib.decDigits u) 0 (dec_dg u) (by rw [dec_val]; exact h)
  rw [dec_val] at this
  exact this
theorem numP_some {l r : Bs} {u : Nat} (h : numP l = some (u, r)) : Lib.decDigits u ++ r = l ∧ u < 18446744073709551616 := by
  unfold numP at h
  split at h
  · rename_i x hx
    split at h
    · rename_i hc
      cases h
      rw [dec_digits hx hc, List.takeWhile_append_dropWhile]
      refine ⟨rfl, ?_⟩
      have := Lib.parseUintB_le hx
      omega
    · cases h
  · cases h
theorem numP_dec {u : Nat} (h : u < 18446744073709551616) (r : Bs) (hr : ∀ b, r.head? = some b → isDg b = false) : numP (Lib.decDigits u ++ r) = some (u, r) := by
  obtain ⟨h1, h2⟩ := takeW_all (Lib.decDigits u) r (dec_dg u) hr
  unfold numP
  rw [h1, h2, parse_dec h]
  simp only
  rw [if_pos (dec_head u)]
theorem smallP_some {l r : Bs} {u : Nat} (h : smallP l = some (u, r)) : Lib.decDigits u ++ r = l ∧ u ≤ 1073741824 := by
  unfold smallP at h
  split at h
  · rename_i u' r' hn
    split at h
    · rename_i hu
      cases h
      exact ⟨(numP_some hn).1, hu⟩
    · cases h
  · cases h
theorem smallP_dec {u : Nat} (h : u ≤ 1073741824) (r : Bs) (hr : ∀ b, r.head? = some b → isDg b = false) : smallP (Lib.decDigits u ++ r) = some (u, r) := by
  unfold smallP
  rw [numP_dec (by omega) r hr]
  simp only
  rw [if_pos h]
theorem hexd_hx {d : Nat} (h : d < 16) : isHx (hexd d) = true := by unfold isHx; rw [unhexD_hexd h]; rfl
theorem hexB_hx : ∀ t : Bs, ∀ b ∈ hexB t, isHx b = true
  | [], b, h => by cases h
  | c :: t, b, h => by
    have hc := c.toNat_lt
    rw [hexB] at h
    rcases List.mem_cons.1 h with rfl | h
    · exact hexd_hx (by omega)
    · rcases List.mem_cons.1 h with rfl | h
      · exact hexd_hx (by omega)
      · exact hexB_hx t b h
theorem keyP_some {l r : Bs} {v : V} (h : keyP l = some (v, r)) : keyT v ++ r = l ∧ ((∃ u : Nat, v = .mk 1 u [] [] [] [] [] ∧ u < 18446744073709551616) ∨ ∃ t : Bs, v = .mk 2 0 t [] [] [] [] ∧ t.length ≤ l.length) := by
  unfold keyP at h
  split at h
  · split at h
    · rename_i u r' hn
      cases h
      obtain ⟨h1, h2⟩ := numP_some hn
      exact ⟨h1, .inl ⟨u, rfl, h2⟩⟩
    · cases h
  · rename_i l1 h1
    split at h
    · rename_i t r' hu hr
      cases h
      have e1 := takeS_some h1
      have e2 := takeS_some hr
      have e3 := hex_unhex _ _ hu
      have e4 : hexB t ++ 39 :: r = l1 := by rw [e3, ← e2]; exact List.takeWhile_append_dropWhile
      have e5 : keyT (.mk 2 0 t [] [] [] []) ++ r = l := by
        rw [e1, ← e4]
        simp [keyT, V.k, V.t, qtB]
      refine ⟨e5, .inr ⟨t, rfl, ?_⟩⟩
      rw [← e5]
      simp [keyT, V.k, V.t, qtB_len]
      omega
    · cases h
theorem keyP_num {u : Nat} (h : u < 18446744073709551616) (r : Bs) (hr : ∀ b, r.head? = some b → isDg b = false) : keyP (Lib.decDigits u ++ r) = some (.mk 1 u [] [] [] [] [], r) := by
  have hm : takeS 39 (Lib.decDigits u ++ r) = none := by
    have h1 := dec_dg u
    cases hd : Lib.decDigits u with
    | nil => exact absurd hd (dec_ne u)
    | cons b x =>
      rw [hd] at h1
      have := h1 b (by simp)
      refine takeS_miss (fun e => ?_) _
      subst e
      revert this; decide
  unfold keyP
  rw [hm, numP_dec h r hr]
theorem keyP_txt (t r : Bs) : keyP (qtB t ++ r) = some (.mk 2 0 t [] [] [] [], r) := by
  have e : qtB t ++ r = 39 :: (hexB t ++ 39 :: r) := by simp [qtB]
  obtain ⟨h1, h2⟩ := takeW_all (p := isHx) (hexB t) (39 :: r) (hexB_hx t) (fun b h => by simp at h; subst h; decide)
  unfold keyP
  rw [e, takeS_hit]
  simp only
  rw [h1, h2, unhex_hex, takeS_hit]
theorem decZ_nat (u : Nat) : decZ (u : Int) = Lib.decDigits u := by
  unfold decZ
  rw [if_neg (by omega), Int.natAbs_natCast]
theorem stepP_some {l r : Bs} {s : PS} (h : stepP l = some (s, r)) : stepT s ++ r = l := by
  unfold stepP at h
  split at h
  · rename_i r1 h1
    split at h
    · rename_i u r2 h2
      cases h
      rw [takeS_some h1, ← (smallP_some h2).1]
      simp [stepT, decZ_nat]
    · cases h
  · split at h
    · rename_i r1 h1
      cases h
      rw [takeS_some h1]
      simp [stepT]
    · split at h
      · rename_i r1 h1
        split at h
        · rename_i u r2 h2
          cases h
          rw [takeS_some h1, ← (smallP_some h2).1]
          simp [stepT, decZ_nat]
        · cases h
      · split at h
        · rename_i r1 h1
          split at h
          · cases h
          · rename_i v r2 h2
            split at h
            · rename_i r3 h3
              cases h
              rw [takeS_some h1, ← (keyP_some h2).1, takeS_some h3]
              simp [stepT]
            · cases h
        · split at h
          · cases h
          · rename_i r1 h1
            split at h
            · cases h
            · rename_i u r2 h2
              split at h
              · split at h
                · rename_i r3 h3
                  cases h
                  rw [takeS_some h1, ← (smallP_some h2).1, takeS_some h3]
                  simp [stepT, decZ_nat]
                · cases h
              · rename_i r3 h3
                split at h
                · cases h
                · rename_i m r4 h4
                  split at h
                  · rename_i r5 h5
                    cases h
                    rw [takeS_some h1, ← (smallP_some h2).1, takeS_some h3, ← (smallP_some h4).1, takeS_some h5]
                    simp [stepT, decZ_nat]
                  · cases h
theorem stepT_pos (s : PS) : 0 < (stepT s).length := by
  unfold stepT
  repeat' split
  all_goals simp
theorem stepP_lt {l r : Bs} {s : PS} (h : stepP l = some (s, r)) : r.length < l.length := by
  have h1 := stepP_some h
  have h2 := stepT_pos s
  rw [← h1, List.length_append]
  omega
def parseF : Nat → Bs → Option (List PS)
  | _, [] => some []
  | 0, _ :: _ => none
  | f + 1, x :: l => match stepP (x :: l) with
    | none => none
    | some (s, r) => match parseF f r with
      | none => none
      | some q => some (s :: q)
theorem parseF_any : ∀ (f g : Nat) (l : Bs), l.length ≤ f → l.length ≤ g → parseF f l = parseF g l
  | f, g, [], _, _ => by cases f <;> cases g <;> rfl
  | 0, g, x :: l, h, _ => by simp at h
  | f + 1, 0, x :: l, _, h => by simp at h
  | f + 1, g + 1, x :: l, h, h2 => by
    rw [parseF, parseF]
    cases hs : stepP (x :: l) with
    | none => rfl
    | some p =>
      obtain ⟨s, r⟩ := p
      have hl := stepP_lt hs
      simp only [List.length_cons] at h h2 hl
      simp only
      rw [parseF_any f g r (by omega) (by omega)]
/-- a text's steps -/
def parseP (l : Bs) : Option (List PS) := parseF l.length l
theorem parseP_nil : parseP [] = some [] := rfl
theorem parseP_step {l : Bs} (h : l ≠ []) : parseP l = match stepP l with
    | none => none
    | some (s, r) => match parseP r with
      | none => none
      | some q => some (s :: q) := by
  obtain ⟨x, t, rfl⟩ := List.exists_cons_of_ne_nil h
  unfold parseP
  rw [List.length_cons, parseF]
  cases hs : stepP (x :: t) with
  | none => rfl
  | some p =>
    obtain ⟨s, r⟩ := p
    have hl := stepP_lt hs
    simp only [List.length_cons] at hl
    simp only
    rw [parseF_any t.length r.length r (by omega) (Nat.le_refl _)]
/-- a text's path has that text -/
theorem parseP_text : ∀ (k : Nat) (l : Bs) (q : List PS), l.length < k → parseP l = some q → pathT q = l := by
  intro k
  induction k with
  | zero => intro l q h; omega
  | succ k ih =>
    intro l q hl h
    by_cases h0 : l = []
    · subst h0; rw [parseP_nil] at h; cases h; rfl
    · rw [parseP_step h0] at h
      cases hs : stepP l with
      | none => rw [hs] at h; cases h
      | some p =>
        obtain ⟨s, r⟩ := p
        rw [hs] at h
        simp only at h
        have hlt := stepP_lt hs
        cases hp : parseP r with
        | none => rw [hp] at h; cases h
        | some q' =>
          rw [hp] at h
          cases h
          rw [pathT, ih r q' (by omega) hp, stepP_some hs]
/-! ### a right path's text has that path -/
theorem noB_is {v : V} (h : noB v = true) : v = V0 := by
  obtain ⟨k, n, t, fs, r, ls, ps⟩ := v
  unfold noB at h
  simp only [Bool.and_eq_true, beq_iff_eq, V.k, rightV, shapeB_iff, isEmpty_nil] at h
  obtain ⟨rfl, ⟨⟨⟨hs, -⟩, -⟩, -⟩⟩ := h
  obtain ⟨-, s1, s2, s3, s4, s5⟩ := hs
  obtain ⟨e3, e4⟩ := s3 (by decide)
  have e5 : ls = [] := by
    cases ls with
    | nil => rfl
    | cons x y => exact absurd (s4.2 rfl) (by decide)
  have e6 : ps = [] := by
    cases ps with
    | nil => rfl
    | cons x y => exact absurd (s5.2 rfl) (by decide)
  rw [s1 (by decide), s2 (by decide), e3, e4, e5, e6]
  rfl
theorem keyB_is {v : V} (h : keyB v = true) : (∃ n : Nat, v = .mk 1 n [] [] [] [] []) ∨ ∃ t : Bs, v = .mk 2 0 t [] [] [] [] ∧ t.length ≤ 4096 := by
  obtain ⟨k, n, t, fs, r, ls, ps⟩ := v
  unfold keyB at h
  simp only [Bool.and_eq_true, Bool.or_eq_true, beq_iff_eq, V.k, V.t, rightV, shapeB_iff, isEmpty_nil] at h
  obtain ⟨⟨⟨⟨hs, -⟩, -⟩, -⟩, hk⟩ := h
  obtain ⟨-, s1, s2, s3, s4, s5⟩ := hs
  have hk4 : k ≠ 4 := by omega
  have hk5 : k ≠ 5 := by omega
  obtain ⟨e3, e4⟩ := s3 (by omega)
  have e5 : ls = [] := by
    cases ls with
    | nil => rfl
    | cons x y => exact absurd (s4.2 rfl) hk4
  have e6 : ps = [] := by
    cases ps with
    | nil => rfl
    | cons x y => exact absurd (s5.2 rfl) hk5
  rcases hk with rfl | ⟨rfl, h2⟩
  · exact .inl ⟨n, by rw [s2 (by decide), e3, e4, e5, e6]⟩
  · exact .inr ⟨t, by rw [s1 (by decide), e3, e4, e5, e6], of_decide_eq_true h2⟩
theorem inB_iff {n lo hi : Int} : inB n lo hi = true ↔ lo ≤ n ∧ n ≤ hi := by unfold inB; simp
/-- what a right path's text begins with -/
def isSg (b : UInt8) : Bool := b == 46 || b == 123 || b == 91 || b == 126 || b == 124
theorem sg_dg {b : UInt8} (h : isSg b = true) : isDg b = false := by
  unfold isSg at h
  simp only [Bool.or_eq_true, beq_iff_eq] at h
  rcases h with (((rfl | rfl) | rfl) | rfl) | rfl <;> decide
theorem pathT_sg (p : List PS) : ∀ b, (pathT p).head? = some b → isSg b = true := by
  intro b h
  cases p with
  | nil => cases h
  | cons s r =>
    rw [pathT] at h
    unfold stepT at h
    repeat' split at h
    all_goals (simp at h; subst h; decide)
theorem stepP_text {s : PS} (h : stepB s = true) (hn : s.v.n < 18446744073709551616) (r : Bs) (hr : ∀ b, r.head? = some b → isDg b = false) : stepP (stepT s ++ r) = some (s, r) := by
  obtain ⟨k, n, t, v⟩ := s
  unfold stepB at h
  simp only at h hn
  split at h
  · rename_i hk
    simp only [Bool.and_eq_true, beq_iff_eq, inB_iff] at h
    obtain ⟨⟨⟨h1, h2⟩, rfl⟩, hv⟩ := h
    obtain rfl := noB_is hv
    obtain ⟨u, rfl⟩ : ∃ u : Nat, n = u := ⟨n.toNat, by omega⟩
    rcases hk with rfl | rfl | rfl
    · have e : stepT ⟨1, (u : Int), 0, V0⟩ ++ r = 46 :: (Lib.decDigits u ++ r) := by simp [stepT, decZ_nat]
      rw [e, stepP, takeS_hit]
      simp only
      rw [smallP_dec (by omega) r hr]
    · have e : stepT ⟨3, (u : Int), 0, V0⟩ ++ r = 91 :: (Lib.decDigits u ++ 93 :: r) := by simp [stepT, decZ_nat]
      rw [e, stepP, takeS_miss (by decide), takeS_miss (by decide), takeS_miss (by decide), takeS_miss (by decide), takeS_hit]
      simp only
      rw [smallP_dec (by omega) (93 :: r) (fun b h => by simp at h; subst h; decide)]
      simp only
      rw [takeS_miss (by decide), takeS_hit]
    · have e : stepT ⟨6, (u : Int), 0, V0⟩ ++ r = 124 :: (Lib.decDigits u ++ r) := by simp [stepT, decZ_nat]
      rw [e, stepP, takeS_miss (by decide), takeS_miss (by decide), takeS_hit]
      simp only
      rw [smallP_dec (by omega) r hr]
  · split at h
    · rename_i hk
      simp only [Bool.and_eq_true, beq_iff_eq] at h
      obtain ⟨⟨rfl, rfl⟩, hv⟩ := h
      obtain rfl := noB_is hv
      subst hk
      have e : stepT ⟨4, 0, 0, V0⟩ ++ r = 126 :: r := by simp [stepT]
      rw [e, stepP, takeS_miss (by decide), takeS_hit]
    · split at h
      · rename_i hk
        simp only [Bool.and_eq_true, inB_iff] at h
        obtain ⟨⟨⟨h1, h2⟩, h3, h4⟩, hv⟩ := h
        obtain rfl := noB_is hv
        subst hk
        obtain ⟨u, rfl⟩ : ∃ u : Nat, n = u := ⟨n.toNat, by omega⟩
        obtain ⟨m, rfl⟩ : ∃ m : Nat, t = m := ⟨t.toNat, by omega⟩
        have e : stepT ⟨5, (u : Int), (m : Int), V0⟩ ++ r = 91 :: (Lib.decDigits u ++ 58 :: (Lib.decDigits m ++ 93 :: r)) := by simp [stepT, decZ_nat]
        rw [e, stepP, takeS_miss (by decide), takeS_miss (by decide), takeS_miss (by decide), takeS_miss (by decide), takeS_hit]
        simp only
        rw [smallP_dec (by omega) _ (fun b h => by simp at h; subst h; decide)]
        simp only
        rw [takeS_hit]
        simp only
        rw [smallP_dec (by omega) _ (fun b h => by simp at h; subst h; decide)]
        simp only
        rw [takeS_hit]
      · split at h
        · rename_i hk
          simp only [Bool.and_eq_true, beq_iff_eq] at h
          obtain ⟨⟨rfl, rfl⟩, hv⟩ := h
          subst hk
          rcases keyB_is hv with ⟨u, rfl⟩ | ⟨b, rfl, hb⟩
          · have e : stepT ⟨2, 0, 0, .mk 1 u [] [] [] [] []⟩ ++ r = 123 :: (Lib.decDigits u ++ 125 :: r) := by simp [stepT, keyT, V.k, V.n]
            rw [e, stepP, takeS_miss (by decide), takeS_miss (by decide), takeS_miss (by decide), takeS_hit]
            simp only
            rw [keyP_num (show u < 18446744073709551616 from hn) _ (fun b h => by simp at h; subst h; decide)]
            simp only
            rw [takeS_hit]
          · have e : stepT ⟨2, 0, 0, .mk 2 0 b [] [] [] []⟩ ++ r = 123 :: (qtB b ++ 125 :: r) := by simp [stepT, keyT, V.k, V.t]
            rw [e, stepP, takeS_miss (by decide), takeS_miss (by decide), takeS_miss (by decide), takeS_hit]
            simp only
            rw [keyP_txt]
            simp only
            rw [takeS_hit]
        · cases h
theorem parseP_back : ∀ (p : List PS), pathB p = true → (∀ s ∈ p, s.v.n < 18446744073709551616) → parseP (pathT p) = some p
  | [], _, _ => rfl
  | s :: r, h, hn => by
    unfold pathB at h
    rw [List.all_cons, Bool.and_eq_true] at h
    have ih := parseP_back r h.2 (fun x hx => hn x (by simp [hx]))
    have hne : pathT (s :: r) ≠ [] := fun e => by
      have h1 := stepT_pos s
      rw [pathT] at e
      rw [(List.append_eq_nil_iff.1 e).1] at h1
      simp at h1
    rw [parseP_step hne, pathT, stepP_text h.1 (hn s (by simp)) _ (fun b hb => sg_dg (pathT_sg r b hb))]
    simp only
    rw [ih]
end Go.Proofs.YtcjflglpkpkflaaGreatDoor
