/- Scripts, plain: bytes told in hex, things with commas between, torn sectors. -/
import Derived.Test.YtcjflglpkpkflaaDoorScA
namespace Go.Proofs.YtcjflglpkpkflaaDoor
set_option linter.unusedVariables false
/-! ### bytes, told -/
def hexd (d : Nat) : UInt8 := if d < 10 then UInt8.ofNat (48 + d) else UInt8.ofNat (87 + d)
def unhexD (c : UInt8) : Option Nat := if 48 ≤ c.toNat ∧ c.toNat ≤ 57 then some (c.toNat - 48) else if 97 ≤ c.toNat ∧ c.toNat ≤ 102 then some (c.toNat - 87) else none
theorem of_nat {n : Nat} (h : n < 256) : (UInt8.ofNat n).toNat = n := by rw [UInt8.toNat_ofNat']; omega
theorem hexd_nat {d : Nat} (h : d < 16) : (hexd d).toNat = if d < 10 then 48 + d else 87 + d := by
  unfold hexd
  split
  · exact of_nat (by omega)
  · exact of_nat (by omega)
theorem unhexD_hexd {d : Nat} (h : d < 16) : unhexD (hexd d) = some d := by
  have h1 := hexd_nat h
  unfold unhexD
  rw [h1]
  by_cases hd : d < 10
  · rw [if_pos hd, if_pos (by omega)]; congr 1; omega
  · rw [if_neg hd, if_neg (by omega), if_pos (by omega)]; congr 1; omega
theorem unhexD_some {c : UInt8} {d : Nat} (h : unhexD c = some d) : d < 16 ∧ hexd d = c := by
  have hc := c.toNat_lt
  unfold unhexD at h
  split at h
  · rename_i hh
    cases h
    refine ⟨by omega, ?_⟩
    apply UInt8.toNat.inj
    rw [hexd_nat (by omega), if_pos (by omega)]; omega
  · split at h
    · rename_i h1 hh
      cases h
      refine ⟨by omega, ?_⟩
      apply UInt8.toNat.inj
      rw [hexd_nat (by omega), if_neg (by omega)]; omega
    · cases h
def hexB : Bs → Bs
  | [] => []
  | b :: l => hexd (b.toNat / 16) :: hexd (b.toNat % 16) :: hexB l
def unhex : Bs → Option Bs
  | [] => some []
  | [_] => none
  | x :: y :: l => match unhexD x, unhexD y, unhex l with
    | some a, some b, some r => some (UInt8.ofNat (a * 16 + b) :: r)
    | _, _, _ => none
theorem unhex_hex : ∀ l : Bs, unhex (hexB l) = some l
  | [] => rfl
  | b :: l => by
    have hb := b.toNat_lt
    rw [hexB, unhex, unhexD_hexd (by omega), unhexD_hexd (by omega), unhex_hex l]
    simp only
    congr 2
    apply UInt8.toNat.inj
    rw [of_nat (by omega)]; omega
theorem hex_unhex : ∀ (s l : Bs), unhex s = some l → hexB l = s
  | [], l, h => by cases h; rfl
  | [_], l, h => by cases h
  | x :: y :: s, l, h => by
    rw [unhex] at h
    split at h
    · rename_i a b r h1 h2 h3
      cases h
      obtain ⟨a1, a2⟩ := unhexD_some h1
      obtain ⟨b1, b2⟩ := unhexD_some h2
      rw [hexB, of_nat (by omega), show (a * 16 + b) / 16 = a by omega, show (a * 16 + b) % 16 = b by omega, a2, b2, hex_unhex s r h3]
    · cases h
def putB (l : Bs) : Bs := if l = [] then [45] else hexB l
def unB (s : Bs) : Option Bs := if s = [45] then some [] else if s = [] then none else unhex s
theorem hexB_len : ∀ l : Bs, (hexB l).length = 2 * l.length
  | [] => rfl
  | b :: l => by rw [hexB, List.length_cons, List.length_cons, hexB_len l, List.length_cons]; omega
theorem unB_put (l : Bs) : unB (putB l) = some l := by
  unfold putB
  by_cases h : l = []
  · rw [if_pos h, h]; rfl
  · rw [if_neg h]
    have hl := hexB_len l
    have h0 : 0 < l.length := List.length_pos_iff.2 h
    unfold unB
    rw [if_neg (fun e => by rw [e] at hl; simp at hl; omega), if_neg (fun e => by rw [e] at hl; simp at hl; omega), unhex_hex]
theorem put_unB {s l : Bs} (h : unB s = some l) : putB l = s := by
  unfold unB at h
  by_cases h1 : s = [45]
  · rw [if_pos h1] at h; cases h; rw [h1]; rfl
  · rw [if_neg h1] at h
    by_cases h2 : s = []
    · rw [if_pos h2] at h; cases h
    · rw [if_neg h2] at h
      have h3 := hex_unhex s l h
      unfold putB
      rw [if_neg (fun e => by rw [e] at h3; exact h2 h3.symm), h3]
theorem hexd_rng {d : Nat} (h : d < 16) : 48 ≤ (hexd d).toNat ∧ (hexd d).toNat ≤ 57 ∨ 97 ≤ (hexd d).toNat ∧ (hexd d).toNat ≤ 102 := by
  rw [hexd_nat h]; split <;> omega
theorem hexB_mem : ∀ (l : Bs), ∀ b ∈ hexB l, 48 ≤ b.toNat ∧ b.toNat ≤ 57 ∨ 97 ≤ b.toNat ∧ b.toNat ≤ 102
  | [], b, h => by cases h
  | c :: l, b, h => by
    have hc := c.toNat_lt
    rw [hexB] at h
    rcases List.mem_cons.1 h with e | h
    · rw [e]; exact hexd_rng (by omega)
    · rcases List.mem_cons.1 h with e | h
      · rw [e]; exact hexd_rng (by omega)
      · exact hexB_mem l b h
theorem putB_mem (l : Bs) : ∀ b ∈ putB l, b.toNat = 45 ∨ 48 ≤ b.toNat ∧ b.toNat ≤ 57 ∨ 97 ≤ b.toNat ∧ b.toNat ≤ 102 := by
  intro b hb
  unfold putB at hb
  split at hb
  · rw [List.mem_singleton] at hb; rw [hb]; left; rfl
  · right; exact hexB_mem l b hb
theorem dec_mem (u : Nat) : ∀ b ∈ Lib.decDigits u, 48 ≤ b.toNat ∧ b.toNat ≤ 57 := fun b hb => by
  have := dec_dg u b hb
  unfold isDg at this
  simpa using this
/-! ### a text cut once -/
def cutAt (c : UInt8) : Bs → Option (Bs × Bs)
  | [] => none
  | b :: l => if b = c then some ([], l) else match cutAt c l with
    | some (x, y) => some (b :: x, y)
    | none => none
theorem cut_app (c : UInt8) : ∀ (x y : Bs), c ∉ x → cutAt c (x ++ c :: y) = some (x, y)
  | [], y, _ => by simp [cutAt]
  | b :: x, y, h => by
    simp only [List.mem_cons, not_or] at h
    rw [List.cons_append, cutAt, if_neg (fun e => h.1 e.symm), cut_app c x y h.2]
theorem cut_some (c : UInt8) : ∀ (s x y : Bs), cutAt c s = some (x, y) → s = x ++ c :: y
  | [], x, y, h => by cases h
  | b :: l, x, y, h => by
    rw [cutAt] at h
    split at h
    · rename_i hb; cases h; rw [hb]; rfl
    · split at h
      · rename_i x' y' hc
        cases h
        rw [cut_some c l _ _ hc]; rfl
      · cases h
/-! ### things with commas between -/
section
variable {α : Type}
def mapO (g : Bs → Option α) : List Bs → Option (List α)
  | [] => some []
  | s :: r => match g s, mapO g r with
    | some x, some l => some (x :: l)
    | _, _ => none
def putL (p : α → Bs) (l : List α) : Bs := if l = [] then [45] else joi 44 (l.map p)
def getL (g : Bs → Option α) (s : Bs) : Option (List α) := if s = [45] then some [] else mapO g (spl 44 s)
theorem mapO_put {p : α → Bs} {g : Bs → Option α} : ∀ l : List α, (∀ x ∈ l, g (p x) = some x) → mapO g (l.map p) = some l
  | [], _ => rfl
  | x :: l, h => by rw [List.map_cons, mapO, h x (by simp), mapO_put l (fun y hy => h y (by simp [hy]))]
theorem put_mapO {p : α → Bs} {g : Bs → Option α} (h : ∀ s x, g s = some x → p x = s) : ∀ (r : List Bs) (l : List α), mapO g r = some l → l.map p = r
  | [], l, hl => by cases hl; rfl
  | s :: r, l, hl => by
    rw [mapO] at hl
    split at hl
    · rename_i x l' h1 h2
      cases hl
      rw [List.map_cons, h s x h1, put_mapO h r l' h2]
    · cases hl
theorem joi_head (c : UInt8) : ∀ (x : Bs) (r : List Bs), x ≠ [] → (joi c (x :: r)).head? = x.head?
  | x, [], _ => rfl
  | x, y :: r, h => by
    rw [joi_cons c x (by simp)]
    cases x with
    | nil => exact absurd rfl h
    | cons b x => rfl
theorem getL_put {p : α → Bs} {g : Bs → Option α} (l : List α) (h : ∀ x ∈ l, g (p x) = some x ∧ 44 ∉ p x ∧ p x ≠ [] ∧ (p x).head? ≠ some 45) : getL g (putL p l) = some l := by
  unfold putL
  by_cases h0 : l = []
  · rw [if_pos h0, h0]; rfl
  · rw [if_neg h0]
    have hne : joi 44 (l.map p) ≠ [45] := by
      cases l with
      | nil => exact absurd rfl h0
      | cons x l =>
        intro e
        have h1 := joi_head 44 (p x) (l.map p) (h x (by simp)).2.2.1
        rw [List.map_cons] at e
        rw [e] at h1
        exact (h x (by simp)).2.2.2 h1.symm
    unfold getL
    rw [if_neg hne, spl_joi 44 (l.map p) (by simpa using h0) (fun s hs => by
      obtain ⟨x, hx, rfl⟩ := List.mem_map.1 hs
      exact (h x hx).2.1), mapO_put l (fun x hx => (h x hx).1)]
theorem put_getL {p : α → Bs} {g : Bs → Option α} (h : ∀ s x, g s = some x → p x = s) {s : Bs} {l : List α} (hl : getL g s = some l) : putL p l = s := by
  unfold getL at hl
  by_cases h0 : s = [45]
  · rw [if_pos h0] at hl; cases hl; rw [h0]; rfl
  · rw [if_neg h0] at hl
    have h1 := put_mapO h _ _ hl
    unfold putL
    rw [if_neg (fun e => by rw [e] at h1; exact spl_ne 44 s h1.symm), h1, joi_spl]
end
/-! ### a torn sector; a number -/
def decI (n : Int) : Bs := Lib.decDigits n.toNat
def numO (s : Bs) : Option Int := (parseN s).map fun u : Nat => (u : Int)
def inN (n : Int) : Bool := decide (0 ≤ n ∧ n ≤ 999999999)
theorem numO_dec {n : Int} (h : inN n = true) : numO (decI n) = some n := by
  unfold inN at h
  simp only [decide_eq_true_eq] at h
  unfold numO decI
  rw [parseN_dec (by omega)]
  simp; omega
theorem dec_numO {s : Bs} {n : Int} (h : numO s = some n) : decI n = s ∧ inN n = true := by
  unfold numO at h
  cases hp : parseN s with
  | none => rw [hp] at h; cases h
  | some u =>
    rw [hp] at h
    cases h
    obtain ⟨h1, h2⟩ := parseN_some hp
    refine ⟨?_, ?_⟩
    · unfold decI; rw [Int.toNat_natCast]; exact h1
    · unfold inN; simp; omega
def putT (t : Int × Bs) : Bs := decI t.1 ++ 58 :: putB t.2
def getT (s : Bs) : Option (Int × Bs) := match cutAt 58 s with
  | none => none
  | some (x, y) => match numO x, unB y with
    | some n, some b => some (n, b)
    | _, _ => none
theorem decI_free (n : Int) (c : UInt8) (h : c.toNat < 48 ∨ 57 < c.toNat) : c ∉ decI n := fun hc => by
  have := dec_mem _ c hc
  omega
theorem putB_free (l : Bs) (c : UInt8) (h : c.toNat < 45 ∨ c.toNat = 58) : c ∉ putB l := fun hc => by
  have := putB_mem l c hc
  omega
theorem getT_put {t : Int × Bs} (h : inN t.1 = true) : getT (putT t) = some t := by
  unfold getT putT
  rw [cut_app 58 _ _ (decI_free _ 58 (by decide))]
  simp only [numO_dec h, unB_put]
theorem put_getT {s : Bs} {t : Int × Bs} (h : getT s = some t) : putT t = s := by
  unfold getT at h
  split at h
  · cases h
  · rename_i x y hc
    split at h
    · rename_i n b h1 h2
      cases h
      unfold putT
      simp only
      rw [(dec_numO h1).1, put_unB h2, ← cut_some 58 _ _ _ hc]
    · cases h
end Go.Proofs.YtcjflglpkpkflaaDoor
