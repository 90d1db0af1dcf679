/- Records of bytes, plainly: what begins bytes, all of them, their bytes, and that what is put is parsed as it was. -/
import Derived.Test.YtgehbabcpmkgaaaDoorTagPut
import Derived.Test.YtgehbabcpmkgaaaDoorFput
import Derived.Test.YtgehbabcpmkgaaaDoorStr
import Derived.Test.YtgehbabcpmkgaaaDoorGrew
namespace Go.Proofs.YtgehbabcpmkgaaaDoor
open Go Go.RowKit
set_option linter.unusedVariables false
/-- a record -/
structure Rc where
  n : Int
  k : Int
  bits : Nat
  text : List UInt8
  raw : List UInt8
deriving DecidableEq
def rcZ : Rc := ⟨0, 0, 0, [], []⟩
def rcC (r : Rc) : List Value := [.int .i64 r.n, .int .i64 r.k, .int .u64 r.bits, .string (strB r.text), .string (strB r.raw)]
theorem rcC_len (r : Rc) : (rcC r).length = 5 := rfl
theorem rcC_one (r : Rc) : (rcC r).all Value.oneCell' = true := rfl
/-- what stands behind a tag: so many bytes -/
def rfix (bs : List UInt8) (n k : Int) (p m : Nat) : Rc × Nat × Nat :=
  if bs.length - p < m then (rcZ, 0, 2) else (⟨n, k, fixedV ((bs.drop p).take m), [], bs.take (p + m)⟩, p + m, 0)
/-- a varint -/
def rvar (bs : List UInt8) (n k : Int) (p : Nat) : Rc × Nat × Nat :=
  let v := vparse 0 0 (bs.drop p)
  if v.2.2 ≠ 0 then (rcZ, 0, v.2.2) else (⟨n, k, v.1, [], bs.take (p + v.2.1)⟩, p + v.2.1, 0)
/-- a text -/
def rtxt (bs : List UInt8) (n k : Int) (p : Nat) : Rc × Nat × Nat :=
  let v := vparse 0 0 (bs.drop p)
  if v.2.2 ≠ 0 then (rcZ, 0, v.2.2) else
  if bs.length - (p + v.2.1) < v.1 then (rcZ, 0, 2) else (⟨n, k, 0, (bs.drop (p + v.2.1)).take v.1, bs.take (p + v.2.1 + v.1)⟩, p + v.2.1 + v.1, 0)
/-- the record with which bytes begin, how many bytes, the error's number -/
def rparse (bs : List UInt8) : Rc × Nat × Nat :=
  let t := tparse bs
  if t.2.2.2 ≠ 0 then (rcZ, 0, t.2.2.2) else
  if t.2.1 = 1 then rfix bs t.1 t.2.1 t.2.2.1 8 else if t.2.1 = 5 then rfix bs t.1 t.2.1 t.2.2.1 4 else
  if t.2.1 = 2 then rtxt bs t.1 t.2.1 t.2.2.1 else rvar bs t.1 t.2.1 t.2.2.1
theorem rparse_bad {bs : List UInt8} (h : (tparse bs).2.2.2 ≠ 0) : rparse bs = (rcZ, 0, (tparse bs).2.2.2) := by unfold rparse; exact if_pos h
theorem rparse_1 {bs : List UInt8} {n k : Int} {p : Nat} (h : tparse bs = (n, k, p, 0)) (hk : k = 1) : rparse bs = rfix bs n k p 8 := by unfold rparse; rw [h]; simp [hk]
theorem rparse_5 {bs : List UInt8} {n k : Int} {p : Nat} (h : tparse bs = (n, k, p, 0)) (hk : k = 5) : rparse bs = rfix bs n k p 4 := by unfold rparse; rw [h]; simp [hk]
theorem rparse_2 {bs : List UInt8} {n k : Int} {p : Nat} (h : tparse bs = (n, k, p, 0)) (hk : k = 2) : rparse bs = rtxt bs n k p := by unfold rparse; rw [h]; simp [hk]
theorem rparse_0 {bs : List UInt8} {n k : Int} {p : Nat} (h : tparse bs = (n, k, p, 0)) (hk : k = 0) : rparse bs = rvar bs n k p := by unfold rparse; rw [h]; simp [hk]
/-- how bytes' tag turns out -/
theorem tparse_cases (bs : List UInt8) : (∃ n k p, tparse bs = (n, k, p, 0) ∧ 1 ≤ n ∧ n ≤ 536870911 ∧ (k = 0 ∨ k = 1 ∨ k = 2 ∨ k = 5) ∧ 1 ≤ p ∧ p ≤ bs.length) ∨ ∃ e, e ≠ 0 ∧ e ≤ 19 ∧ tparse bs = (0, 0, 0, e) := by
  rcases vparse_cases bs with ⟨n, s, hv, hs1, hs2, hn⟩ | ⟨k, hk, h19, hv⟩
  · by_cases hbig : 4294967295 < n
    · exact .inr ⟨5, by decide, by decide, tparse_big hv hbig⟩
    · by_cases hc : tcheck ((n : Int) / 8) ((n : Int) % 8) = 0
      · obtain ⟨a, b, c⟩ := tcheck_zero hc
        exact .inl ⟨_, _, _, tparse_ok hv (by omega) hc, a, b, c, hs1, hs2⟩
      · exact .inr ⟨_, hc, tcheck_le _ _, tparse_not hv (by omega) rfl hc⟩
  · exact .inr ⟨k, hk, h19, tparse_bad hv hk⟩
/-- what is told of a parsed record -/
structure RcOk (bs : List UInt8) (r : Rc) (s : Nat) : Prop where
  pos : 1 ≤ s
  le : s ≤ bs.length
  raw : r.raw = bs.take s
  bits : r.bits < 18446744073709551616
  n1 : 1 ≤ r.n
  n2 : r.n ≤ 536870911
  k1 : 0 ≤ r.k
  k2 : r.k ≤ 5
  text : r.text.length ≤ bs.length
theorem fixedV_lt8 (l : List UInt8) (h : l.length ≤ 8) : fixedV l < 18446744073709551616 := by
  have h1 := fixedV_lt l
  have h2 : 256 ^ l.length ≤ 256 ^ 8 := Nat.pow_le_pow_right (by decide) h
  have h3 : (256 : Nat) ^ 8 = 18446744073709551616 := by decide +kernel
  omega
theorem rparse_ok (bs : List UInt8) : (∃ r s, rparse bs = (r, s, 0) ∧ RcOk bs r s) ∨ ∃ e, e ≠ 0 ∧ e ≤ 19 ∧ rparse bs = (rcZ, 0, e) := by
  rcases tparse_cases bs with ⟨n, k, p, ht, hn1, hn2, hk, hp1, hp2⟩ | ⟨e, he, h19, ht⟩
  · have hfix : ∀ m, 1 ≤ m → m ≤ 8 → (∃ r s, rfix bs n k p m = (r, s, 0) ∧ RcOk bs r s) ∨ ∃ e, e ≠ 0 ∧ e ≤ 19 ∧ rfix bs n k p m = (rcZ, 0, e) := fun m hm1 hm8 => by
      unfold rfix
      split
      · exact .inr ⟨2, by decide, by decide, rfl⟩
      · refine .inl ⟨_, _, rfl, by omega, by omega, rfl, fixedV_lt8 _ (by simp; omega), hn1, hn2, ?_, ?_, by simp⟩
        · show 0 ≤ k; omega
        · show k ≤ 5; omega
    rcases hk with hk | hk | hk | hk
    · rw [rparse_0 ht hk]
      unfold rvar
      rcases vparse_cases (bs.drop p) with ⟨v, s, hv, hs1, hs2, hvn⟩ | ⟨e, he, h19, hv⟩
      · rw [hv]
        rw [List.length_drop] at hs2
        refine .inl ⟨⟨n, k, v, [], bs.take (p + s)⟩, p + s, if_neg (by simp), by omega, by omega, rfl, hvn, hn1, hn2, ?_, ?_, by simp⟩
        · show 0 ≤ k; omega
        · show k ≤ 5; omega
      · rw [hv]; exact .inr ⟨e, he, h19, if_pos he⟩
    · rw [rparse_1 ht hk]; exact hfix 8 (by decide) (by decide)
    · rw [rparse_2 ht hk]
      unfold rtxt
      rcases vparse_cases (bs.drop p) with ⟨v, s, hv, hs1, hs2, hvn⟩ | ⟨e, he, h19, hv⟩
      · rw [hv]
        rw [List.length_drop] at hs2
        simp only [ne_eq, not_true, if_false]
        split
        · exact .inr ⟨2, by decide, by decide, rfl⟩
        · refine .inl ⟨_, _, rfl, by omega, by omega, rfl, by show (0 : Nat) < _; omega, hn1, hn2, ?_, ?_, ?_⟩
          · show 0 ≤ k; omega
          · show k ≤ 5; omega
          · show ((bs.drop (p + s)).take v).length ≤ _; rw [List.length_take, List.length_drop]; omega
      · rw [hv]; exact .inr ⟨e, he, h19, if_pos he⟩
    · rw [rparse_5 ht hk]; exact hfix 4 (by decide) (by decide)
  · exact .inr ⟨e, he, h19, by rw [rparse_bad (by rw [ht]; exact he), ht]⟩
/-- all records, behind those that are had; the error's number -/
def rallA : Nat → List Rc → List UInt8 → List Rc × Nat
  | _, out, [] => (out, 0)
  | 0, out, _ :: _ => (out, 0)
  | f + 1, out, x :: xs => if (rparse (x :: xs)).2.2 = 0 then rallA f (out ++ [(rparse (x :: xs)).1]) ((x :: xs).drop (rparse (x :: xs)).2.1) else ([], (rparse (x :: xs)).2.2)
def rall (bs : List UInt8) : List Rc × Nat := rallA bs.length [] bs
theorem rallA_nil (f : Nat) (out : List Rc) : rallA f out [] = (out, 0) := by cases f <;> rfl
theorem rallA_step {f : Nat} {out : List Rc} {l : List UInt8} {r : Rc} {s : Nat} (hl : l ≠ []) (h : rparse l = (r, s, 0)) : rallA (f + 1) out l = rallA f (out ++ [r]) (l.drop s) := by
  cases l with
  | nil => exact absurd rfl hl
  | cons x xs => simp only [rallA, h, if_true]
theorem rallA_bad {f : Nat} {out : List Rc} {l : List UInt8} {e : Nat} (hl : l ≠ []) (h : rparse l = (rcZ, 0, e)) (he : e ≠ 0) : rallA (f + 1) out l = ([], e) := by
  cases l with
  | nil => exact absurd rfl hl
  | cons x xs => simp only [rallA, h, if_neg he]
theorem rallA_err : ∀ (f : Nat) (out : List Rc) (l : List UInt8), (rallA f out l).2 ≤ 19
  | f, out, [] => by rw [rallA_nil]; exact Nat.zero_le _
  | 0, out, _ :: _ => Nat.zero_le _
  | f + 1, out, x :: xs => by
    rcases rparse_ok (x :: xs) with ⟨r, s, h, _⟩ | ⟨e, he, h19, h⟩
    · rw [rallA_step (by simp) h]; exact rallA_err f _ _
    · rw [rallA_bad (by simp) h he]; exact h19
/-- what comes out of all bytes, told whole -/
theorem rallA_raws : ∀ (f : Nat) (out : List Rc) (l : List UInt8), l.length ≤ f → (rallA f out l).2 = 0 → ((rallA f out l).1.map Rc.raw).flatten = (out.map Rc.raw).flatten ++ l
  | f, out, [], _, _ => by rw [rallA_nil]; simp
  | 0, out, x :: xs, h, _ => by simp at h
  | f + 1, out, x :: xs, hf, h0 => by
    rcases rparse_ok (x :: xs) with ⟨r, s, h, hr⟩ | ⟨e, he, h19, h⟩
    · rw [rallA_step (by simp) h] at h0 ⊢
      have hl : ((x :: xs).drop s).length ≤ f := by have := hr.pos; rw [List.length_drop]; omega
      rw [rallA_raws f _ _ hl h0, List.map_append, List.flatten_append]
      simp only [List.map_cons, List.map_nil, List.flatten_cons, List.flatten_nil, List.append_nil, List.append_assoc]
      rw [hr.raw, List.take_append_drop]
    · rw [rallA_bad (by simp) h he] at h0
      exact absurd h0 he
theorem rall_raws {bs : List UInt8} (h : (rall bs).2 = 0) : ((rall bs).1.map Rc.raw).flatten = bs := by
  have := rallA_raws bs.length [] bs (Nat.le_refl _) h
  unfold rall
  simpa using this
theorem rallA_bad_nil : ∀ (f : Nat) (out : List Rc) (l : List UInt8), (rallA f out l).2 ≠ 0 → (rallA f out l).1 = []
  | f, out, [], h => by rw [rallA_nil] at h; exact absurd rfl h
  | 0, out, _ :: _, h => absurd rfl h
  | f + 1, out, x :: xs, h0 => by
    rcases rparse_ok (x :: xs) with ⟨r, s, h, _⟩ | ⟨e, he, h19, h⟩
    · rw [rallA_step (by simp) h] at h0 ⊢; exact rallA_bad_nil f _ _ h0
    · rw [rallA_bad (by simp) h he]
/-- the error's number of a record -/
def rcheck (r : Rc) : Nat :=
  if tcheck r.n r.k ≠ 0 then tcheck r.n r.k else if r.k = 2 ∧ r.bits ≠ 0 ∨ r.k ≠ 2 ∧ r.text ≠ [] then 9 else if r.k = 5 ∧ 4294967295 < r.bits then 1 else 0
theorem rcheck_le (r : Rc) : rcheck r ≤ 19 := by unfold rcheck; split; exact tcheck_le _ _; split; decide; split <;> decide
theorem rcheck_tag {r : Rc} (h : tcheck r.n r.k ≠ 0) : rcheck r = tcheck r.n r.k := if_pos h
theorem rcheck_form {r : Rc} (h : tcheck r.n r.k = 0) (h2 : r.k = 2 ∧ r.bits ≠ 0 ∨ r.k ≠ 2 ∧ r.text ≠ []) : rcheck r = 9 := by unfold rcheck; rw [if_neg (by simpa using h), if_pos h2]
theorem rcheck_range {r : Rc} (h : tcheck r.n r.k = 0) (h2 : ¬ (r.k = 2 ∧ r.bits ≠ 0 ∨ r.k ≠ 2 ∧ r.text ≠ [])) (h3 : r.k = 5 ∧ 4294967295 < r.bits) : rcheck r = 1 := by unfold rcheck; rw [if_neg (by simpa using h), if_neg h2, if_pos h3]
theorem rcheck_ok {r : Rc} (h : tcheck r.n r.k = 0) (h2 : ¬ (r.k = 2 ∧ r.bits ≠ 0 ∨ r.k ≠ 2 ∧ r.text ≠ [])) (h3 : ¬ (r.k = 5 ∧ 4294967295 < r.bits)) : rcheck r = 0 := by unfold rcheck; rw [if_neg (by simpa using h), if_neg h2, if_neg h3]
theorem rcheck_zero {r : Rc} (h : rcheck r = 0) : tcheck r.n r.k = 0 ∧ ¬ (r.k = 2 ∧ r.bits ≠ 0 ∨ r.k ≠ 2 ∧ r.text ≠ []) ∧ ¬ (r.k = 5 ∧ 4294967295 < r.bits) := by
  by_cases h1 : tcheck r.n r.k = 0
  · by_cases h2 : r.k = 2 ∧ r.bits ≠ 0 ∨ r.k ≠ 2 ∧ r.text ≠ []
    · rw [rcheck_form h1 h2] at h; exact absurd h (by decide)
    · by_cases h3 : r.k = 5 ∧ 4294967295 < r.bits
      · rw [rcheck_range h1 h2 h3] at h; exact absurd h (by decide)
      · exact ⟨h1, h2, h3⟩
  · rw [rcheck_tag h1] at h; exact absurd h h1
/-- what stands behind a record's tag -/
def rtail (r : Rc) : List UInt8 := if r.k = 1 then fput 8 r.bits else if r.k = 5 then fput 4 r.bits else if r.k = 2 then vput r.text.length ++ r.text else vput r.bits
def rput (r : Rc) : List UInt8 := vput (tcode r.n r.k) ++ rtail r
theorem tparse_putA {n k : Int} (h : tcheck n k = 0) (rest : List UInt8) : tparse (vput (tcode n k) ++ rest) = (n, k, (vput (tcode n k)).length, 0) := by
  obtain ⟨h1, h2, h3⟩ := tcheck_zero h
  have hc : tcode n k < 18446744073709551616 := tcode_lt h2 (by omega)
  have hv := vparse_put (tcode n k) hc rest
  have h4 : ((tcode n k : Nat) : Int) = n * 8 + k := by unfold tcode; omega
  have e1 : ((tcode n k : Nat) : Int) / 8 = n := by rw [h4]; omega
  have e2 : ((tcode n k : Nat) : Int) % 8 = k := by rw [h4]; omega
  have := tparse_ok hv (by omega) (by rw [e1, e2]; exact h)
  rw [this, e1, e2]
theorem rparse_put (r : Rc) (h : rcheck r = 0) (hb : r.bits < 18446744073709551616) (hl : r.text.length < 18446744073709551616) (rest : List UInt8) : rparse (rput r ++ rest) = ({ r with raw := rput r }, (rput r).length, 0) := by
  obtain ⟨h1, h2, h3⟩ := rcheck_zero h
  obtain ⟨-, -, hk⟩ := tcheck_zero h1
  have ht : tparse (rput r ++ rest) = (r.n, r.k, (vput (tcode r.n r.k)).length, 0) := by
    unfold rput; rw [List.append_assoc]; exact tparse_putA h1 _
  obtain ⟨q, hq⟩ : ∃ q, q = vput (tcode r.n r.k) := ⟨_, rfl⟩
  have hp : rput r = q ++ rtail r := by rw [hq]; rfl
  rw [← hq] at ht
  have hdrop : (rput r ++ rest).drop q.length = rtail r ++ rest := by rw [hp, List.append_assoc, List.drop_left]
  have hfix : ∀ m, rtail r = fput m r.bits → r.bits < 256 ^ m → r.text = [] → rfix (rput r ++ rest) r.n r.k q.length m = ({ r with raw := rput r }, (rput r).length, 0) := fun m hm hb' htx => by
    have hlen : (rput r).length = q.length + m := by rw [hp, hm, List.length_append, fput_len]
    unfold rfix
    rw [if_neg (by rw [List.length_append, hlen]; omega), hdrop, hm, List.take_left' (fput_len _ _), fput_put, fixedV_put, Nat.mod_eq_of_lt hb', ← hlen, List.take_left' rfl, htx]
  have hp8 : (256 : Nat) ^ 8 = 18446744073709551616 := by decide +kernel
  have hp4 : (256 : Nat) ^ 4 = 4294967296 := by decide +kernel
  rcases hk with hk | hk | hk | hk
  · have htx : r.text = [] := by
      by_cases hx : r.text = []
      · exact hx
      · exact absurd (.inr ⟨by omega, hx⟩) h2
    have htl : rtail r = vput r.bits := by unfold rtail; rw [if_neg (by omega), if_neg (by omega), if_neg (by omega)]
    rw [rparse_0 ht hk]
    unfold rvar
    rw [hdrop, htl, vparse_put _ hb]
    simp only [ne_eq, not_true, if_false]
    have hlen : (rput r).length = q.length + (vput r.bits).length := by rw [hp, htl, List.length_append]
    rw [← hlen, List.take_left' rfl, htx]
  · have htx : r.text = [] := by
      by_cases hx : r.text = []
      · exact hx
      · exact absurd (.inr ⟨by omega, hx⟩) h2
    rw [rparse_1 ht hk]
    exact hfix 8 (by unfold rtail; rw [if_pos hk]) (by omega) htx
  · have hb0 : r.bits = 0 := by
      by_cases hx : r.bits = 0
      · exact hx
      · exact absurd (.inl ⟨hk, hx⟩) h2
    have htl : rtail r = vput r.text.length ++ r.text := by unfold rtail; rw [if_neg (by omega), if_neg (by omega), if_pos hk]
    have hlen : (rput r).length = q.length + (vput r.text.length).length + r.text.length := by rw [hp, htl, List.length_append, List.length_append]; omega
    have hd2 : (rput r ++ rest).drop (q.length + (vput r.text.length).length) = r.text ++ rest := by rw [← List.drop_drop, hdrop, htl, List.append_assoc, List.drop_left]
    rw [rparse_2 ht hk]
    unfold rtxt
    rw [hdrop, htl, List.append_assoc, vparse_put _ hl]
    simp only [ne_eq, not_true, if_false]
    rw [if_neg (by rw [List.length_append, hlen]; omega), hd2, List.take_left' rfl, ← hlen, List.take_left' rfl, ← hb0]
  · have htx : r.text = [] := by
      by_cases hx : r.text = []
      · exact hx
      · exact absurd (.inr ⟨by omega, hx⟩) h2
    rw [rparse_5 ht hk]
    exact hfix 4 (by unfold rtail; rw [if_neg (by omega), if_pos hk]) (by omega) htx
def rputs (rs : List Rc) : List UInt8 := (rs.map rput).flatten
theorem rput_pos (r : Rc) : 0 < (rput r).length := by have := vput_pos (tcode r.n r.k); unfold rput; rw [List.length_append]; omega
theorem rallA_puts : ∀ (rs : List Rc) (f : Nat) (out : List Rc), (∀ r ∈ rs, rcheck r = 0 ∧ r.bits < 18446744073709551616 ∧ r.text.length < 18446744073709551616) → (rputs rs).length ≤ f → rallA f out (rputs rs) = (out ++ rs.map fun r => { r with raw := rput r }, 0)
  | [], f, out, _, _ => by simp [rputs, rallA_nil]
  | r :: rs, f, out, hb, hf => by
    obtain ⟨h1, h2, h3⟩ := hb r (by simp)
    have hp := rparse_put r h1 h2 h3 (rputs rs)
    have hpos := rput_pos r
    have he : rputs (r :: rs) = rput r ++ rputs rs := rfl
    rw [he] at hf ⊢
    rw [List.length_append] at hf
    obtain ⟨f', rfl⟩ : ∃ f', f = f' + 1 := ⟨f - 1, by omega⟩
    rw [rallA_step (by intro h; rw [List.append_eq_nil_iff] at h; rw [h.1] at hpos; simp at hpos) hp, List.drop_left, rallA_puts rs f' _ (fun x hx => hb x (by simp [hx])) (by omega)]
    simp
theorem rall_puts (rs : List Rc) (h : ∀ r ∈ rs, rcheck r = 0 ∧ r.bits < 18446744073709551616 ∧ r.text.length < 18446744073709551616) : rall (rputs rs) = (rs.map fun r => { r with raw := rput r }, 0) := by
  have := rallA_puts rs (rputs rs).length [] h (Nat.le_refl _)
  simpa [rall] using this
end Go.Proofs.YtgehbabcpmkgaaaDoor
