/- Values as trees in memory: which cells stand for which tree. -/
import Derived.Test.YtcjflglpkpkflaaDoorVa
import Derived.Test.YtcjflglpkpkflaaDoorSrows
import Derived.Test.YtcjflglpkpkflaaDoorGrew
import Derived.Test.YtcjflglpkpkflaaDoorStr
namespace Go.Proofs.YtcjflglpkpkflaaDoor
open Go Go.RowKit
set_option linter.unusedVariables false
/-- where a value's three rows lie -/
structure A3 where
  fa : Option Addr
  fc : Nat
  la : Option Addr
  lc : Nat
  pa : Option Addr
  pc : Nat
def A3.nil : A3 := ⟨none, 0, none, 0, none, 0⟩
def slF (x : V × A3) : Value := .slice x.2.fa x.1.fs.length x.2.fc
def slL (x : V × A3) : Value := .slice x.2.la x.1.ls.length x.2.lc
def slP (x : V × A3) : Value := .slice x.2.pa x.1.ps.length x.2.pc
/-- a value's seven cells; a field's eight; a pair's fourteen -/
def vC (x : V × A3) : List Value := [.int .i64 x.1.k, .int .u64 (x.1.n : Int), .string (strB x.1.t), .slice x.2.fa x.1.fs.length x.2.fc, .string (strB x.1.r), .slice x.2.la x.1.ls.length x.2.lc, .slice x.2.pa x.1.ps.length x.2.pc]
def fC (x : Int × (V × A3)) : List Value := .int .i64 x.1 :: vC x.2
def pC (x : (V × A3) × (V × A3)) : List Value := vC x.1 ++ vC x.2
theorem vC_len (x : V × A3) : (vC x).length = 7 := rfl
theorem fC_len (x : Int × (V × A3)) : (fC x).length = 8 := rfl
theorem pC_len (x : (V × A3) × (V × A3)) : (pC x).length = 14 := rfl
theorem vC_one (x : V × A3) : (vC x).all Value.oneCell' = true := rfl
theorem fC_one (x : Int × (V × A3)) : (fC x).all Value.oneCell' = true := rfl
theorem pC_one (x : (V × A3) × (V × A3)) : (pC x).all Value.oneCell' = true := rfl
/-- a value by its cells -/
def vG (x : V × A3) : Value := .agg #[.int .i64 x.1.k, .int .u64 (x.1.n : Int), .string (strB x.1.t), .slice x.2.fa x.1.fs.length x.2.fc, .string (strB x.1.r), .slice x.2.la x.1.ls.length x.2.lc, .slice x.2.pa x.1.ps.length x.2.pc]
def fE (x : Int × (V × A3)) : Int × V := (x.1, x.2.1)
def pE (x : (V × A3) × (V × A3)) : V × V := (x.1.1, x.2.1)
def i64 (n : Int) : Prop := -9223372036854775808 ≤ n ∧ n ≤ 9223372036854775807
/-- a row's block is one of S, if it is not empty -/
def Lies {α : Type} (S : Nat → Prop) (v : Value) (xs : List α) : Prop := xs ≠ [] → ∀ k, v.ownBlock = some k → S k
/-- the cells (told by a value and where its rows lie) stand for the tree; the rows lie in blocks of S -/
inductive Rep (S : Nat → Prop) (w : World) : V → A3 → Prop where
  | mk (v : V) (a : A3) (fl : List (Int × (V × A3))) (ll : List (V × A3)) (pl : List ((V × A3) × (V × A3))) (hk : i64 v.k) (hn : v.n < 18446744073709551616)
      (hf : v.fs = fl.map fE) (hl : v.ls = ll.map Prod.fst) (hp : v.ps = pl.map pE) (hb : ∀ p ∈ fl, i64 p.1)
      (rf : RowS fC w (slF (v, a)) fl) (rl : RowS vC w (slL (v, a)) ll) (rp : RowS pC w (slP (v, a)) pl) (sf : Lies S (slF (v, a)) fl) (sl : Lies S (slL (v, a)) ll) (sp : Lies S (slP (v, a)) pl)
      (cf : ∀ p ∈ fl, Rep S w p.2.1 p.2.2) (cl : ∀ p ∈ ll, Rep S w p.1 p.2) (cp : ∀ p ∈ pl, Rep S w p.1.1 p.1.2) (cq : ∀ p ∈ pl, Rep S w p.2.1 p.2.2) : Rep S w v a
section
variable {S S' : Nat → Prop} {w w' : World} {v : V} {a : A3}
theorem Lies.mono {α : Type} {v : Value} {xs : List α} (h : Lies S v xs) (hS : ∀ k, S k → S' k) : Lies S' v xs := fun hne k hk => hS k (h hne k hk)
theorem Lies.nil {α : Type} {v : Value} : Lies S v ([] : List α) := fun h => absurd rfl h
theorem RowS.grew {α : Type} {cs : α → List Value} {T : List Nat} {v : Value} {xs : List α} (h : RowS cs w v xs) (hg : Grew T w w') (hv : xs ≠ [] → ∀ k, v.ownBlock = some k → k ∉ T) : RowS cs w' v xs := by
  by_cases hx : xs = []
  · subst hx
    rcases h with h | ⟨b, o, c, rfl, h1, h2, h3, h4⟩
    · exact .inl h
    · exact .inl ⟨rfl, rfl, _, c, rfl⟩
  · exact hg.row h (hv hx)
theorem Rep.mono (h : Rep S w v a) (hS : ∀ k, S k → S' k) : Rep S' w v a := by
  induction h with
  | mk v a fl ll pl hk hn hf hl hp hb rf rl rp sf sl sp cf cl cp cq i1 i2 i3 i4 => exact .mk v a fl ll pl hk hn hf hl hp hb rf rl rp (sf.mono hS) (sl.mono hS) (sp.mono hS) i1 i2 i3 i4
theorem Rep.any (h : Rep S w v a) : Rep (fun _ => True) w v a := h.mono (fun _ _ => trivial)
theorem Rep.stays (h : Rep S w v a) (hb : Below w.heap.size w w') : Rep S w' v a := by
  induction h with
  | mk v a fl ll pl hk hn hf hl hp hb' rf rl rp sf sl sp cf cl cp cq i1 i2 i3 i4 => exact .mk v a fl ll pl hk hn hf hl hp hb' (rf.stays hb) (rl.stays hb) (rp.stays hb) sf sl sp i1 i2 i3 i4
theorem Rep.grew {T : List Nat} (h : Rep S w v a) (hg : Grew T w w') (hT : ∀ k, S k → k ∉ T) : Rep S w' v a := by
  induction h with
  | mk v a fl ll pl hk hn hf hl hp hb rf rl rp sf sl sp cf cl cp cq i1 i2 i3 i4 => exact .mk v a fl ll pl hk hn hf hl hp hb (rf.grew hg (fun h k hk => hT k (sf h k hk))) (rl.grew hg (fun h k hk => hT k (sl h k hk))) (rp.grew hg (fun h k hk => hT k (sp h k hk))) sf sl sp i1 i2 i3 i4
theorem Lies.lt {α : Type} {cs : α → List Value} {v : Value} {xs : List α} (h : RowS cs w v xs) (hs : Lies S v xs) : Lies (fun k => S k ∧ k < w.heap.size) v xs := fun hne k hk => by
  refine ⟨hs hne k hk, ?_⟩
  rcases h with ⟨h1, _⟩ | ⟨b, o, c, rfl, h1, h2, h3, h4⟩
  · exact absurd (by simpa using h1) hne
  · have : b = k := by simpa [Value.ownBlock] using hk
    omega
/-- the rows lie in blocks that are there -/
theorem Rep.lt (h : Rep S w v a) : Rep (fun k => S k ∧ k < w.heap.size) w v a := by
  induction h with
  | mk v a fl ll pl hk hn hf hl hp hb rf rl rp sf sl sp cf cl cp cq i1 i2 i3 i4 => exact .mk v a fl ll pl hk hn hf hl hp hb rf rl rp (sf.lt rf) (sl.lt rl) (sp.lt rp) i1 i2 i3 i4
/-- a value with no rows -/
theorem Rep.leaf (k : Int) (n : Nat) (t r : List UInt8) (hk : i64 k) (hn : n < 18446744073709551616) (a : A3) : Rep S w (.mk k n t [] r [] []) a :=
  .mk _ a [] [] [] hk hn rfl rfl rfl (fun _ h => by cases h) (.inl ⟨rfl, rfl, _, _, rfl⟩) (.inl ⟨rfl, rfl, _, _, rfl⟩) (.inl ⟨rfl, rfl, _, _, rfl⟩) Lies.nil Lies.nil Lies.nil (fun _ h => by cases h) (fun _ h => by cases h) (fun _ h => by cases h) (fun _ h => by cases h)
end
end Go.Proofs.YtcjflglpkpkflaaDoor
