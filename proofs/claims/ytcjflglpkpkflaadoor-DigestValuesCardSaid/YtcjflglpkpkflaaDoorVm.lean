/- Where a field stands (slices.BinarySearchFunc), a row of fields with one at a place. -/
import Derived.Test.YtcjflglpkpkflaaDoorVl
import Derived.Test.YtcjflglpkpkflaaDoorSlcS
import Derived.Lib.SliceRun
namespace Go.Proofs.YtcjflglpkpkflaaDoor
open Go Go.RowKit
set_option linter.unusedVariables false
theorem infoFd : (Tryd.prog.info? 51).map (fun i => (i.zero, i.size, i.bytes)) = some (some (.agg #[.int .i64 0, .int .i64 0, .int .u64 0, .string ⟨#[]⟩, .slice none 0 0, .string ⟨#[]⟩, .slice none 0 0, .slice none 0 0]), 8, 128) := by kernel_rfl
section
variable {k : Int} {n : Nat} {t r : List UInt8} {fs : List (Int × V)} {ls : List V} {ps : List (V × V)} {fa la pa : Option Addr} {fc lc pc : Nat} {S : Nat → Prop} {w : World}
/-- the fields, as they lie -/
theorem Rep.fieldsRow (h : Rep S w (.mk k n t fs r ls ps) ⟨fa, fc, la, lc, pa, pc⟩) : ∃ fl : List (Int × (V × A3)), fs = fl.map fE ∧ RowS fC w (.slice fa fs.length fc) fl ∧ ∀ p ∈ fl, i64 p.1 ∧ Rep S w p.2.1 p.2.2 := by
  cases h with
  | mk _ _ fl ll pl hk hn hf hl hp hb rf rl rp sf sl sp cf cl cp cq => exact ⟨fl, hf, rf, fun p hp => ⟨hb p hp, cf p hp⟩⟩
theorem Rep.pairsRow (h : Rep S w (.mk k n t fs r ls ps) ⟨fa, fc, la, lc, pa, pc⟩) : ∃ pl : List ((V × A3) × (V × A3)), ps = pl.map pE ∧ RowS pC w (.slice pa ps.length pc) pl ∧ ∀ p ∈ pl, Rep S w p.1.1 p.1.2 ∧ Rep S w p.2.1 p.2.2 := by
  cases h with
  | mk _ _ fl ll pl hk hn hf hl hp hb rf rl rp sf sl sp cf cl cp cq => exact ⟨pl, hp, rp, fun p hp => ⟨cp p hp, cq p hp⟩⟩
/-- other fields -/
theorem Rep.newFields {w' : World} {S' : Nat → Prop} (h : Rep S w (.mk k n t fs r ls ps) ⟨fa, fc, la, lc, pa, pc⟩) (hb : Below w.heap.size w w') (hS : ∀ k, k < w.heap.size → S' k) (fl : List (Int × (V × A3))) (fa' : Option Addr) (fc' : Nat) (hrow : RowS fC w' (.slice fa' fl.length fc') fl)
    (hown : ∀ k, (Value.slice fa' fl.length fc').ownBlock = some k → S' k) (hfl : ∀ p ∈ fl, i64 p.1 ∧ Rep S' w' p.2.1 p.2.2) :
    Rep S' w' (.mk k n t (fl.map fE) r ls ps) ⟨fa', fc', la, lc, pa, pc⟩ := by
  have h' := (h.lt.mono (fun k hk => hS k hk.2)).stays hb
  cases h' with
  | mk _ _ fl0 ll pl hk hn hf hl hp hb rf rl rp sf sl sp cf cl cp cq =>
    refine .mk _ _ fl ll pl hk hn rfl hl hp (fun p hp => (hfl p hp).1) (by simpa [slF, V.fs] using hrow) rl rp (fun _ k hk => hown k (by simpa [slF, V.fs] using hk)) sl sp (fun p hp => (hfl p hp).2) cl cp cq
/-- a map of these pairs alone -/
theorem Rep.newPairs {w' : World} {S' : Nat → Prop} (pl : List ((V × A3) × (V × A3))) (pa' : Option Addr) (pc' : Nat) (hrow : RowS pC w' (.slice pa' pl.length pc') pl) (hown : ∀ k, (Value.slice pa' pl.length pc').ownBlock = some k → S' k) (hpl : ∀ p ∈ pl, Rep S' w' p.1.1 p.1.2 ∧ Rep S' w' p.2.1 p.2.2) :
    Rep S' w' (.mk 5 0 [] [] [] [] (pl.map pE)) ⟨none, 0, none, 0, pa', pc'⟩ :=
  .mk _ _ [] [] pl ⟨by simp [V.k], by simp [V.k]⟩ (by simp [V.n]) rfl rfl rfl (fun _ h => by cases h) (RowS.nil _) (RowS.nil _) (by simpa [slP, V.ps] using hrow) Lies.nil Lies.nil (fun _ k hk => hown k (by simpa [slP, V.ps] using hk)) (fun _ h => by cases h) (fun _ h => by cases h) (fun p hp => (hpl p hp).1) (fun p hp => (hpl p hp).2)
end
theorem splice_map {α β : Type} (f : α → β) (l : List α) (i m : Nat) (p : Bool) (x : α) : (splice l i m p x).map f = splice (l.map f) i m p (f x) := by
  unfold splice
  cases p <;> simp
/-! ### rows of fields -/
end Go.Proofs.YtcjflglpkpkflaaDoor
