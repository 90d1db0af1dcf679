/- All numbers of bytes: varint.All and the reference's All answer alike; numbers put one behind the other (varint.PutAll) are all parsed as they were. -/
import Derived.Test.YtgehbabcpmkgaaaDoorVparseR
namespace Go.Proofs.YtgehbabcpmkgaaaDoor
open Go Go.RowKit
set_option linter.unusedVariables false
theorem vref_size (bs : List UInt8) : (vparse 0 0 bs).2.2 = 0 ∧ 1 ≤ (vparse 0 0 bs).2.1 ∧ (vparse 0 0 bs).2.1 ≤ bs.length ∧ (vparse 0 0 bs).1 < 18446744073709551616 ∨ vparse 0 0 bs = (0, 0, 2) ∨ vparse 0 0 bs = (0, 0, 4) := by
  rw [vref_eq bs 0 0 (by omega)]
  have hle := vend_le 10 bs
  have hcap := vend_cap 10 bs
  simp only [vref, Nat.sub_zero]
  by_cases h1 : 0 + vend 10 bs = 10 ∨ 0 + vend 10 bs = 9 ∧ vend 10 bs < bs.length ∧ 1 < (bs.getD (vend 10 bs) 0).toNat
  · rw [if_pos h1]; exact .inr (.inr rfl)
  · rw [if_neg h1]
    by_cases h2 : vend 10 bs = bs.length
    · rw [if_pos h2]; exact .inr (.inl rfl)
    · rw [if_neg h2]
      refine .inl ⟨rfl, ?_, ?_, ?_⟩
      · show 1 ≤ 0 + vend 10 bs + 1; omega
      · show 0 + vend 10 bs + 1 ≤ bs.length; omega
      · show 0 + vval (bs.take (vend 10 bs + 1)) * 128 ^ 0 < _
        have := vval_bound bs (vend 10 bs) (by omega) (by
          by_cases h9 : vend 10 bs = 9
          · right; refine ⟨h9, ?_⟩
            refine Nat.le_of_not_lt fun hlt => h1 (.inr ⟨by omega, by omega, hlt⟩)
          · left; omega)
        simpa using this
/-- all numbers, behind those that are had; the error's number -/
def vallA : Nat → List Nat → List UInt8 → List Nat × Nat
  | _, out, [] => (out, 0)
  | 0, out, _ :: _ => (out, 0)
  | f + 1, out, x :: xs => if (vparse 0 0 (x :: xs)).2.2 = 0 then vallA f (out ++ [(vparse 0 0 (x :: xs)).1]) ((x :: xs).drop (vparse 0 0 (x :: xs)).2.1) else ([], (vparse 0 0 (x :: xs)).2.2)
def vall (bs : List UInt8) : List Nat × Nat := vallA bs.length [] bs
theorem vallA_nil (f : Nat) (out : List Nat) : vallA f out [] = (out, 0) := by cases f <;> rfl
theorem vallA_step {f : Nat} {out : List Nat} {l : List UInt8} (hl : l ≠ []) (hf : l.length ≤ f + 1) (h : (vparse 0 0 l).2.2 = 0) : vallA (f + 1) out l = vallA f (out ++ [(vparse 0 0 l).1]) (l.drop (vparse 0 0 l).2.1) := by
  cases l with
  | nil => exact absurd rfl hl
  | cons x xs => simp only [vallA, h, if_true]
theorem vallA_bad {f : Nat} {out : List Nat} {l : List UInt8} (hl : l ≠ []) (h : (vparse 0 0 l).2.2 ≠ 0) : vallA (f + 1) out l = ([], (vparse 0 0 l).2.2) := by
  cases l with
  | nil => exact absurd rfl hl
  | cons x xs => simp only [vallA, h, if_false]
theorem vallA_err : ∀ (f : Nat) (out : List Nat) (l : List UInt8), (vallA f out l).2 = 0 ∨ (vallA f out l).2 = 2 ∨ (vallA f out l).2 = 4
  | f, out, [] => by rw [vallA_nil]; exact .inl rfl
  | 0, out, _ :: _ => .inl rfl
  | f + 1, out, x :: xs => by
    rcases vref_size (x :: xs) with h | h | h
    · simp only [vallA, h.1, if_true]; exact vallA_err f _ _
    · simp only [vallA, h]; exact .inr (.inl rfl)
    · simp only [vallA, h]; exact .inr (.inr rfl)
/-- all numbers' bytes -/
def vputs : List Nat → List UInt8
  | [] => []
  | n :: ns => vput n ++ vputs ns
theorem vallA_puts : ∀ (ns : List Nat) (f : Nat) (out : List Nat), (∀ n ∈ ns, n < 18446744073709551616) → (vputs ns).length ≤ f → vallA f out (vputs ns) = (out ++ ns, 0)
  | [], f, out, _, _ => by simp [vputs, vallA_nil]
  | n :: ns, f, out, hb, hf => by
    have hn := hb n (by simp)
    have hp := vparse_put n hn (vputs ns)
    have hpos := vput_pos n
    simp only [vputs, List.length_append] at hf
    have hpos' : 0 < (vput n).length := hpos
    obtain ⟨g, rfl⟩ : ∃ g, f = g + 1 := ⟨f - 1, by omega⟩
    simp only [vputs]
    rw [vallA_step (by intro h; have := congrArg List.length h; rw [List.length_append, List.length_nil] at this; omega) (by rw [List.length_append]; omega) (by rw [hp]), hp]
    simp only [List.drop_left]
    rw [vallA_puts ns g _ (fun m hm => hb m (by simp [hm])) (by have := vput_pos n; omega)]
    simp
theorem vall_puts (ns : List Nat) (hb : ∀ n ∈ ns, n < 18446744073709551616) : vall (vputs ns) = (ns, 0) := by
  have := vallA_puts ns (vputs ns).length [] hb (Nat.le_refl _)
  simpa [vall] using this
theorem infoU : (Tryd.prog.info? 67).map (fun i => (i.zero, i.size, i.bytes)) = some (some (.int .u64 0), 1, 8) := by kernel_rfl
def OwnN (B : Nat) (w : World) (v : Value) (ns : List Nat) : Prop := OwnL 67 UV B w v ns
def lenV : Value → Nat
  | .slice _ n _ => n
  | _ => 0
theorem RowL.lenV {α : Type} {f : α → Value} {w : World} {v : Value} {xs : List α} (h : RowL f w v xs) : lenV v = xs.length := by
  obtain ⟨a, c, rfl, _⟩ := h.shape
  rfl
end Go.Proofs.YtgehbabcpmkgaaaDoor
