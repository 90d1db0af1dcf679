/- Values in memory: what is read of a field, a part, a pair. -/
import Derived.Test.YtcjflglpkpkflaaDoorVb
namespace Go.Proofs.YtcjflglpkpkflaaDoor
open Go Go.RowKit
set_option linter.unusedVariables false
section
variable {S : Nat → Prop} {w : World} {k : Int} {n : Nat} {t r : List UInt8} {fs : List (Int × V)} {ls : List V} {ps : List (V × V)} {fa la pa : Option Addr} {fc lc pc : Nat}
theorem Rep.bds (h : Rep S w (.mk k n t fs r ls ps) ⟨fa, fc, la, lc, pa, pc⟩) : (-9223372036854775808 ≤ k ∧ k ≤ 9223372036854775807) ∧ n < 18446744073709551616 ∧ fs.length ≤ maxLen ∧ ls.length ≤ maxLen ∧ ps.length ≤ maxLen := by
  cases h with
  | mk _ _ fl ll pl hk hn hf hl hp hb rf rl rp sf sl sp cf cl cp cq =>
    obtain ⟨_, _, h1, h2, _⟩ := rf.shape fC_len
    obtain ⟨_, _, h3, h4, _⟩ := rl.shape vC_len
    obtain ⟨_, _, h5, h6, _⟩ := rp.shape pC_len
    simp only [V.fs, V.ls, V.ps] at hf hl hp
    subst hf hl hp
    exact ⟨hk, hn, by simpa using h2, by simpa using h4, by simpa using h6⟩
theorem Rep.nodes (h : Rep S w (.mk k n t fs r ls ps) ⟨fa, fc, la, lc, pa, pc⟩) : (∀ p ∈ fs, -9223372036854775808 ≤ p.1 ∧ p.1 ≤ 9223372036854775807) := by
  cases h with
  | mk _ _ fl ll pl hk hn hf hl hp hb rf rl rp sf sl sp cf cl cp cq =>
    simp only [V.fs, V.ls, V.ps] at hf hl hp
    subst hf
    intro p hp
    obtain ⟨q, hq, rfl⟩ := List.mem_map.1 hp
    exact hb q hq
/-- field i, its cells -/
theorem Rep.fieldAt (h : Rep S w (.mk k n t fs r ls ps) ⟨fa, fc, la, lc, pa, pc⟩) {i : Nat} {num : Int} {k' : Int} {n' : Nat} {t' r' : List UInt8} {fs' : List (Int × V)} {ls' : List V} {ps' : List (V × V)} (hi : fs[i]? = some (num, .mk k' n' t' fs' r' ls' ps')) :
    ∃ (b o : Nat) (fa' la' pa' : Option Addr) (fc' lc' pc' : Nat), fa = some ⟨b, o, none⟩ ∧ (-9223372036854775808 ≤ num ∧ num ≤ 9223372036854775807) ∧ Rep S w (.mk k' n' t' fs' r' ls' ps') ⟨fa', fc', la', lc', pa', pc'⟩ ∧
      w.cell? ⟨b, o + i * 8, none⟩ = some (.int .i64 num) ∧ w.cell? ⟨b, o + i * 8 + 1, none⟩ = some (.int .i64 k') ∧ w.cell? ⟨b, o + i * 8 + 2, none⟩ = some (.int .u64 (n' : Int)) ∧ w.cell? ⟨b, o + i * 8 + 3, none⟩ = some (.string (strB t')) ∧
      w.cell? ⟨b, o + i * 8 + 4, none⟩ = some (.slice fa' fs'.length fc') ∧ w.cell? ⟨b, o + i * 8 + 5, none⟩ = some (.string (strB r')) ∧ w.cell? ⟨b, o + i * 8 + 6, none⟩ = some (.slice la' ls'.length lc') ∧ w.cell? ⟨b, o + i * 8 + 7, none⟩ = some (.slice pa' ps'.length pc') := by
  cases h with
  | mk _ _ fl ll pl hk hn hf hl hp hb rf rl rp sf sl sp cf cl cp cq =>
    obtain ⟨_, _, h1, h2, h3⟩ := rf.shape fC_len
    simp only [V.fs, V.ls, V.ps] at hf hl hp
    subst hf
    rw [List.getElem?_map] at hi
    obtain ⟨⟨num', v', a'⟩, hq, hE⟩ := Option.map_eq_some_iff.1 hi
    obtain ⟨fa', fc', la', lc', pa', pc'⟩ := a'
    simp only [fE, Prod.mk.injEq] at hE
    obtain ⟨rfl, rfl⟩ := hE
    obtain ⟨b, o, ha, hc⟩ := h3 i _ hq
    simp only [slF, Value.slice.injEq] at h1
    obtain ⟨rfl, -, -⟩ := h1
    have hm := List.mem_of_getElem? hq
    refine ⟨b, o, fa', la', pa', fc', lc', pc', ha, hb _ hm, cf _ hm, ?_, ?_, ?_, ?_, ?_, ?_, ?_, ?_⟩
    · simpa using hc 0 _ rfl
    all_goals rw [Nat.add_assoc]; exact hc _ _ rfl
/-- part i, its cells -/
theorem Rep.partAt (h : Rep S w (.mk k n t fs r ls ps) ⟨fa, fc, la, lc, pa, pc⟩) {i : Nat} {k' : Int} {n' : Nat} {t' r' : List UInt8} {fs' : List (Int × V)} {ls' : List V} {ps' : List (V × V)} (hi : ls[i]? = some (.mk k' n' t' fs' r' ls' ps')) :
    ∃ (b o : Nat) (fa' la' pa' : Option Addr) (fc' lc' pc' : Nat), la = some ⟨b, o, none⟩ ∧ Rep S w (.mk k' n' t' fs' r' ls' ps') ⟨fa', fc', la', lc', pa', pc'⟩ ∧
      w.cell? ⟨b, o + i * 7, none⟩ = some (.int .i64 k') ∧ w.cell? ⟨b, o + i * 7 + 1, none⟩ = some (.int .u64 (n' : Int)) ∧ w.cell? ⟨b, o + i * 7 + 2, none⟩ = some (.string (strB t')) ∧
      w.cell? ⟨b, o + i * 7 + 3, none⟩ = some (.slice fa' fs'.length fc') ∧ w.cell? ⟨b, o + i * 7 + 4, none⟩ = some (.string (strB r')) ∧ w.cell? ⟨b, o + i * 7 + 5, none⟩ = some (.slice la' ls'.length lc') ∧ w.cell? ⟨b, o + i * 7 + 6, none⟩ = some (.slice pa' ps'.length pc') := by
  cases h with
  | mk _ _ fl ll pl hk hn hf hl hp hb rf rl rp sf sl sp cf cl cp cq =>
    obtain ⟨_, _, h1, h2, h3⟩ := rl.shape vC_len
    simp only [V.fs, V.ls, V.ps] at hf hl hp
    subst hl
    rw [List.getElem?_map] at hi
    obtain ⟨⟨v', a'⟩, hq, hE⟩ := Option.map_eq_some_iff.1 hi
    obtain ⟨fa', fc', la', lc', pa', pc'⟩ := a'
    obtain rfl := hE
    obtain ⟨b, o, ha, hc⟩ := h3 i _ hq
    simp only [slL, Value.slice.injEq] at h1
    obtain ⟨rfl, -, -⟩ := h1
    have hm := List.mem_of_getElem? hq
    refine ⟨b, o, fa', la', pa', fc', lc', pc', ha, cl _ hm, ?_, ?_, ?_, ?_, ?_, ?_, ?_⟩
    · simpa using hc 0 (.int .i64 k') rfl
    all_goals rw [Nat.add_assoc]; exact hc _ _ rfl
/-- pair i, its cells -/
theorem Rep.pairAt (h : Rep S w (.mk k n t fs r ls ps) ⟨fa, fc, la, lc, pa, pc⟩) {i : Nat} {k' k2 : Int} {n' n2 : Nat} {t' r' t2 r2 : List UInt8} {fs' fs2 : List (Int × V)} {ls' ls2 : List V} {ps' ps2 : List (V × V)} (hi : ps[i]? = some (.mk k' n' t' fs' r' ls' ps', .mk k2 n2 t2 fs2 r2 ls2 ps2)) :
    ∃ (b o : Nat) (fa' la' pa' : Option Addr) (fc' lc' pc' : Nat) (fa2 la2 pa2 : Option Addr) (fc2 lc2 pc2 : Nat), pa = some ⟨b, o, none⟩ ∧ Rep S w (.mk k' n' t' fs' r' ls' ps') ⟨fa', fc', la', lc', pa', pc'⟩ ∧ Rep S w (.mk k2 n2 t2 fs2 r2 ls2 ps2) ⟨fa2, fc2, la2, lc2, pa2, pc2⟩ ∧
      w.cell? ⟨b, o + i * 14, none⟩ = some (.int .i64 k') ∧ w.cell? ⟨b, o + i * 14 + 1, none⟩ = some (.int .u64 (n' : Int)) ∧ w.cell? ⟨b, o + i * 14 + 2, none⟩ = some (.string (strB t')) ∧
      w.cell? ⟨b, o + i * 14 + 3, none⟩ = some (.slice fa' fs'.length fc') ∧ w.cell? ⟨b, o + i * 14 + 4, none⟩ = some (.string (strB r')) ∧ w.cell? ⟨b, o + i * 14 + 5, none⟩ = some (.slice la' ls'.length lc') ∧ w.cell? ⟨b, o + i * 14 + 6, none⟩ = some (.slice pa' ps'.length pc') ∧
      w.cell? ⟨b, o + i * 14 + 7, none⟩ = some (.int .i64 k2) ∧ w.cell? ⟨b, o + i * 14 + 8, none⟩ = some (.int .u64 (n2 : Int)) ∧ w.cell? ⟨b, o + i * 14 + 9, none⟩ = some (.string (strB t2)) ∧
      w.cell? ⟨b, o + i * 14 + 10, none⟩ = some (.slice fa2 fs2.length fc2) ∧ w.cell? ⟨b, o + i * 14 + 11, none⟩ = some (.string (strB r2)) ∧ w.cell? ⟨b, o + i * 14 + 12, none⟩ = some (.slice la2 ls2.length lc2) ∧ w.cell? ⟨b, o + i * 14 + 13, none⟩ = some (.slice pa2 ps2.length pc2) := by
  cases h with
  | mk _ _ fl ll pl hk hn hf hl hp hb rf rl rp sf sl sp cf cl cp cq =>
    obtain ⟨_, _, h1, h2, h3⟩ := rp.shape pC_len
    simp only [V.fs, V.ls, V.ps] at hf hl hp
    subst hp
    rw [List.getElem?_map] at hi
    obtain ⟨⟨⟨v', a'⟩, ⟨v2, a2⟩⟩, hq, hE⟩ := Option.map_eq_some_iff.1 hi
    obtain ⟨fa', fc', la', lc', pa', pc'⟩ := a'
    obtain ⟨fa2, fc2, la2, lc2, pa2, pc2⟩ := a2
    simp only [pE, Prod.mk.injEq] at hE
    obtain ⟨rfl, rfl⟩ := hE
    obtain ⟨b, o, ha, hc⟩ := h3 i _ hq
    simp only [slP, Value.slice.injEq] at h1
    obtain ⟨rfl, -, -⟩ := h1
    have hm := List.mem_of_getElem? hq
    refine ⟨b, o, fa', la', pa', fc', lc', pc', fa2, la2, pa2, fc2, lc2, pc2, ha, cp _ hm, cq _ hm, ?_, ?_, ?_, ?_, ?_, ?_, ?_, ?_, ?_, ?_, ?_, ?_, ?_, ?_⟩
    · simpa using hc 0 (.int .i64 k') rfl
    all_goals rw [Nat.add_assoc]; exact hc _ _ rfl
end
end Go.Proofs.YtcjflglpkpkflaaDoor
