/- Frames on disks, plain: what is written, what is read, what is scanned. No program. -/
import Derived.Test.YtgehbabcpmkgaaaDoorDkA
import Derived.Test.YtgehbabcpmkgaaaDoorFrameB
import Derived.Test.YtgehbabcpmkgaaaDoorOpen
namespace Go.Proofs.YtgehbabcpmkgaaaDoor
open Go
set_option linter.unusedVariables false
/-- the i-th sector of bytes -/
def partV (b : List UInt8) (i : Nat) : List UInt8 := (b.drop (64 * i)).take 64
theorem partV_len (b : List UInt8) (i : Nat) : (partV b i).length ≤ 64 := by unfold partV; rw [List.length_take]; omega
/-- n sectors are written, the i-th of the bytes first -/
def wAll (b : List UInt8) (a : Int) : Nat → Nat → Dm → Dm × Nat
  | 0, _, d => (d, 0)
  | n + 1, i, d => if writeK d (a + i) (partV b i) = 0 then wAll b a n (i + 1) (writeM d (a + i) (partV b i)) else (d, writeK d (a + i) (partV b i))
theorem wAll_go {b : List UInt8} {a : Int} {n i : Nat} {d : Dm} (h : writeK d (a + i) (partV b i) = 0) : wAll b a (n + 1) i d = wAll b a n (i + 1) (writeM d (a + i) (partV b i)) := by rw [wAll, if_pos h]
theorem wAll_stop {b : List UInt8} {a : Int} {n i : Nat} {d : Dm} (h : writeK d (a + i) (partV b i) ≠ 0) : wAll b a (n + 1) i d = (d, writeK d (a + i) (partV b i)) := by rw [wAll, if_neg h]
theorem wAll_le (b : List UInt8) (a : Int) : ∀ (n i : Nat) (d : Dm), (wAll b a n i d).2 ≤ 19
  | 0, _, _ => by simp [wAll]
  | n + 1, i, d => by
    rw [wAll]; split
    · exact wAll_le b a n (i + 1) _
    · exact writeK_le _ _ _
theorem wAll_ok (b : List UInt8) (a : Int) : ∀ (n i : Nat) {d : Dm}, d.Ok → (wAll b a n i d).1.Ok ∧ (wAll b a n i d).1.dur = d.dur ∧ (wAll b a n i d).1.writes ≤ d.writes + n
  | 0, _, d, h => ⟨h, rfl, Nat.le_refl _⟩
  | n + 1, i, d, h => by
    rw [wAll]; split
    · obtain ⟨h1, h2, h3⟩ := wAll_ok b a n (i + 1) (h.write (a + i) (partV b i))
      rw [writeM_dur] at h2
      exact ⟨h1, h2, by have := writeM_writes d (a + i) (partV b i); omega⟩
    · exact ⟨h, rfl, by show d.writes ≤ _; omega⟩
/-- a frame is written: the disk, how many sectors, the error's number -/
def frameW (d : Dm) (a e : Int) (gen : Nat) (bs : List UInt8) : Dm × Int × Nat :=
  if 8192 < bs.length then (d, 0, 3)
  else if a < 0 ∨ (d.dur.length : Int) < e then (d, 0, 1)
  else if e ≤ a ∨ e - a < sectorsV bs.length then (d, 0, 15)
  else ((wAll (frameV gen bs) a (sectorsV bs.length).toNat 0 d).1, if (wAll (frameV gen bs) a (sectorsV bs.length).toNat 0 d).2 = 0 then sectorsV bs.length else 0, (wAll (frameV gen bs) a (sectorsV bs.length).toNat 0 d).2)
theorem sectorsV_small {n : Nat} (h : ¬ 8192 < n) : sectorsV (n : Int) = ((n + 75) / 64 : Nat) := by
  unfold sectorsV; rw [if_neg (by omega)]; omega
theorem frameW_long {d : Dm} {a e : Int} {gen : Nat} {bs : List UInt8} (h : 8192 < bs.length) : frameW d a e gen bs = (d, 0, 3) := if_pos h
theorem frameW_range {d : Dm} {a e : Int} {gen : Nat} {bs : List UInt8} (h : ¬ 8192 < bs.length) (h2 : a < 0 ∨ (d.dur.length : Int) < e) : frameW d a e gen bs = (d, 0, 1) := by unfold frameW; rw [if_neg h, if_pos h2]
theorem frameW_full {d : Dm} {a e : Int} {gen : Nat} {bs : List UInt8} (h : ¬ 8192 < bs.length) (h2 : ¬ (a < 0 ∨ (d.dur.length : Int) < e)) (h3 : e ≤ a ∨ e - a < sectorsV bs.length) : frameW d a e gen bs = (d, 0, 15) := by unfold frameW; rw [if_neg h, if_neg h2, if_pos h3]
theorem frameW_go {d : Dm} {a e : Int} {gen : Nat} {bs : List UInt8} (h : ¬ 8192 < bs.length) (h2 : ¬ (a < 0 ∨ (d.dur.length : Int) < e)) (h3 : ¬ (e ≤ a ∨ e - a < sectorsV bs.length)) {d' : Dm} {k : Nat}
    (hw : wAll (frameV gen bs) a ((bs.length + 75) / 64) 0 d = (d', k)) : frameW d a e gen bs = (d', if k = 0 then sectorsV bs.length else 0, k) := by
  have e1 : (sectorsV (bs.length : Int)).toNat = (bs.length + 75) / 64 := by rw [sectorsV_small h]; rfl
  unfold frameW
  rw [if_neg h, if_neg h2, if_neg h3, e1, hw]
theorem frameW_le (d : Dm) (a e : Int) (gen : Nat) (bs : List UInt8) : (frameW d a e gen bs).2.2 ≤ 19 := by
  unfold frameW; split
  · exact (by decide : (3 : Nat) ≤ 19)
  · split
    · exact (by decide : (1 : Nat) ≤ 19)
    · split
      · exact (by decide : (15 : Nat) ≤ 19)
      · exact wAll_le _ _ _ _ _
theorem frameW_ok {d : Dm} (ho : d.Ok) (a e : Int) (gen : Nat) (bs : List UInt8) : (frameW d a e gen bs).1.Ok ∧ (frameW d a e gen bs).1.dur = d.dur ∧ (frameW d a e gen bs).1.writes ≤ d.writes + 130 := by
  unfold frameW; split
  · exact ⟨ho, rfl, Nat.le_add_right _ _⟩
  · split
    · exact ⟨ho, rfl, Nat.le_add_right _ _⟩
    · split
      · exact ⟨ho, rfl, Nat.le_add_right _ _⟩
      · rename_i h _ _
        obtain ⟨h1, h2, h3⟩ := wAll_ok (frameV gen bs) a (sectorsV bs.length).toNat 0 ho
        refine ⟨h1, h2, Nat.le_trans h3 ?_⟩
        rw [sectorsV_small h, Int.toNat_natCast]; omega
/-- sectors' bytes, one behind the other -/
def loadV (d : Dm) (a : Int) : Nat → List UInt8
  | 0 => []
  | n + 1 => loadV d a n ++ getV d (a + n)
theorem loadV_len {d : Dm} (ho : d.Ok) (a : Int) : ∀ n, (loadV d a n).length = 64 * n
  | 0 => rfl
  | n + 1 => by rw [loadV, List.length_append, loadV_len ho a n, ho.get]; omega
theorem loadV_take {d : Dm} (ho : d.Ok) (a : Int) : ∀ n, (loadV d a (n + 1)).take 64 = getV d a
  | 0 => by rw [loadV, loadV, List.nil_append, Int.natCast_zero, Int.add_zero, List.take_of_length_le (by rw [ho.get]; omega)]
  | n + 1 => by rw [loadV, List.take_append_of_le_length (by rw [loadV_len ho]; omega)]; exact loadV_take ho a n
structure Fr where
  at' : Int
  many : Int
  gen : Nat
  load : List UInt8
def Fr.none : Fr := ⟨0, 0, 0, []⟩
/-- how long a frame says that it is -/
def longV (d : Dm) (a : Int) : Nat := fixedV (((getV d a).drop 4).take 4)
def sumOk (d : Dm) (a : Int) : Prop := csum ((loadV d a ((longV d a + 75) / 64)).take (8 + longV d a)) = fixedV (((loadV d a ((longV d a + 75) / 64)).drop (8 + longV d a)).take 4)
instance (d : Dm) (a : Int) : Decidable (sumOk d a) := by unfold sumOk; exact inferInstance
def frameAt (d : Dm) (a : Int) : Fr := ⟨a, ((longV d a + 75) / 64 : Nat), fixedV ((getV d a).take 4), ((loadV d a ((longV d a + 75) / 64)).take (8 + longV d a)).drop 8⟩
/-- a frame is read: the frame, the error's number (there is power) -/
def frameRK (d : Dm) (a e : Int) : Nat :=
  if a < 0 ∨ (d.dur.length : Int) < e then 1 else if e ≤ a then 15 else if 8192 < longV d a ∨ e - a < ((longV d a + 75) / 64 : Nat) then 18 else if sumOk d a then 0 else 18
def frameRV (d : Dm) (a e : Int) : Fr := if frameRK d a e = 0 then frameAt d a else Fr.none
theorem frameRK_le (d : Dm) (a e : Int) : frameRK d a e ≤ 19 := by unfold frameRK; split <;> (try split) <;> (try split) <;> (try split) <;> decide
theorem frameRK_in {d : Dm} {a e : Int} (h0 : ¬ (a < 0 ∨ (d.dur.length : Int) < e)) (h1 : a < e) : frameRK d a e = 0 ∨ frameRK d a e = 18 := by
  unfold frameRK; rw [if_neg h0, if_neg (by omega)]; split
  · exact .inr rfl
  · split
    · exact .inl rfl
    · exact .inr rfl
theorem frameRV_bad {d : Dm} {a e : Int} (h : frameRK d a e ≠ 0) : frameRV d a e = Fr.none := if_neg h
theorem frameRV_ok {d : Dm} {a e : Int} (h : frameRK d a e = 0) : frameRV d a e = frameAt d a := if_pos h
theorem frameRK_zero {d : Dm} {a e : Int} (h : frameRK d a e = 0) : 0 ≤ a ∧ e ≤ d.dur.length ∧ a < e ∧ longV d a ≤ 8192 ∧ (((longV d a + 75) / 64 : Nat) : Int) ≤ e - a ∧ sumOk d a := by
  unfold frameRK at h
  split at h
  · cases h
  · rename_i h1
    split at h
    · cases h
    · rename_i h2
      split at h
      · cases h
      · rename_i h3
        split at h
        · rename_i h4
          exact ⟨by omega, by omega, by omega, by omega, by omega, h4⟩
        · cases h
/-- the frames from a sector on (k: at least as many as there are sectors) -/
def scanV (d : Dm) (e : Int) (most : Nat) : Nat → Int → Nat → List Fr
  | 0, _, _ => []
  | k + 1, a, least => if a < e ∧ frameRK d a e = 0 ∧ least ≤ (frameAt d a).gen ∧ (frameAt d a).gen ≤ most then frameAt d a :: scanV d e most k (a + (frameAt d a).many) (frameAt d a).gen else []
theorem scanV_go {d : Dm} {e : Int} {most k : Nat} {a : Int} {least : Nat} (h : a < e ∧ frameRK d a e = 0 ∧ least ≤ (frameAt d a).gen ∧ (frameAt d a).gen ≤ most) : scanV d e most (k + 1) a least = frameAt d a :: scanV d e most k (a + (frameAt d a).many) (frameAt d a).gen := if_pos h
theorem scanV_stop {d : Dm} {e : Int} {most k : Nat} {a : Int} {least : Nat} (h : ¬ (a < e ∧ frameRK d a e = 0 ∧ least ≤ (frameAt d a).gen ∧ (frameAt d a).gen ≤ most)) : scanV d e most k a least = [] := by
  cases k with
  | zero => rfl
  | succ k => exact if_neg h
def scanK (d : Dm) (a e : Int) : Nat := if a < 0 ∨ (d.dur.length : Int) < e then 1 else 0
def scanAll (d : Dm) (a e : Int) (least most : Nat) : List Fr := if scanK d a e = 0 then scanV d e most (e - a).toNat a least else []
theorem scanK_le (d : Dm) (a e : Int) : scanK d a e ≤ 19 := by unfold scanK; split <;> decide
end Go.Proofs.YtgehbabcpmkgaaaDoor
