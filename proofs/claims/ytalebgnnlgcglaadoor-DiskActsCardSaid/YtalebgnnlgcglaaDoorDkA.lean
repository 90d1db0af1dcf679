/- Disks, plain: sectors that are durable, sectors that are written, a fuse; the document's rows of writes; the two agree. No program. -/
import Derived.Test.YtalebgnnlgcglaaDoorLib
namespace Go.Proofs.YtalebgnnlgcglaaDoor
open Go
set_option linter.unusedVariables false
/-- a sector of noughts -/
def zero64 : List UInt8 := List.replicate 64 (b8 0)
theorem zero64_len : zero64.length = 64 := by simp [zero64]
/-- a sector of bytes, and noughts behind them -/
def padV (bs : List UInt8) : List UInt8 := bs.take 64 ++ zero64.drop bs.length
theorem padV_len (bs : List UInt8) : (padV bs).length = 64 := by unfold padV; rw [List.length_append, List.length_take, List.length_drop, zero64_len]; omega
theorem padV_nil : padV [] = zero64 := rfl
theorem padV_short {bs : List UInt8} (h : bs.length ≤ 64) : padV bs = bs ++ List.replicate (64 - bs.length) (b8 0) := by
  unfold padV zero64; rw [List.take_of_length_le h, List.drop_replicate]
theorem padV_take (bs : List UInt8) : padV (bs.take 64) = padV bs := by
  unfold padV; rw [List.take_take, List.length_take]
  by_cases h : bs.length ≤ 64
  · rw [Nat.min_eq_right h, Nat.min_self]
  · rw [Nat.min_self, Nat.min_eq_left (by omega), List.drop_of_length_le (by rw [zero64_len]; omega), List.drop_of_length_le (by rw [zero64_len]; omega)]
theorem padV_full {bs : List UInt8} (h : bs.length = 64) : padV bs = bs := by rw [padV_short (by omega), h]; simp

structure Dm where
  dur : List (List UInt8)
  wr : Int → Option (List UInt8)
  fuse : Int
  writes : Nat
structure Dm.Ok (d : Dm) : Prop where
  len : ∀ s ∈ d.dur, s.length = 64
  wlen : ∀ i s, d.wr i = some s → s.length = 64
  within : ∀ i s, d.wr i = some s → 0 ≤ i ∧ i < d.dur.length
  size : d.dur.length ≤ 1024
  fuse1 : -1 ≤ d.fuse
  fuse2 : d.fuse ≤ 9223372036854775807
/-- is there a sector? -/
def Dm.has (d : Dm) (at' : Int) : Prop := 0 ≤ at' ∧ at' < d.dur.length
instance (d : Dm) (at' : Int) : Decidable (d.has at') := by unfold Dm.has; exact inferInstance
def Dm.new (n : Nat) : Dm := ⟨List.replicate n zero64, fun _ => none, -1, 0⟩
theorem Dm.new_ok {n : Nat} (h : n ≤ 1024) : (Dm.new n).Ok :=
  ⟨fun s hs => by rw [(List.mem_replicate.1 hs).2, zero64_len], fun _ _ h => (Option.some_ne_none _ h.symm).elim, fun _ _ h => (Option.some_ne_none _ h.symm).elim, by simpa [Dm.new] using h, by simp [Dm.new], by simp [Dm.new]⟩
/-- the error's number -/
def writeK (d : Dm) (at' : Int) (b : List UInt8) : Nat := if ¬ d.has at' then 1 else if 64 < b.length then 3 else if d.fuse = 0 then 17 else 0
def writeM (d : Dm) (at' : Int) (b : List UInt8) : Dm := if writeK d at' b = 0 then { d with wr := fun y => if y = at' then some (padV b) else d.wr y, writes := d.writes + 1, fuse := if 0 < d.fuse then d.fuse - 1 else d.fuse } else d
def readK (d : Dm) (at' : Int) : Nat := if ¬ d.has at' then 1 else if d.fuse = 0 then 17 else 0
/-- a sector's bytes -/
def getV (d : Dm) (at' : Int) : List UInt8 := (d.wr at').getD (d.dur.getD at'.toNat zero64)
def readV (d : Dm) (at' : Int) : List UInt8 := if readK d at' = 0 then getV d at' else []
def syncK (d : Dm) : Nat := if d.fuse = 0 then 17 else 0
/-- what is written is durable -/
def flushV (d : Dm) : List (List UInt8) := d.dur.mapIdx fun i s => (d.wr (i : Int)).getD s
def syncM (d : Dm) : Dm := if d.fuse = 0 then d else { d with dur := flushV d, wr := fun _ => none }
def keepM (wr : Int → Option (List UInt8)) (dur : List (List UInt8)) (k : Int) : List (List UInt8) := match wr k with
  | some s => dur.set k.toNat s
  | none => dur
def tornM (wr : Int → Option (List UInt8)) (dur : List (List UInt8)) (t : Int × List UInt8) : List (List UInt8) := match wr t.1 with
  | some _ => dur.set t.1.toNat (padV t.2)
  | none => dur
def crashM (d : Dm) (keep : List Int) (torn : List (Int × List UInt8)) : Dm :=
  { d with dur := torn.foldl (tornM d.wr) (keep.foldl (keepM d.wr) d.dur), wr := fun _ => none, fuse := -1 }
def fuseM (d : Dm) (n : Int) : Dm := { d with fuse := max n (-1) }

theorem writeK_le (d : Dm) (a : Int) (b : List UInt8) : writeK d a b ≤ 19 := by unfold writeK; split <;> (try split) <;> (try split) <;> decide
theorem readK_le (d : Dm) (a : Int) : readK d a ≤ 19 := by unfold readK; split <;> (try split) <;> decide
theorem syncK_le (d : Dm) : syncK d ≤ 19 := by unfold syncK; split <;> decide
theorem writeK_zero {d : Dm} {a : Int} {b : List UInt8} (h : writeK d a b = 0) : d.has a ∧ b.length ≤ 64 ∧ d.fuse ≠ 0 := by
  unfold writeK at h
  split at h
  · cases h
  · rename_i h1
    split at h
    · cases h
    · rename_i h2
      split at h
      · cases h
      · rename_i h3
        exact ⟨Decidable.not_not.1 h1, by omega, h3⟩
theorem writeK_of {d : Dm} {a : Int} {b : List UInt8} (h1 : d.has a) (h2 : b.length ≤ 64) (h3 : d.fuse ≠ 0) : writeK d a b = 0 := by
  unfold writeK; rw [if_neg (fun h => h h1), if_neg (by omega), if_neg h3]
theorem writeM_bad {d : Dm} {a : Int} {b : List UInt8} (h : writeK d a b ≠ 0) : writeM d a b = d := by unfold writeM; rw [if_neg h]
theorem writeM_ok {d : Dm} {a : Int} {b : List UInt8} (h : writeK d a b = 0) : writeM d a b = { d with wr := fun y => if y = a then some (padV b) else d.wr y, writes := d.writes + 1, fuse := if 0 < d.fuse then d.fuse - 1 else d.fuse } := by unfold writeM; rw [if_pos h]
theorem writeM_dur (d : Dm) (a : Int) (b : List UInt8) : (writeM d a b).dur = d.dur := by unfold writeM; split <;> rfl
theorem writeM_writes (d : Dm) (a : Int) (b : List UInt8) : (writeM d a b).writes ≤ d.writes + 1 := by unfold writeM; split <;> simp
theorem Dm.Ok.write {d : Dm} (h : d.Ok) (a : Int) (b : List UInt8) : (writeM d a b).Ok := by
  by_cases hk : writeK d a b = 0
  · obtain ⟨h1, h2, h3⟩ := writeK_zero hk
    rw [writeM_ok hk]
    refine ⟨h.len, fun i s hs => ?_, fun i s hs => ?_, h.size, ?_, ?_⟩
    · simp only at hs
      split at hs
      · cases hs; exact padV_len b
      · exact h.wlen i s hs
    · simp only at hs
      split at hs
      · rename_i e; subst e; exact h1
      · exact h.within i s hs
    · simp only; have := h.fuse1; split <;> omega
    · simp only; have := h.fuse2; split <;> omega
  · rw [writeM_bad hk]; exact h
theorem Dm.Ok.fuse {d : Dm} (h : d.Ok) {n : Int} (hn : n ≤ 9223372036854775807) : (fuseM d n).Ok := ⟨h.len, h.wlen, h.within, h.size, by simp only [fuseM]; omega, by simp only [fuseM]; omega⟩
theorem flushV_len (d : Dm) : (flushV d).length = d.dur.length := by simp [flushV]
theorem flushV_get (d : Dm) (i : Nat) : (flushV d)[i]? = d.dur[i]?.map fun s => (d.wr (i : Int)).getD s := by simp [flushV]
theorem Dm.Ok.sync {d : Dm} (h : d.Ok) : (syncM d).Ok := by
  unfold syncM
  split
  · exact h
  · refine ⟨fun s hs => ?_, fun _ _ h => (Option.some_ne_none _ h.symm).elim, fun _ _ h => (Option.some_ne_none _ h.symm).elim, by simpa [flushV] using h.size, h.fuse1, h.fuse2⟩
    obtain ⟨i, hi⟩ := List.mem_iff_getElem?.1 hs
    rw [show (⟨flushV d, fun _ => none, d.fuse, d.writes⟩ : Dm).dur = flushV d from rfl, flushV_get] at hi
    obtain ⟨s0, h0, rfl⟩ := Option.map_eq_some_iff.1 hi
    cases hw : d.wr (i : Int) with
    | some u => exact h.wlen _ _ hw
    | none => exact h.len _ (List.mem_of_getElem? h0)
theorem keepM_len (wr : Int → Option (List UInt8)) (dur : List (List UInt8)) (k : Int) : (keepM wr dur k).length = dur.length := by unfold keepM; split <;> simp
theorem tornM_len (wr : Int → Option (List UInt8)) (dur : List (List UInt8)) (t : Int × List UInt8) : (tornM wr dur t).length = dur.length := by unfold tornM; split <;> simp
theorem keepM_all {wr : Int → Option (List UInt8)} {dur : List (List UInt8)} (h1 : ∀ i s, wr i = some s → s.length = 64) (h2 : ∀ s ∈ dur, s.length = 64) (k : Int) : ∀ s ∈ keepM wr dur k, s.length = 64 := by
  unfold keepM
  split
  · rename_i u hu
    intro s hs
    rcases List.mem_or_eq_of_mem_set hs with h | rfl
    · exact h2 _ h
    · exact h1 _ _ hu
  · exact h2
theorem tornM_all {wr : Int → Option (List UInt8)} {dur : List (List UInt8)} (h2 : ∀ s ∈ dur, s.length = 64) (t : Int × List UInt8) : ∀ s ∈ tornM wr dur t, s.length = 64 := by
  unfold tornM
  split
  · intro s hs
    rcases List.mem_or_eq_of_mem_set hs with h | rfl
    · exact h2 _ h
    · exact padV_len _
  · exact h2
theorem keepAll {wr : Int → Option (List UInt8)} (h1 : ∀ i s, wr i = some s → s.length = 64) : ∀ (ks : List Int) {dur : List (List UInt8)}, (∀ s ∈ dur, s.length = 64) → (ks.foldl (keepM wr) dur).length = dur.length ∧ ∀ s ∈ ks.foldl (keepM wr) dur, s.length = 64
  | [], dur, h => ⟨rfl, h⟩
  | k :: ks, dur, h => by
    have := keepAll h1 ks (keepM_all h1 h k)
    rw [keepM_len] at this
    exact this
theorem tornAll {wr : Int → Option (List UInt8)} : ∀ (ks : List (Int × List UInt8)) {dur : List (List UInt8)}, (∀ s ∈ dur, s.length = 64) → (ks.foldl (tornM wr) dur).length = dur.length ∧ ∀ s ∈ ks.foldl (tornM wr) dur, s.length = 64
  | [], dur, h => ⟨rfl, h⟩
  | k :: ks, dur, h => by
    have := tornAll (wr := wr) ks (tornM_all (wr := wr) h k)
    rw [tornM_len] at this
    exact this
theorem crashM_len {d : Dm} (h : d.Ok) (ks : List Int) (ts : List (Int × List UInt8)) : (crashM d ks ts).dur.length = d.dur.length := by
  obtain ⟨h1, h2⟩ := keepAll h.wlen ks h.len
  show (ts.foldl (tornM d.wr) (ks.foldl (keepM d.wr) d.dur)).length = _
  rw [(tornAll ts h2).1, h1]
theorem Dm.Ok.crash {d : Dm} (h : d.Ok) (ks : List Int) (ts : List (Int × List UInt8)) : (crashM d ks ts).Ok := by
  obtain ⟨h1, h2⟩ := keepAll h.wlen ks h.len
  refine ⟨(tornAll ts h2).2, fun _ _ h => (Option.some_ne_none _ h.symm).elim, fun _ _ h => (Option.some_ne_none _ h.symm).elim, by rw [crashM_len h]; exact h.size, by simp [crashM], by simp [crashM]⟩
theorem Dm.Ok.get {d : Dm} (h : d.Ok) (a : Int) : (getV d a).length = 64 := by
  unfold getV
  cases hw : d.wr a with
  | some u => exact h.wlen _ _ hw
  | none =>
    show (d.dur.getD a.toNat zero64).length = 64
    rw [List.getD_eq_getElem?_getD]
    cases hd : d.dur[a.toNat]? with
    | some s => exact h.len _ (List.mem_of_getElem? hd)
    | none => exact zero64_len
/-! ### the document's disk -/
/-- what was written last at a sector -/
def lastO (l : List (Int × List UInt8)) (j : Int) : Option (List UInt8) := l.foldl (fun acc p => if p.1 = j then some p.2 else acc) none
theorem lastO_nil (j : Int) : lastO [] j = none := rfl
theorem lastO_snoc (l : List (Int × List UInt8)) (p : Int × List UInt8) (j : Int) : lastO (l ++ [p]) j = if p.1 = j then some p.2 else lastO l j := by simp [lastO, List.foldl_append]
theorem last_or (j : Int) : ∀ (l : List (Int × List UInt8)) (acc : Option (List UInt8)), l.foldl (fun acc p => if p.1 = j then some p.2 else acc) acc = (lastO l j).or acc
  | [], acc => rfl
  | p :: l, acc => by
    show l.foldl _ _ = _
    rw [last_or j l]
    show _ = Option.or (l.foldl (fun acc p => if p.1 = j then some p.2 else acc) (if p.1 = j then some p.2 else none)) acc
    rw [last_or j l]
    by_cases h : p.1 = j
    · simp only [if_pos h, Option.or_assoc, Option.some_or]
    · simp only [if_neg h, Option.or_none]
theorem lastO_append (l k : List (Int × List UInt8)) (j : Int) : lastO (l ++ k) j = (lastO k j).or (lastO l j) := by
  unfold lastO; rw [List.foldl_append]; exact last_or j k _
theorem lastO_within {P : Int → Prop} : ∀ {l : List (Int × List UInt8)}, (∀ p ∈ l, P p.1) → ∀ {j : Int} {s : List UInt8}, lastO l j = some s → P j
  | [], _, j, s, hs => by cases hs
  | p :: l, h, j, s, hs => by
    have e : lastO (p :: l) j = (lastO l j).or (if p.1 = j then some p.2 else none) := last_or j l _
    rw [e] at hs
    cases hl : lastO l j with
    | some u => exact lastO_within (fun q hq => h q (by simp [hq])) hl
    | none =>
      rw [hl] at hs
      by_cases e1 : p.1 = j
      · subst e1; exact h p (by simp)
      · rw [if_neg e1] at hs; cases hs
/-- a disk of the document -/
structure Lm where
  size : Nat
  dur : List (Int × List UInt8)
  wait : List (Int × List UInt8)
  fuse : Int
  writes : Nat
/-- both have the same -/
structure Sim (d : Dm) (m : Lm) : Prop where
  size : m.size = d.dur.length
  dur : ∀ (i : Nat) (s : List UInt8), d.dur[i]? = some s → s = (lastO m.dur (i : Int)).getD zero64
  wr : ∀ i, d.wr i = lastO m.wait i
  fuse : m.fuse = d.fuse
  writes : m.writes = d.writes
theorem Sim.new (n : Nat) : Sim (Dm.new n) ⟨n, [], [], -1, 0⟩ :=
  ⟨by simp [Dm.new], fun i s h => by
    rw [show (Dm.new n).dur = List.replicate n zero64 from rfl] at h
    have := List.mem_of_getElem? h
    rw [(List.mem_replicate.1 this).2]; rfl, fun _ => rfl, rfl, rfl⟩
theorem Sim.write {d : Dm} {m : Lm} (h : Sim d m) {a : Int} {b : List UInt8} (hk : writeK d a b = 0) : Sim (writeM d a b) { m with wait := m.wait ++ [(a, padV b)], writes := m.writes + 1, fuse := if 0 < m.fuse then m.fuse - 1 else m.fuse } := by
  rw [writeM_ok hk]
  refine ⟨h.size, h.dur, fun i => ?_, by simp only [h.fuse], by simp only [h.writes]⟩
  simp only [lastO_snoc, h.wr]
  by_cases e : i = a
  · rw [if_pos e, if_pos e.symm]
  · rw [if_neg e, if_neg (fun e' => e e'.symm)]
theorem Sim.setFuse {d : Dm} {m : Lm} (h : Sim d m) (n : Int) : Sim (fuseM d n) { m with fuse := max n (-1) } := ⟨h.size, h.dur, h.wr, rfl, h.writes⟩
theorem Sim.sync {d : Dm} {m : Lm} (h : Sim d m) (hf : d.fuse ≠ 0) : Sim (syncM d) { m with dur := m.dur ++ m.wait, wait := [] } := by
  unfold syncM; rw [if_neg hf]
  refine ⟨by rw [h.size]; exact (flushV_len d).symm, fun i s hs => ?_, fun _ => rfl, h.fuse, h.writes⟩
  rw [show (⟨flushV d, fun _ => none, d.fuse, d.writes⟩ : Dm).dur = flushV d from rfl, flushV_get] at hs
  obtain ⟨s0, h0, rfl⟩ := Option.map_eq_some_iff.1 hs
  rw [lastO_append, h.dur i s0 h0, h.wr]
  cases lastO m.wait (i : Int) <;> rfl
theorem Sim.has {d : Dm} {m : Lm} (h : Sim d m) (a : Int) : d.has a ↔ 0 ≤ a ∧ a < m.size := by unfold Dm.has; rw [h.size]
theorem Sim.get {d : Dm} {m : Lm} (h : Sim d m) {a : Int} (ha : d.has a) : getV d a = (lastO m.wait a).getD ((lastO m.dur a).getD zero64) := by
  unfold getV
  rw [h.wr]
  have hlt : a.toNat < d.dur.length := by have := ha.1; have := ha.2; omega
  have e := h.dur a.toNat _ (List.getElem?_eq_getElem hlt)
  rw [Int.toNat_of_nonneg ha.1] at e
  rw [List.getD_eq_getElem?_getD, List.getElem?_eq_getElem hlt, Option.getD_some, e]
/-- the keeps of a crash -/
def keepL (wait out : List (Int × List UInt8)) (k : Int) : List (Int × List UInt8) := match lastO wait k with
  | some s => out ++ [(k, s)]
  | none => out
def tornL (wait out : List (Int × List UInt8)) (t : Int × List UInt8) : List (Int × List UInt8) := match lastO wait t.1 with
  | some _ => out ++ [(t.1, padV t.2)]
  | none => out
theorem keepL_len (wait out : List (Int × List UInt8)) (k : Int) : (keepL wait out k).length ≤ out.length + 1 := by unfold keepL; split <;> simp
theorem tornL_len (wait out : List (Int × List UInt8)) (t : Int × List UInt8) : (tornL wait out t).length ≤ out.length + 1 := by unfold tornL; split <;> simp
def Fits (dur : List (List UInt8)) (out : List (Int × List UInt8)) : Prop := ∀ (i : Nat) (s : List UInt8), dur[i]? = some s → s = (lastO out (i : Int)).getD zero64
theorem Fits.set {dur : List (List UInt8)} {out : List (Int × List UInt8)} (h : Fits dur out) {k : Int} (hk : 0 ≤ k) (u : List UInt8) : Fits (dur.set k.toNat u) (out ++ [(k, u)]) := fun i s hs => by
  rw [lastO_snoc]
  by_cases e : i = k.toNat
  · subst e
    rw [if_pos (by show k = _; omega)]
    rw [List.getElem?_set_self'] at hs
    obtain ⟨_, _, rfl⟩ := Option.map_eq_some_iff.1 hs
    rfl
  · rw [if_neg (by show ¬ k = _; omega)]
    rw [List.getElem?_set_ne (by omega)] at hs
    exact h i s hs
theorem Fits.keep {wr : Int → Option (List UInt8)} {wait : List (Int × List UInt8)} (hw : ∀ i, wr i = lastO wait i) (hin : ∀ i s, wr i = some s → 0 ≤ i) {dur : List (List UInt8)} {out : List (Int × List UInt8)} (h : Fits dur out) (k : Int) : Fits (keepM wr dur k) (keepL wait out k) := by
  unfold keepM keepL
  have e := hw k
  cases hk : lastO wait k with
  | some s => rw [hk] at e; rw [e]; exact h.set (hin _ _ e) s
  | none => rw [hk] at e; rw [e]; exact h
theorem Fits.torn {wr : Int → Option (List UInt8)} {wait : List (Int × List UInt8)} (hw : ∀ i, wr i = lastO wait i) (hin : ∀ i s, wr i = some s → 0 ≤ i) {dur : List (List UInt8)} {out : List (Int × List UInt8)} (h : Fits dur out) (t : Int × List UInt8) : Fits (tornM wr dur t) (tornL wait out t) := by
  unfold tornM tornL
  have e := hw t.1
  cases hk : lastO wait t.1 with
  | some s => rw [hk] at e; rw [e]; exact h.set (hin _ _ e) _
  | none => rw [hk] at e; rw [e]; exact h
theorem fits_keeps {wr : Int → Option (List UInt8)} {wait : List (Int × List UInt8)} (hw : ∀ i, wr i = lastO wait i) (hin : ∀ i s, wr i = some s → 0 ≤ i) : ∀ (ks : List Int) {dur : List (List UInt8)} {out : List (Int × List UInt8)}, Fits dur out → Fits (ks.foldl (keepM wr) dur) (ks.foldl (keepL wait) out)
  | [], _, _, h => h
  | k :: ks, _, _, h => fits_keeps hw hin ks (h.keep hw hin k)
theorem fits_torns {wr : Int → Option (List UInt8)} {wait : List (Int × List UInt8)} (hw : ∀ i, wr i = lastO wait i) (hin : ∀ i s, wr i = some s → 0 ≤ i) : ∀ (ks : List (Int × List UInt8)) {dur : List (List UInt8)} {out : List (Int × List UInt8)}, Fits dur out → Fits (ks.foldl (tornM wr) dur) (ks.foldl (tornL wait) out)
  | [], _, _, h => h
  | k :: ks, _, _, h => fits_torns hw hin ks (h.torn hw hin k)
theorem Sim.crash {d : Dm} {m : Lm} (h : Sim d m) (ho : d.Ok) (ks : List Int) (ts : List (Int × List UInt8)) : Sim (crashM d ks ts) { m with dur := ts.foldl (tornL m.wait) (ks.foldl (keepL m.wait) m.dur), wait := [], fuse := -1 } := by
  refine ⟨by rw [crashM_len ho]; exact h.size, ?_, fun _ => rfl, rfl, h.writes⟩
  exact fits_torns h.wr (fun i s hs => (ho.within i s hs).1) ts (fits_keeps h.wr (fun i s hs => (ho.within i s hs).1) ks h.dur)
end Go.Proofs.YtalebgnnlgcglaaDoor
