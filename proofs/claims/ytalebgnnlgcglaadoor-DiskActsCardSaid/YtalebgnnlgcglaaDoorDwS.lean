/- What is durable stays, whatever is done at other sectors; plain. -/
import Derived.Test.YtalebgnnlgcglaaDoorDkL
namespace Go.Proofs.YtalebgnnlgcglaaDoor
open Go
set_option linter.unusedVariables false
/-- sector 3 is durable, and there is power -/
structure Stay (V : List UInt8) (d : Dm) : Prop where
  ok : d.Ok
  len : d.dur.length = 8
  fuse : d.fuse = -1
  wr : d.wr 3 = none
  at3 : d.dur[3]? = some V
section
variable {V : List UInt8} {d : Dm}
theorem Stay.write (h : Stay V d) {a : Int} (ha : a ≠ 3) (b : List UInt8) : Stay V (writeM d a b) := by
  refine ⟨h.ok.write a b, by rw [writeM_dur]; exact h.len, ?_, ?_, by rw [writeM_dur]; exact h.at3⟩
  · by_cases hk : writeK d a b = 0
    · rw [writeM_ok hk]
      show (if 0 < d.fuse then d.fuse - 1 else d.fuse) = -1
      rw [if_neg (by rw [h.fuse]; decide), h.fuse]
    · rw [show writeM d a b = d from if_neg hk]; exact h.fuse
  · by_cases hk : writeK d a b = 0
    · rw [writeM_ok hk]
      show (if (3 : Int) = a then some (padV b) else d.wr 3) = none
      rw [if_neg (Ne.symm ha)]; exact h.wr
    · rw [show writeM d a b = d from if_neg hk]; exact h.wr
theorem Stay.sync (h : Stay V d) : Stay V (syncM d) := by
  have hs : syncM d = { d with dur := flushV d, wr := fun _ => none } := if_neg (by rw [h.fuse]; decide)
  refine ⟨h.ok.sync, ?_, ?_, ?_, ?_⟩
  · rw [hs]; show (flushV d).length = 8; rw [flushV_len]; exact h.len
  · rw [hs]; exact h.fuse
  · rw [hs]
  · rw [hs]; show (flushV d)[3]? = some V
    rw [flushV_get, h.at3]
    show some ((d.wr ((3 : Nat) : Int)).getD V) = some V
    rw [show ((3 : Nat) : Int) = 3 from rfl, h.wr]; rfl
theorem keep3 {wr : Int → Option (List UInt8)} (h3 : wr 3 = none) (hw : ∀ i s, wr i = some s → 0 ≤ i) : ∀ (ks : List Int) (cur : List (List UInt8)), cur[3]? = some V → (ks.foldl (keepM wr) cur)[3]? = some V
  | [], cur, h => h
  | k :: ks, cur, h => by
    refine keep3 h3 hw ks _ ?_
    unfold keepM
    split
    · rename_i s hs
      have h0 := hw k s hs
      rw [List.getElem?_set_ne (by intro e; have h4 : k = 3 := (by omega); rw [h4, h3] at hs; cases hs)]
      exact h
    · exact h
theorem torn3 {wr : Int → Option (List UInt8)} (h3 : wr 3 = none) (hw : ∀ i s, wr i = some s → 0 ≤ i) : ∀ (ts : List (Int × List UInt8)) (cur : List (List UInt8)), cur[3]? = some V → (ts.foldl (tornM wr) cur)[3]? = some V
  | [], cur, h => h
  | t :: ts, cur, h => by
    refine torn3 h3 hw ts _ ?_
    unfold tornM
    split
    · rename_i s hs
      have h0 := hw t.1 s hs
      rw [List.getElem?_set_ne (by intro e; have h4 : t.1 = 3 := (by omega); rw [h4, h3] at hs; cases hs)]
      exact h
    · exact h
theorem Stay.crash (h : Stay V d) (ks : List Int) (ts : List (Int × List UInt8)) : Stay V (crashM d ks ts) :=
  ⟨h.ok.crash ks ts, by rw [crashM_len h.ok]; exact h.len, rfl, rfl, torn3 h.wr (fun i s hs => (h.ok.within i s hs).1) ts _ (keep3 h.wr (fun i s hs => (h.ok.within i s hs).1) ks _ h.at3)⟩
theorem Stay.read (h : Stay V d) : readK d 3 = 0 ∧ readV d 3 = V := by
  have hk : readK d 3 = 0 := readK_of ⟨by decide, by rw [h.len]; decide⟩ (by rw [h.fuse]; decide)
  refine ⟨hk, ?_⟩
  unfold readV getV
  rw [if_pos hk, h.wr, List.getD_eq_getElem?_getD]
  show (d.dur[3]?).getD zero64 = V
  rw [h.at3]; rfl
end
theorem stay_first (b : List UInt8) (hb : b.length ≤ 64) : writeK (Dm.new 8) 3 b = 0 ∧ syncK (writeM (Dm.new 8) 3 b) = 0 ∧ Stay (padV b) (syncM (writeM (Dm.new 8) 3 b)) := by
  have hok : (Dm.new 8).Ok := Dm.new_ok (by decide)
  have hw : writeK (Dm.new 8) 3 b = 0 := writeK_of ⟨by decide, by decide⟩ hb (by decide)
  have hf : (writeM (Dm.new 8) 3 b).fuse = -1 := by rw [writeM_ok hw]; rfl
  have hwr : (writeM (Dm.new 8) 3 b).wr 3 = some (padV b) := by rw [writeM_ok hw]; rfl
  have hd : (writeM (Dm.new 8) 3 b).dur = List.replicate 8 zero64 := by rw [writeM_dur]; rfl
  have hs : syncM (writeM (Dm.new 8) 3 b) = { (writeM (Dm.new 8) 3 b) with dur := flushV (writeM (Dm.new 8) 3 b), wr := fun _ => none } := if_neg (by rw [hf]; decide)
  refine ⟨hw, if_neg (by rw [hf]; decide), (hok.write 3 b).sync, ?_, ?_, ?_, ?_⟩
  · rw [hs]; show (flushV _).length = 8; rw [flushV_len, hd, List.length_replicate]
  · rw [hs]; exact hf
  · rw [hs]
  · rw [hs]; show (flushV _)[3]? = _
    rw [flushV_get, hd]
    show some ((((writeM (Dm.new 8) 3 b).wr ((3 : Nat) : Int))).getD zero64) = _
    rw [show ((3 : Nat) : Int) = 3 from rfl, hwr]; rfl
theorem stay_len {b : List UInt8} (hb : b.length ≤ 64) : (padV b).take b.length = b := by
  rw [padV_short hb, List.take_left]
end Go.Proofs.YtalebgnnlgcglaaDoor
