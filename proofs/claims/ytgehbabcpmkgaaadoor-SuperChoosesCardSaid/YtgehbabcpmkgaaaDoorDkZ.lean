/- While a block is written the other one stays; plain. -/
import Derived.Test.YtgehbabcpmkgaaaDoorDkV
import Derived.Test.YtgehbabcpmkgaaaDoorWSuperBlocks
namespace Go.Proofs.YtgehbabcpmkgaaaDoor
open Go
set_option linter.unusedVariables false
theorem padV_blk (g b h e : Nat) : ∃ r, padV (blkS g b h e) = sealed (blkH g b h e) ++ r := by
  refine ⟨_, padV_short (bs := blkS g b h e) (by rw [blkS_len]; decide)⟩
theorem blk_pad (g b h e : Nat) (hR : blkR g b h e = true) (hg : g ≤ 4294967295) : supK (padV (blkS g b h e)) = 0 ∧ supB (padV (blkS g b h e)) 4 = g ∧ supB (padV (blkS g b h e)) 8 = b ∧ supB (padV (blkS g b h e)) 12 = h ∧ supB (padV (blkS g b h e)) 16 = e := by
  obtain ⟨r, hr⟩ := padV_blk g b h e
  rw [hr]
  exact sup_sealed g b h e r hR hg
section
variable {g b h e : Nat} {Y T : List UInt8}
def st0 : Dm := Dm.new 10
theorem st0_ok : st0.Ok := Dm.new_ok (by decide)
theorem st0_w (hR : blkR g b h e = true) : writeK st0 0 (blkS g b h e) = 0 := writeK_of ⟨by decide, by decide⟩ (by rw [blkS_len]; decide) (by decide)
theorem st1_eq (hR : blkR g b h e = true) : swK st0 0 g b h e = 0 ∧ swM st0 0 g b h e = syncM (writeM st0 0 (blkS g b h e)) := by
  have hn : ¬ ((0 : Int) < 0 ∨ 2 ≤ (0 : Int) ∨ blkR g b h e = false) := by rw [hR]; simp
  have hw := st0_w hR
  have hf : (writeM st0 0 (blkS g b h e)).fuse = -1 := by rw [writeM_ok hw]; rfl
  refine ⟨?_, ?_⟩
  · unfold swK; rw [if_neg hn, if_neg (by rw [hw]; simp)]; unfold syncK; rw [if_neg (by rw [hf]; decide)]
  · unfold swM; rw [if_neg hn, if_neg (by rw [hw]; simp)]
theorem st1_facts (hR : blkR g b h e = true) : (swM st0 0 g b h e).fuse = -1 ∧ (swM st0 0 g b h e).dur.length = 10 ∧ (swM st0 0 g b h e).dur[0]? = some (padV (blkS g b h e)) ∧ (∀ q, (swM st0 0 g b h e).wr q = none) := by
  have hw := st0_w hR
  have hf : (writeM st0 0 (blkS g b h e)).fuse = -1 := by rw [writeM_ok hw]; rfl
  have hwr : (writeM st0 0 (blkS g b h e)).wr 0 = some (padV (blkS g b h e)) := by rw [writeM_ok hw]; rfl
  have hd : (writeM st0 0 (blkS g b h e)).dur = List.replicate 10 zero64 := by rw [writeM_dur]; rfl
  rw [(st1_eq hR).2, (syncK_yes (by rw [hf]; decide)).2]
  refine ⟨hf, ?_, ?_, fun _ => rfl⟩
  · show (flushV _).length = 10
    rw [flushV_len, hd, List.length_replicate]
  · show (flushV _)[0]? = _
    rw [flushV_get, hd]
    show some _ = some _
    rw [show (((0 : Nat) : Int)) = 0 from rfl, hwr]; rfl
theorem st2_w (hR : blkR g b h e = true) (hY : Y.length ≤ 64) : writeK (swM st0 0 g b h e) 1 Y = 0 := by
  obtain ⟨h1, h2, -, -⟩ := st1_facts hR
  exact writeK_of ⟨by decide, by rw [h2]; decide⟩ hY (by rw [h1]; decide)
def st3 (g b h e : Nat) (Y T : List UInt8) : Dm := crashM (writeM (swM st0 0 g b h e) 1 Y) [] [(1, T)]
theorem st3_facts (hR : blkR g b h e = true) (hY : Y.length ≤ 64) : (st3 g b h e Y T).fuse = -1 ∧ (st3 g b h e Y T).dur.length = 10 ∧ getV (st3 g b h e Y T) 0 = padV (blkS g b h e) ∧ getV (st3 g b h e Y T) 1 = padV T := by
  obtain ⟨h1, h2, h3, h4⟩ := st1_facts hR
  have hw := st2_w (Y := Y) hR hY
  have hd : (st3 g b h e Y T).dur = (swM st0 0 g b h e).dur.set 1 (padV T) := by
    show tornM (writeM (swM st0 0 g b h e) 1 Y).wr (writeM (swM st0 0 g b h e) 1 Y).dur (1, T) = _
    rw [writeM_dur]
    unfold tornM
    rw [writeM_ok hw]
    simp
  have hn : ∀ q, (st3 g b h e Y T).wr q = none := fun _ => rfl
  refine ⟨rfl, by rw [hd, List.length_set, h2], ?_, ?_⟩
  · unfold getV
    rw [hn, hd, List.getD_eq_getElem?_getD]
    show ((swM st0 0 g b h e).dur.set 1 (padV T))[0]?.getD zero64 = _
    rw [List.getElem?_set_ne (by decide), h3]; rfl
  · unfold getV
    rw [hn, hd, List.getD_eq_getElem?_getD]
    show ((swM st0 0 g b h e).dur.set 1 (padV T))[1]?.getD zero64 = _
    rw [List.getElem?_set_self (by rw [h2]; decide)]; rfl
theorem st3_chosen (hR : blkR g b h e = true) (hg : g ≤ 4294967295) (hY : Y.length ≤ 64) (hT : supK (padV T) ≠ 0) : chK (st3 g b h e Y T) = 0 ∧ chS (st3 g b h e Y T) = 0 ∧ chB (st3 g b h e Y T) 4 = g ∧ chB (st3 g b h e Y T) 8 = b ∧ chB (st3 g b h e Y T) 12 = h ∧ chB (st3 g b h e Y T) 16 = e := by
  obtain ⟨h1, h2, h3, h4⟩ := st3_facts (T := T) hR hY
  obtain ⟨p0, p1, p2, p3, p4⟩ := blk_pad g b h e hR hg
  obtain ⟨r1, r2, -⟩ := blkR_true hR
  have b1 : bestN (st3 g b h e Y T) 1 = some 0 := bestN_yes (k := 0) (by show supK (getV _ 0) = 0; rw [h3]; exact p0) (by show 0 < supB (getV _ 0) 4; rw [h3, p1]; omega)
  have b2 : bestN (st3 g b h e Y T) 2 = some 0 := by
    rw [← b1]; exact bestN_no (k := 1) (fun hh => hT (by have := hh.1; rw [show (((1 : Nat) : Int)) = 1 from rfl, h4] at this; exact this))
  have hk : chK (st3 g b h e Y T) = 0 := by unfold chK; rw [if_neg (by rw [h2]; decide), if_neg (by rw [h1]; decide), if_neg (by rw [b2]; simp)]
  have hb : ∀ k, chB (st3 g b h e Y T) k = supB (padV (blkS g b h e)) k := fun k => by
    unfold chB; rw [if_pos hk, b2]
    show supB (getV _ ((0 : Nat) : Int)) k = _
    rw [show (((0 : Nat) : Int)) = 0 from rfl, h3]
  exact ⟨hk, by unfold chS; rw [if_pos hk, b2]; rfl, by rw [hb, p1], by rw [hb, p2], by rw [hb, p3], by rw [hb, p4]⟩
end
end Go.Proofs.YtgehbabcpmkgaaaDoor
