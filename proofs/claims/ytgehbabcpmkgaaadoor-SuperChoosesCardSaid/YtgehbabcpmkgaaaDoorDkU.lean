/- super.Write, super.Choose, walked. -/
import Derived.Test.YtgehbabcpmkgaaaDoorDkL
import Derived.Test.YtgehbabcpmkgaaaDoorSuperB
import Derived.BigQuiet
namespace Go.Proofs.YtgehbabcpmkgaaaDoor
open Go Go.RowKit
set_option linter.unusedVariables false
def blkS (g b : Nat) (h e : Int) : List UInt8 := sealed (blkH g b h.toNat e.toNat)
theorem blkS_len (g b : Nat) (h e : Int) : (blkS g b h e).length = 24 := by unfold blkS; rw [sealed_len]; unfold blkH; simp [fput_len]
/-- a block is written: the error's number, the disk -/
def swK (d : Dm) (s : Int) (g b : Nat) (h e : Int) : Nat := if s < 0 ∨ 2 ≤ s ∨ blkR g b h e = false then 1 else if writeK d s (blkS g b h e) ≠ 0 then writeK d s (blkS g b h e) else syncK (writeM d s (blkS g b h e))
def swM (d : Dm) (s : Int) (g b : Nat) (h e : Int) : Dm := if s < 0 ∨ 2 ≤ s ∨ blkR g b h e = false then d else if writeK d s (blkS g b h e) ≠ 0 then d else syncM (writeM d s (blkS g b h e))
theorem swK_le (d : Dm) (s : Int) (g b : Nat) (h e : Int) : swK d s g b h e ≤ 19 := by
  unfold swK; split
  · decide
  · split
    · exact writeK_le _ _ _
    · exact syncK_le _
theorem swM_ok {d : Dm} (ho : d.Ok) (s : Int) (g b : Nat) (h e : Int) : (swM d s g b h e).Ok := by
  unfold swM; split
  · exact ho
  · split
    · exact ho
    · exact (ho.write _ _).sync
theorem syncM_len (d : Dm) : (syncM d).dur.length = d.dur.length := by
  unfold syncM; split
  · rfl
  · exact flushV_len d
theorem syncM_writes (d : Dm) : (syncM d).writes = d.writes := by unfold syncM; split <;> rfl
theorem swM_len (d : Dm) (s : Int) (g b : Nat) (h e : Int) : (swM d s g b h e).dur.length = d.dur.length ∧ (swM d s g b h e).writes ≤ d.writes + 1 := by
  unfold swM; split
  · exact ⟨rfl, Nat.le_add_right _ _⟩
  · split
    · exact ⟨rfl, Nat.le_add_right _ _⟩
    · rw [syncM_len, writeM_dur, syncM_writes]; exact ⟨rfl, writeM_writes _ _ _⟩
/-- the errors that a block's slot answers -/
structure ErrsSup (ea : Nat → Addr) (w : World) : Prop where
  e1 : ErrAt w 2 (ea 1)
  e2 : ErrAt w 3 (ea 2)
  e3 : ErrAt w 0 (ea 3)
  e9 : ErrAt w 4 (ea 9)
  e14 : ErrAt w 5 (ea 14)
  e17 : ErrAt w 7 (ea 17)
  e18 : ErrAt w 8 (ea 18)
theorem ErrsAll.sup {ea : Nat → Addr} {w : World} (h : ErrsAll ea w) : ErrsSup ea w := ⟨h.e1, h.e2, h.e3, h.e9, h.e14, h.e17, h.e18⟩
theorem ErrsSup.stays {ea : Nat → Addr} {w w' : World} (h : ErrsSup ea w) (hb : Below w.heap.size w w') : ErrsSup ea w' := ⟨h.e1.stays hb, h.e2.stays hb, h.e3.stays hb, h.e9.stays hb, h.e14.stays hb, h.e17.stays hb, h.e18.stays hb⟩
set_option maxRecDepth 100000 in
set_option maxHeartbeats 2000000 in
theorem swrite_any (ea : Nat → Addr) {w : World} {g gd gm : Nat} {d : Dm} (hk : Dk w g gd gm d) (s : Int) (hs1 : -9223372036854775808 ≤ s) (hs2 : s ≤ 9223372036854775807) (G Bn : Nat) (hh he : Int) (hG : G ≤ 4294967295) (hBn : Bn ≤ 4294967295) (hh1 : -9223372036854775808 ≤ hh) (hh2 : hh ≤ 9223372036854775807) (he1 : -9223372036854775808 ≤ he) (he2 : he ≤ 9223372036854775807) (hw : d.writes + 1 ≤ 1000000)
    (hE : ∀ W, Grew [g, gd, gm] w W → ErrsSup ea W) :
    Calls Tryd.prog 54 #[.pointer (some ⟨g, 0, none⟩), .int .i64 s, .agg #[.int .u32 G, .int .u32 Bn, .int .i64 hh, .int .i64 he]] w fun e w' => e = .returned (EV ea (swK d s G Bn hh he)) ∧ Dk w' g gd gm (swM d s G Bn hh he) ∧ Grew [g, gd, gm] w w' := by
  have hb0 : Below w.heap.size w (w.alloc (.cells #[.int .u32 G, .int .u32 Bn, .int .i64 hh, .int .i64 he] 51)) := (Below.refl _ _).alloc (Nat.le_refl _) _
  have HK : Hid (∀ W, Below w.heap.size w W → Dk W g gd gm d) := fun W hW => hk.stays hW
  have HE := Lib.hid hE
  have HB0 := Lib.hid hb0
  have hbad : (s < 0 ∨ 2 ≤ s ∨ blkR G Bn hh he = false) → swK d s G Bn hh he = 1 ∧ swM d s G Bn hh he = d := fun h => ⟨if_pos h, if_pos h⟩
  by_cases hsl : s < 0 ∨ 2 ≤ s
  · have HZ := Lib.hid (hbad (by omega))
    have hE1 := (hE _ (Grew.ofBelow hb0)).e1
    unfold ErrAt at hE1
    have hd := HK.out _ hb0
    have HD := Lib.hid hd
    have hpost : Hid (EV ea (swK d s G Bn hh he) = .iface 248 (.pointer (some (ea 1)))) := by show _ = _; rw [HZ.out.1]; rfl
    by_cases hs0 : s < 0
    · clear hk hE hb0 hbad hsl hd
      go_enter Tryd.func54, Tryd.ntmps54
      go_wp2_with fail
      go_ret
      exact ⟨ret1 hpost.out.symm, by rw [HZ.out.2]; exact HD.out, Grew.ofBelow HB0.out⟩
    · have hs3 : s ≥ 2 := by omega
      clear hk hE hb0 hbad hsl hd
      go_enter Tryd.func54, Tryd.ntmps54
      go_wp2_with fail
      go_ret
      exact ⟨ret1 hpost.out.symm, by rw [HZ.out.2]; exact HD.out, Grew.ofBelow HB0.out⟩
  · have hs3 : ¬ s < 0 := by omega
    have hs4 : ¬ s ≥ 2 := by omega
    cases hR : blkR G Bn hh he with
    | false =>
      have HZ := Lib.hid (hbad (.inr (.inr hR)))
      have HB := Lib.hid (sBytes_bad ea G Bn hh he (w.alloc (.cells #[.int .u32 G, .int .u32 Bn, .int .i64 hh, .int .i64 he] 51)) hR hBn hh1 hh2 he1 he2 (hE _ (Grew.ofBelow hb0)).e1)
      rw [EV_pos ea (by decide)] at HB
      clear hk hE hb0 hbad hsl hR
      go_enter Tryd.func54, Tryd.ntmps54
      go_wp2_with fail
      refine HB.out.mono ?_
      rintro e w1 ⟨rfl, hb1⟩
      have hbe1 := HB0.out.trans (hb1.mono HB0.out.size)
      go_wp2_with fail
      go_ret
      exact ⟨ret1 (by rw [HZ.out.1]; rfl), by rw [HZ.out.2]; exact HK.out _ hbe1, Grew.ofBelow hbe1⟩
    | true =>
      obtain ⟨r1, r2, r3, r4, r5, r6⟩ := blkR_true hR
      obtain ⟨h, rfl⟩ := Int.eq_ofNat_of_zero_le r3
      obtain ⟨e, rfl⟩ := Int.eq_ofNat_of_zero_le (show 0 ≤ he by omega)
      have hB := sBytes_ok G Bn h e (w.alloc (.cells #[.int .u32 G, .int .u32 Bn, .int .i64 h, .int .i64 e] 51)) hR hG
      have hgood : swK d s G Bn h e = (if writeK d s (blkS G Bn h e) ≠ 0 then writeK d s (blkS G Bn h e) else syncK (writeM d s (blkS G Bn h e))) ∧ swM d s G Bn h e = (if writeK d s (blkS G Bn h e) ≠ 0 then d else syncM (writeM d s (blkS G Bn h e))) := by
        have hn : ¬ (s < 0 ∨ 2 ≤ s ∨ blkR G Bn h e = false) := by rw [hR]; simp; omega
        exact ⟨if_neg hn, if_neg hn⟩
      have hXl := blkS_len G Bn h e
      have hXe : sealed (blkH G Bn h e) = blkS G Bn h e := rfl
      rw [hXe] at hB
      obtain ⟨X, hX⟩ : ∃ X, X = blkS G Bn h e := ⟨_, rfl⟩
      rw [← hX] at hB hgood hXl
      have HB := Lib.hid hB
      have HGD := Lib.hid hgood
      have HXL := Lib.hid hXl
      clear hk hE hb0 hbad hsl hR hB hgood hXl hX hXe
      go_enter Tryd.func54, Tryd.ntmps54
      go_wp2_with fail
      refine HB.out.mono ?_
      rintro e' w1 ⟨v1, rfl, ho1, hb1⟩
      have hbe1 := HB0.out.trans (hb1.mono HB0.out.size)
      have hE1 := HE.out w1 (Grew.ofBelow hbe1)
      have hW := write_any ea (HK.out w1 hbe1) (x := s) hs1 hs2 v1 X ho1.row (by rw [HXL.out]; decide) hw hE1.e1 hE1.e3 hE1.e17
      have HBE := Lib.hid hbe1
      clear ho1 hb1 hbe1 hE1 HB
      by_cases hw0 : writeK d s X = 0
      · rw [hw0, EV_zero] at hW
        have HW := Lib.hid hW
        have HG2 := HGD.out
        rw [if_neg (by rw [hw0]; simp), if_neg (by rw [hw0]; simp)] at HG2
        have HG2 := Lib.hid HG2
        clear hW hw0 HGD
        go_wp2_with fail
        refine HW.out.mono ?_
        rintro e' w2 ⟨rfl, hk2, hg2⟩
        have hgr2 := (Grew.ofBelow (S := [g, gd, gm]) HBE.out).trans hg2
        have HS := Lib.hid (sync_any ea hk2 (HE.out w2 hgr2).e17)
        clear hk2 hg2 HW
        go_wp2_with fail
        refine HS.out.mono ?_
        rintro e' w3 ⟨rfl, hk3, hg3⟩
        go_wp2_with fail
        go_ret
        exact ⟨ret1 (by rw [HG2.out.1]; rfl), by rw [HG2.out.2]; exact hk3, hgr2.trans hg3⟩
      · rw [EV_pos ea hw0] at hW
        have HW := Lib.hid hW
        have HG2 := HGD.out
        rw [if_pos hw0, if_pos hw0] at HG2
        have HG2 := Lib.hid HG2
        have HN0 := Lib.hid hw0
        clear hW hw0 HGD
        go_wp2_with fail
        refine HW.out.mono ?_
        rintro e' w2 ⟨rfl, hk2, hg2⟩
        have hk2' : Dk w2 g gd gm d := by rw [writeM_bad HN0.out] at hk2; exact hk2
        go_wp2_with fail
        go_ret
        exact ⟨ret1 (by rw [HG2.out.1, EV_pos ea HN0.out]; rfl), by rw [HG2.out.2]; exact hk2', (Grew.ofBelow (S := [g, gd, gm]) HBE.out).trans hg2⟩
/-! ### which block counts -/
def bO (d : Dm) : Option Nat → Nat → Nat
  | none, _ => 0
  | some j, k => supB (getV d (j : Int)) k
def bestN (d : Dm) : Nat → Option Nat
  | 0 => none
  | k + 1 => if supK (getV d (k : Int)) = 0 ∧ bO d (bestN d k) 4 < supB (getV d (k : Int)) 4 then some k else bestN d k
def atO : Option Nat → Int
  | none => -1
  | some j => j
def chK (d : Dm) : Nat := if d.dur.length < 8 then 1 else if d.fuse = 0 then 17 else if bestN d 2 = none then 14 else 0
def chB (d : Dm) (k : Nat) : Nat := if chK d = 0 then bO d (bestN d 2) k else 0
def chS (d : Dm) : Int := if chK d = 0 then atO (bestN d 2) else 0
theorem chK_le (d : Dm) : chK d ≤ 19 := by unfold chK; split <;> (try split) <;> (try split) <;> decide
def blkV (d : Dm) : Value := .agg #[.int .u32 (chB d 4), .int .u32 (chB d 8), .int .i64 (chB d 12), .int .i64 (chB d 16)]
def Chose (ea : Nat → Addr) (d : Dm) (w : World) (e : Ending) (w' : World) : Prop := e = .returned (.tuple #[blkV d, .int .i64 (chS d), EV ea (chK d)]) ∧ Below w.heap.size w w'
theorem Chose.bad {ea : Nat → Addr} {d : Dm} {w w' : World} (k : Nat) (hk : chK d = k) (h0 : k ≠ 0) (hb : Below w.heap.size w w') : Chose ea d w (.returned (.tuple #[.agg #[.int .u32 0, .int .u32 0, .int .i64 0, .int .i64 0], .int .i64 0, .iface 248 (.pointer (some (ea k)))])) w' := by
  refine ⟨?_, hb⟩
  have hne : ¬ chK d = 0 := by rw [hk]; exact h0
  unfold blkV chB chS
  rw [if_neg hne, if_neg hne, if_neg hne, if_neg hne, if_neg hne, hk, EV_pos ea h0]; rfl
end Go.Proofs.YtgehbabcpmkgaaaDoor
