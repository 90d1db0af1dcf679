/- The reference's order of messages. -/
import Derived.Test.YtcjflglpkpkflaaGreatDoorVq
import Derived.Test.YtcjflglpkpkflaaGreatDoorWValueOrder
namespace Go.Proofs.YtcjflglpkpkflaaGreatDoor
open Go Go.RowKit
set_option linter.unusedVariables false
section
variable {n n2 : Nat} {t r t2 r2 : List UInt8} {fs fs2 : List (Int × V)} {ls ls2 : List V} {ps ps2 : List (V × V)} {fa la pa fa2 la2 pa2 : Option Addr} {fc lc pc fc2 lc2 pc2 : Nat} {S S' : Nat → Prop} {w : World}
set_option maxRecDepth 100000 in
set_option maxHeartbeats 16000000 in
theorem rcmp3_any {k : Int} (hk : k = 3) (ihf : ∀ p ∈ fs, RCmpC p.2) (hr : Rep S w (.mk k n t fs r ls ps) ⟨fa, fc, la, lc, pa, pc⟩) (hr' : Rep S' w (.mk k n2 t2 fs2 r2 ls2 ps2) ⟨fa2, fc2, la2, lc2, pa2, pc2⟩) :
    Calls Tryz.prog 43 #[.agg #[.int .i64 k, .int .u64 (n : Int), .string (strB t), .slice fa fs.length fc, .string (strB r), .slice la ls.length lc, .slice pa ps.length pc], .agg #[.int .i64 k, .int .u64 (n2 : Int), .string (strB t2), .slice fa2 fs2.length fc2, .string (strB r2), .slice la2 ls2.length lc2, .slice pa2 ps2.length pc2]] w
      fun e w' => e = .returned (.int .i64 (orI (cmpF fs fs2) (cmpB r r2))) ∧ Below w.heap.size w w' := by
  subst hk
  obtain ⟨-, -, hfl, hll, hpl⟩ := hr.bds
  obtain ⟨-, -, hfl2, hll2, hpl2⟩ := hr'.bds
  unfold maxLen at hfl hfl2 hll hll2 hpl hpl2
  obtain ⟨W0, hW0⟩ : ∃ W0, W0 = (w.alloc (.cells #[.int .i64 3, .int .u64 (n : Int), .string (strB t), .slice fa fs.length fc, .string (strB r), .slice la ls.length lc, .slice pa ps.length pc] 47)).alloc (.cells #[.int .i64 3, .int .u64 (n2 : Int), .string (strB t2), .slice fa2 fs2.length fc2, .string (strB r2), .slice la2 ls2.length lc2, .slice pa2 ps2.length pc2] 47) := ⟨_, rfl⟩
  have HBA : Hid (Below w.heap.size w W0) := by rw [hW0]; exact ((Below.refl _ _).alloc (Nat.le_refl _) _).alloc (by simp) _
  have hcx : CellsAt W0 w.heap.size 47 #[.int .i64 3, .int .u64 (n : Int), .string (strB t), .slice fa fs.length fc, .string (strB r), .slice la ls.length lc, .slice pa ps.length pc] := by rw [hW0]; exact (CellsAt.new w _ _).stays ((Below.refl _ _).alloc (Nat.le_refl _) _)
  have hcy : CellsAt W0 (w.heap.size + 1) 47 #[.int .i64 3, .int .u64 (n2 : Int), .string (strB t2), .slice fa2 fs2.length fc2, .string (strB r2), .slice la2 ls2.length lc2, .slice pa2 ps2.length pc2] := by
    have := CellsAt.new (w.alloc (.cells #[.int .i64 3, .int .u64 (n : Int), .string (strB t), .slice fa fs.length fc, .string (strB r), .slice la ls.length lc, .slice pa ps.length pc] 47)) #[.int .i64 3, .int .u64 (n2 : Int), .string (strB t2), .slice fa2 fs2.length fc2, .string (strB r2), .slice la2 ls2.length lc2, .slice pa2 ps2.length pc2] 47
    rw [show (w.alloc (.cells #[.int .i64 3, .int .u64 (n : Int), .string (strB t), .slice fa fs.length fc, .string (strB r), .slice la ls.length lc, .slice pa ps.length pc] 47)).heap.size = w.heap.size + 1 by simp] at this
    rw [hW0]; exact this
  obtain ⟨g, hg⟩ : ∃ g, g = w.heap.size := ⟨_, rfl⟩
  rw [← hg] at hcx hcy
  have HX : Hid (∀ W, Below W0.heap.size W0 W → CellsAt W g 47 #[.int .i64 3, .int .u64 (n : Int), .string (strB t), .slice fa fs.length fc, .string (strB r), .slice la ls.length lc, .slice pa ps.length pc] ∧ CellsAt W (g + 1) 47 #[.int .i64 3, .int .u64 (n2 : Int), .string (strB t2), .slice fa2 fs2.length fc2, .string (strB r2), .slice la2 ls2.length lc2, .slice pa2 ps2.length pc2]) := fun W hb => ⟨hcx.stays hb, hcy.stays hb⟩
  have HR : Hid (∀ W, Below W0.heap.size W0 W → Rep S W (.mk 3 n t fs r ls ps) ⟨fa, fc, la, lc, pa, pc⟩ ∧ Rep S' W (.mk 3 n2 t2 fs2 r2 ls2 ps2) ⟨fa2, fc2, la2, lc2, pa2, pc2⟩ ∧ Below w.heap.size w W) := fun W hb => by
    have hbW := HBA.out.trans (hb.mono HBA.out.size)
    exact ⟨hr.stays hbW, hr'.stays hbW, hbW⟩
  have IHF := Lib.hid ihf
  have HW := Lib.hid hW0
  have HG := Lib.hid hg
  clear hr hr' ihf hW0 hg hcx hcy HBA
  go_enter Tryz.func43, Tryz.ntmps43
  go_wp2_with fail
  have hW0 := HW.out
  have hg := HG.out
  rw [← hW0, ← hg]
  clear hW0 hg HW HG
  go_loopw [5] (fun i wr => ∃ m : Nat, m ≤ fs.length ∧ m ≤ fs2.length ∧ i = .int .i64 m ∧ Hid (cmpF (fs.drop m) (fs2.drop m) = cmpF fs fs2) ∧ Below W0.heap.size W0 wr) (fun i _ => fs.length - (intOf i).toNat)
  case atStart => exact ⟨0, Nat.zero_le _, Nat.zero_le _, rfl, rfl, Below.refl _ _⟩
  case round =>
    obtain ⟨m, hm, hm2, rfl, HI, hbe⟩ := hrel
    obtain ⟨hcx, hcy⟩ := HX.out wr hbe
    have x3 := hcx.cell 3 (v := .slice fa fs.length fc) rfl
    have y3 := hcy.cell 3 (v := .slice fa2 fs2.length fc2) rfl
    have im0 : (0 : Int) ≤ (m : Int) := by omega
    by_cases h12 : m < fs.length ∧ m < fs2.length
    · obtain ⟨h1, h2⟩ := h12
      obtain ⟨⟨num, ⟨k', n', t', fs', r', ls', ps'⟩⟩, hq⟩ : ∃ p, fs[m]? = some p := ⟨_, List.getElem?_eq_getElem h1⟩
      obtain ⟨⟨num3, ⟨k3, n3, t3, fs3, r3, ls3, ps3⟩⟩, hq2⟩ : ∃ p, fs2[m]? = some p := ⟨_, List.getElem?_eq_getElem h2⟩
      obtain ⟨hR1, hR2, -⟩ := HR.out wr hbe
      obtain ⟨b, o, fa', la', pa', fc', lc', pc', rfl, hnum, hrx, c0, c1, c2, c3, c4, c5, c6, c7⟩ := hR1.fieldAt hq
      obtain ⟨b3, o3, fa3, la3, pa3, fc3, lc3, pc3, rfl, hnum3, hry, e0, e1, e2, e3, e4, e5, e6, e7⟩ := hR2.fieldAt hq2
      have HL2 : Hid (orI (orI (sgnI num num3) (cmpV (.mk k' n' t' fs' r' ls' ps') (.mk k3 n3 t3 fs3 r3 ls3 ps3))) (cmpF (fs.drop (m + 1)) (fs2.drop (m + 1))) = cmpF fs fs2) := by show _ = _; rw [← HI.out, drop_fields hq, drop_fields hq2, cmpF]
      have im1 : (m : Int) < (fs.length : Int) := by omega
      have im2 : (m : Int) < (fs2.length : Int) := by omega
      have HFW := Lib.hid ((HR.out wr hbe).2.2)
      by_cases t1 : num < num3
      · have HZ : Hid (-1 = orI (cmpF fs fs2) (cmpB r r2)) := by
          show _ = _
          rw [← HL2.out, show sgnI num num3 = -1 by unfold sgnI; rw [if_pos t1]]
          rfl
        clear HL2 HI hrx hry hq hq2 hR1 hR2 hcx hcy hbe
        go_wp2_with fail
        go_quiet (fail)
        go_wp2_with fail
        go_ret
        exact ⟨congrArg (fun z => Ending.returned (Value.int .i64 z)) HZ.out, below_drewV _ HFW.out⟩
      · by_cases t2' : num3 < num
        · have HZ : Hid (1 = orI (cmpF fs fs2) (cmpB r r2)) := by
            show _ = _
            rw [← HL2.out, show sgnI num num3 = 1 by unfold sgnI; rw [if_neg (by omega), if_pos t2']]
            rfl
          clear HL2 HI hrx hry hq hq2 hR1 hR2 hcx hcy hbe
          go_wp2_with fail
          go_quiet (fail)
          go_wp2_with fail
          go_quiet (fail)
          go_wp2_with fail
          go_ret
          exact ⟨congrArg (fun z => Ending.returned (Value.int .i64 z)) HZ.out, below_drewV _ (below_drewV _ HFW.out)⟩
        · obtain rfl : num = num3 := by omega
          clear HI hcx hcy
          have HC : Hid (∀ W, Below wr.heap.size wr W → Calls _ _ _ W _) := fun W hb => RCmpC.lit (IHF.out _ (List.mem_of_getElem? hq)) (hrx.stays hb) (hry.stays hb)
          have HL3 : Hid (orI (cmpV (.mk k' n' t' fs' r' ls' ps') (.mk k3 n3 t3 fs3 r3 ls3 ps3)) (cmpF (fs.drop (m + 1)) (fs2.drop (m + 1))) = cmpF fs fs2) := by
            have := HL2.out
            rw [show sgnI num num = 0 from sgnI_zero.2 rfl] at this
            exact this
          generalize cmpV (.mk k' n' t' fs' r' ls' ps') (.mk k3 n3 t3 fs3 r3 ls3 ps3) = C at HC HL3
          have HBE := Lib.hid hbe
          clear HL2 hrx hry hq hq2 hR1 hR2 hbe
          go_wp2_with fail
          go_quiet (fail)
          generalize nq = N1
          go_wp2_with fail
          go_quiet (fail)
          go_wp2_with fail
          obtain ⟨wq, hwq⟩ : ∃ W, W = (wr.drewN N1).drewN nq := ⟨_, rfl⟩
          have hbq : Below wr.heap.size wr wq := by rw [hwq]; exact below_drewV _ (below_drewV _ (Below.refl _ _))
          rw [← hwq]
          have hlb : b < wr.heap.size := World.block_lt_of_cell? wr _ c1
          have hlb3 : b3 < wr.heap.size := World.block_lt_of_cell? wr _ e1
          have HS : Hid (∀ W, Below wq.heap.size wq W → Below wq.heap.size wq W ∧ W.cell? ⟨g, 3, none⟩ = some (.slice (some ⟨b, o, none⟩) fs.length fc) ∧ W.cell? ⟨g + 1, 3, none⟩ = some (.slice (some ⟨b3, o3, none⟩) fs2.length fc2) ∧ W.cell? ⟨b, o + m * 8 + 1, none⟩ = some (.int .i64 k') ∧ W.cell? ⟨b, o + m * 8 + 2, none⟩ = some (.int .u64 (n' : Int)) ∧ W.cell? ⟨b, o + m * 8 + 3, none⟩ = some (.string (strB t')) ∧ W.cell? ⟨b, o + m * 8 + 4, none⟩ = some (.slice fa' fs'.length fc') ∧ W.cell? ⟨b, o + m * 8 + 5, none⟩ = some (.string (strB r')) ∧ W.cell? ⟨b, o + m * 8 + 6, none⟩ = some (.slice la' ls'.length lc') ∧ W.cell? ⟨b, o + m * 8 + 7, none⟩ = some (.slice pa' ps'.length pc') ∧ W.cell? ⟨b3, o3 + m * 8 + 1, none⟩ = some (.int .i64 k3) ∧ W.cell? ⟨b3, o3 + m * 8 + 2, none⟩ = some (.int .u64 (n3 : Int)) ∧ W.cell? ⟨b3, o3 + m * 8 + 3, none⟩ = some (.string (strB t3)) ∧ W.cell? ⟨b3, o3 + m * 8 + 4, none⟩ = some (.slice fa3 fs3.length fc3) ∧ W.cell? ⟨b3, o3 + m * 8 + 5, none⟩ = some (.string (strB r3)) ∧ W.cell? ⟨b3, o3 + m * 8 + 6, none⟩ = some (.slice la3 ls3.length lc3) ∧ W.cell? ⟨b3, o3 + m * 8 + 7, none⟩ = some (.slice pa3 ps3.length pc3)) := fun W hb => by
            have hbw := hbq.trans (hb.mono hbq.size)
            obtain ⟨hcx, hcy⟩ := HX.out W (HBE.out.trans (hbw.mono HBE.out.size))
            exact ⟨hb, hcx.cell 3 rfl, hcy.cell 3 rfl, later1 c1 hlb hbw, later1 c2 hlb hbw, later1 c3 hlb hbw, later1 c4 hlb hbw, later1 c5 hlb hbw, later1 c6 hlb hbw, later1 c7 hlb hbw, later1 e1 hlb3 hbw, later1 e2 hlb3 hbw, later1 e3 hlb3 hbw, later1 e4 hlb3 hbw, later1 e5 hlb3 hbw, later1 e6 hlb3 hbw, later1 e7 hlb3 hbw⟩
          have HC1 : Hid (∀ W, Below wq.heap.size wq W → Calls Tryz.prog 43 #[.agg #[.int .i64 k', .int .u64 (n' : Int), .string (strB t'), .slice fa' fs'.length fc', .string (strB r'), .slice la' ls'.length lc', .slice pa' ps'.length pc'], .agg #[.int .i64 k3, .int .u64 (n3 : Int), .string (strB t3), .slice fa3 fs3.length fc3, .string (strB r3), .slice la3 ls3.length lc3, .slice pa3 ps3.length pc3]] W fun e w' => e = .returned (.int .i64 C) ∧ Below W.heap.size W w') := fun W hb => HC.out W (hbq.trans (hb.mono hbq.size))
          have HBQ : Hid (Below W0.heap.size W0 wq) := HBE.out.trans (hbq.mono HBE.out.size)
          have hd0 : Below wq.heap.size wq wq := Below.refl _ _
          have hd1 : Below wq.heap.size wq wq.drew := hd0.drew
          clear hwq hbq c0 c1 c2 c3 c4 c5 c6 c7 e0 e1 e2 e3 e4 e5 e6 e7 x3 y3 HC HBE HFW
          go_region_held3 (fun W => Below wq.heap.size wq W ∧ W.cell? ⟨g, 3, none⟩ = some (.slice (some ⟨b, o, none⟩) fs.length fc) ∧ W.cell? ⟨g + 1, 3, none⟩ = some (.slice (some ⟨b3, o3, none⟩) fs2.length fc2) ∧ W.cell? ⟨b, o + m * 8 + 1, none⟩ = some (.int .i64 k') ∧ W.cell? ⟨b, o + m * 8 + 2, none⟩ = some (.int .u64 (n' : Int)) ∧ W.cell? ⟨b, o + m * 8 + 3, none⟩ = some (.string (strB t')) ∧ W.cell? ⟨b, o + m * 8 + 4, none⟩ = some (.slice fa' fs'.length fc') ∧ W.cell? ⟨b, o + m * 8 + 5, none⟩ = some (.string (strB r')) ∧ W.cell? ⟨b, o + m * 8 + 6, none⟩ = some (.slice la' ls'.length lc') ∧ W.cell? ⟨b, o + m * 8 + 7, none⟩ = some (.slice pa' ps'.length pc') ∧ W.cell? ⟨b3, o3 + m * 8 + 1, none⟩ = some (.int .i64 k3) ∧ W.cell? ⟨b3, o3 + m * 8 + 2, none⟩ = some (.int .u64 (n3 : Int)) ∧ W.cell? ⟨b3, o3 + m * 8 + 3, none⟩ = some (.string (strB t3)) ∧ W.cell? ⟨b3, o3 + m * 8 + 4, none⟩ = some (.slice fa3 fs3.length fc3) ∧ W.cell? ⟨b3, o3 + m * 8 + 5, none⟩ = some (.string (strB r3)) ∧ W.cell? ⟨b3, o3 + m * 8 + 6, none⟩ = some (.slice la3 ls3.length lc3) ∧ W.cell? ⟨b3, o3 + m * 8 + 7, none⟩ = some (.slice pa3 ps3.length pc3))
            (exact HS.out _ (by assumption))
            ((first
              | (go_at_call 43; (with_reducible refine (HC1.out _ (by assumption)).mono ?_); rintro e w6 ⟨rfl, hb6⟩; have hb7 := hd1.trans (hb6.mono hd1.size))))
          have hbe6 : Below W0.heap.size W0 w6 := HBQ.out.trans (hb7.mono HBQ.out.size)
          have HFF := Lib.hid ((HR.out w6 hbe6).2.2)
          clear HS HC1 HBQ hd0 hd1 hb6 hb7
          by_cases hC : C = 0
          · subst hC
            go_wp2_with fail
            go_roundw
            case rel => exact ⟨m + 1, h1, h2, by go_num, HL3, hbe6⟩
            case measure => simp only [intOf]; omega
          · have q1 : (C != 0) = true := by simpa using hC
            have HZ : Hid (C = orI (cmpF fs fs2) (cmpB r r2)) := by
              have := HL3.out
              unfold orI at this ⊢
              rw [if_neg hC] at this
              show _ = _
              rw [← this, if_neg hC]
            clear hC HL3
            go_wp2_with fail
            go_ret
            exact ⟨congrArg (fun z => Ending.returned (Value.int .i64 z)) HZ.out, HFF.out⟩
    · have HE : Hid (cmpF fs fs2 = sgnI fs.length fs2.length) := by show _ = _; rw [← HI.out, exitF hm hm2 h12]
      have x4 := hcx.cell 4 (v := .string (strB r)) rfl
      have y4 := hcy.cell 4 (v := .string (strB r2)) rfl
      have HFW := Lib.hid ((HR.out wr hbe).2.2)
      have HN : Hid (∀ W, Calls Tryz.prog 64 #[.int .u64 (fs.length : Int), .int .u64 (fs2.length : Int)] W fun e w' => e = .returned (.int .i64 (sgnI fs.length fs2.length)) ∧ W = w') := fun W => rnumbers_any _ _ W
      have HT : Hid (∀ W, Calls Tryz.prog 65 #[.string (strB r), .string (strB r2)] W fun e w' => e = .returned (.int .i64 (cmpB r r2)) ∧ W = w') := fun W => rtexts_any _ _ W
      have hcases : (m < fs.length ∧ ¬ m < fs2.length) ∨ (¬ m < fs.length) := by omega
      generalize sgnI fs.length fs2.length = D at HE HN
      clear HI hcx hcy hbe h12
      rcases hcases with ⟨h1, h2⟩ | h1
      all_goals
        go_wp2_with fail
        refine (HN.out _).mono ?_
        rintro e w2 ⟨rfl, rfl⟩
        by_cases hD : D = 0
        · subst hD
          have HZ : Hid (cmpB r r2 = orI (cmpF fs fs2) (cmpB r r2)) := by show _ = _; rw [HE.out]; rfl
          go_wp2_with fail
          refine (HT.out _).mono ?_
          rintro e w2 ⟨rfl, rfl⟩
          go_wp2_with fail
          go_ret
          exact ⟨congrArg (fun z => Ending.returned (Value.int .i64 z)) HZ.out, HFW.out⟩
        · have q1 : (D != 0) = true := by simpa using hD
          have HZ : Hid (D = orI (cmpF fs fs2) (cmpB r r2)) := by show _ = _; rw [HE.out]; unfold orI; rw [if_neg hD]
          clear hD
          go_wp2_with fail
          go_ret
          exact ⟨congrArg (fun z => Ending.returned (Value.int .i64 z)) HZ.out, HFW.out⟩
end
end Go.Proofs.YtcjflglpkpkflaaGreatDoor
