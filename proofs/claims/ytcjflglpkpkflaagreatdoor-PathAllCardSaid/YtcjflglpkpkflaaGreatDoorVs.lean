/- The reference's order of lists, of maps; Compare, Same. -/
import Derived.Test.YtcjflglpkpkflaaGreatDoorVr
namespace Go.Proofs.YtcjflglpkpkflaaGreatDoor
open Go Go.RowKit
set_option linter.unusedVariables false
section
variable {n n2 : Nat} {t r t2 r2 : List UInt8} {fs fs2 : List (Int × V)} {ls ls2 : List V} {ps ps2 : List (V × V)} {fa la pa fa2 la2 pa2 : Option Addr} {fc lc pc fc2 lc2 pc2 : Nat} {S S' : Nat → Prop} {w : World}
set_option maxRecDepth 100000 in
set_option maxHeartbeats 16000000 in
theorem rcmp4_any {k : Int} (hk : k = 4) (ihf : ∀ x ∈ ls, RCmpC x) (hr : Rep S w (.mk k n t fs r ls ps) ⟨fa, fc, la, lc, pa, pc⟩) (hr' : Rep S' w (.mk k n2 t2 fs2 r2 ls2 ps2) ⟨fa2, fc2, la2, lc2, pa2, pc2⟩) :
    Calls Tryz.prog 43 #[.agg #[.int .i64 k, .int .u64 (n : Int), .string (strB t), .slice fa fs.length fc, .string (strB r), .slice la ls.length lc, .slice pa ps.length pc], .agg #[.int .i64 k, .int .u64 (n2 : Int), .string (strB t2), .slice fa2 fs2.length fc2, .string (strB r2), .slice la2 ls2.length lc2, .slice pa2 ps2.length pc2]] w
      fun e w' => e = .returned (.int .i64 (cmpL ls ls2)) ∧ Below w.heap.size w w' := by
  subst hk
  obtain ⟨-, -, hfl, hll, hpl⟩ := hr.bds
  obtain ⟨-, -, hfl2, hll2, hpl2⟩ := hr'.bds
  unfold maxLen at hfl hfl2 hll hll2 hpl hpl2
  obtain ⟨W0, hW0⟩ : ∃ W0, W0 = (w.alloc (.cells #[.int .i64 4, .int .u64 (n : Int), .string (strB t), .slice fa fs.length fc, .string (strB r), .slice la ls.length lc, .slice pa ps.length pc] 47)).alloc (.cells #[.int .i64 4, .int .u64 (n2 : Int), .string (strB t2), .slice fa2 fs2.length fc2, .string (strB r2), .slice la2 ls2.length lc2, .slice pa2 ps2.length pc2] 47) := ⟨_, rfl⟩
  have HBA : Hid (Below w.heap.size w W0) := by rw [hW0]; exact ((Below.refl _ _).alloc (Nat.le_refl _) _).alloc (by simp) _
  have hcx : CellsAt W0 w.heap.size 47 #[.int .i64 4, .int .u64 (n : Int), .string (strB t), .slice fa fs.length fc, .string (strB r), .slice la ls.length lc, .slice pa ps.length pc] := by rw [hW0]; exact (CellsAt.new w _ _).stays ((Below.refl _ _).alloc (Nat.le_refl _) _)
  have hcy : CellsAt W0 (w.heap.size + 1) 47 #[.int .i64 4, .int .u64 (n2 : Int), .string (strB t2), .slice fa2 fs2.length fc2, .string (strB r2), .slice la2 ls2.length lc2, .slice pa2 ps2.length pc2] := by
    have := CellsAt.new (w.alloc (.cells #[.int .i64 4, .int .u64 (n : Int), .string (strB t), .slice fa fs.length fc, .string (strB r), .slice la ls.length lc, .slice pa ps.length pc] 47)) #[.int .i64 4, .int .u64 (n2 : Int), .string (strB t2), .slice fa2 fs2.length fc2, .string (strB r2), .slice la2 ls2.length lc2, .slice pa2 ps2.length pc2] 47
    rw [show (w.alloc (.cells #[.int .i64 4, .int .u64 (n : Int), .string (strB t), .slice fa fs.length fc, .string (strB r), .slice la ls.length lc, .slice pa ps.length pc] 47)).heap.size = w.heap.size + 1 by simp] at this
    rw [hW0]; exact this
  obtain ⟨g, hg⟩ : ∃ g, g = w.heap.size := ⟨_, rfl⟩
  rw [← hg] at hcx hcy
  have HX : Hid (∀ W, Below W0.heap.size W0 W → CellsAt W g 47 #[.int .i64 4, .int .u64 (n : Int), .string (strB t), .slice fa fs.length fc, .string (strB r), .slice la ls.length lc, .slice pa ps.length pc] ∧ CellsAt W (g + 1) 47 #[.int .i64 4, .int .u64 (n2 : Int), .string (strB t2), .slice fa2 fs2.length fc2, .string (strB r2), .slice la2 ls2.length lc2, .slice pa2 ps2.length pc2]) := fun W hb => ⟨hcx.stays hb, hcy.stays hb⟩
  have HR : Hid (∀ W, Below W0.heap.size W0 W → Rep S W (.mk 4 n t fs r ls ps) ⟨fa, fc, la, lc, pa, pc⟩ ∧ Rep S' W (.mk 4 n2 t2 fs2 r2 ls2 ps2) ⟨fa2, fc2, la2, lc2, pa2, pc2⟩ ∧ Below w.heap.size w W) := fun W hb => by
    have hbW := HBA.out.trans (hb.mono HBA.out.size)
    exact ⟨hr.stays hbW, hr'.stays hbW, hbW⟩
  have IHF := Lib.hid ihf
  have HW := Lib.hid hW0
  have HG := Lib.hid hg
  clear hr hr' ihf hW0 hg hcx hcy HBA
  go_enter Tryz.func43, Tryz.ntmps43
  go_wp2_with fail
  have hW0 := HW.out
  have hg := HG.out
  rw [← hW0, ← hg]
  clear hW0 hg HW HG
  go_loopw [8] (fun i wr => ∃ m : Nat, m ≤ ls.length ∧ m ≤ ls2.length ∧ i = .int .i64 m ∧ Hid (cmpL (ls.drop m) (ls2.drop m) = cmpL ls ls2) ∧ Below W0.heap.size W0 wr) (fun i _ => ls.length - (intOf i).toNat)
  case atStart => exact ⟨0, Nat.zero_le _, Nat.zero_le _, rfl, rfl, Below.refl _ _⟩
  case round =>
    obtain ⟨m, hm, hm2, rfl, HI, hbe⟩ := hrel
    obtain ⟨hcx, hcy⟩ := HX.out wr hbe
    have x3 := hcx.cell 5 (v := .slice la ls.length lc) rfl
    have y3 := hcy.cell 5 (v := .slice la2 ls2.length lc2) rfl
    have im0 : (0 : Int) ≤ (m : Int) := by omega
    by_cases h12 : m < ls.length ∧ m < ls2.length
    · obtain ⟨h1, h2⟩ := h12
      obtain ⟨⟨k', n', t', fs', r', ls', ps'⟩, hq⟩ : ∃ p, ls[m]? = some p := ⟨_, List.getElem?_eq_getElem h1⟩
      obtain ⟨⟨k3, n3, t3, fs3, r3, ls3, ps3⟩, hq2⟩ : ∃ p, ls2[m]? = some p := ⟨_, List.getElem?_eq_getElem h2⟩
      obtain ⟨hR1, hR2, -⟩ := HR.out wr hbe
      obtain ⟨b, o, fa', la', pa', fc', lc', pc', rfl, hrx, c0, c1, c2, c3, c4, c5, c6⟩ := hR1.partAt hq
      obtain ⟨b3, o3, fa3, la3, pa3, fc3, lc3, pc3, rfl, hry, e0, e1, e2, e3, e4, e5, e6⟩ := hR2.partAt hq2
      have HL2 : Hid (orI (cmpV (.mk k' n' t' fs' r' ls' ps') (.mk k3 n3 t3 fs3 r3 ls3 ps3)) (cmpL (ls.drop (m + 1)) (ls2.drop (m + 1))) = cmpL ls ls2) := by show _ = _; rw [← HI.out, drop_fields hq, drop_fields hq2, cmpL]
      have HC : Hid (∀ W, Below wr.heap.size wr W → Calls _ _ _ W _) := fun W hb => RCmpC.lit (IHF.out _ (List.mem_of_getElem? hq)) (hrx.stays hb) (hry.stays hb)
      generalize cmpV (.mk k' n' t' fs' r' ls' ps') (.mk k3 n3 t3 fs3 r3 ls3 ps3) = C at HC HL2
      have im1 : (m : Int) < (ls.length : Int) := by omega
      have im2 : (m : Int) < (ls2.length : Int) := by omega
      have hlb : b < wr.heap.size := World.block_lt_of_cell? wr _ c0
      have hlb3 : b3 < wr.heap.size := World.block_lt_of_cell? wr _ e0
      have HBE := Lib.hid hbe
      have HS : Hid (∀ W, Below wr.heap.size wr W → Below wr.heap.size wr W ∧ W.cell? ⟨g, 5, none⟩ = some (.slice (some ⟨b, o, none⟩) ls.length lc) ∧ W.cell? ⟨g + 1, 5, none⟩ = some (.slice (some ⟨b3, o3, none⟩) ls2.length lc2) ∧ W.cell? ⟨b, o + m * 7, none⟩ = some (.int .i64 k') ∧ W.cell? ⟨b, o + m * 7 + 1, none⟩ = some (.int .u64 (n' : Int)) ∧ W.cell? ⟨b, o + m * 7 + 2, none⟩ = some (.string (strB t')) ∧ W.cell? ⟨b, o + m * 7 + 3, none⟩ = some (.slice fa' fs'.length fc') ∧ W.cell? ⟨b, o + m * 7 + 4, none⟩ = some (.string (strB r')) ∧ W.cell? ⟨b, o + m * 7 + 5, none⟩ = some (.slice la' ls'.length lc') ∧ W.cell? ⟨b, o + m * 7 + 6, none⟩ = some (.slice pa' ps'.length pc') ∧ W.cell? ⟨b3, o3 + m * 7, none⟩ = some (.int .i64 k3) ∧ W.cell? ⟨b3, o3 + m * 7 + 1, none⟩ = some (.int .u64 (n3 : Int)) ∧ W.cell? ⟨b3, o3 + m * 7 + 2, none⟩ = some (.string (strB t3)) ∧ W.cell? ⟨b3, o3 + m * 7 + 3, none⟩ = some (.slice fa3 fs3.length fc3) ∧ W.cell? ⟨b3, o3 + m * 7 + 4, none⟩ = some (.string (strB r3)) ∧ W.cell? ⟨b3, o3 + m * 7 + 5, none⟩ = some (.slice la3 ls3.length lc3) ∧ W.cell? ⟨b3, o3 + m * 7 + 6, none⟩ = some (.slice pa3 ps3.length pc3)) := fun W hb => by
        obtain ⟨hcx, hcy⟩ := HX.out W (HBE.out.trans (hb.mono HBE.out.size))
        exact ⟨hb, hcx.cell 5 rfl, hcy.cell 5 rfl, later1 c0 hlb hb, later1 c1 hlb hb, later1 c2 hlb hb, later1 c3 hlb hb, later1 c4 hlb hb, later1 c5 hlb hb, later1 c6 hlb hb, later1 e0 hlb3 hb, later1 e1 hlb3 hb, later1 e2 hlb3 hb, later1 e3 hlb3 hb, later1 e4 hlb3 hb, later1 e5 hlb3 hb, later1 e6 hlb3 hb⟩
      have hd0 : Below wr.heap.size wr wr := Below.refl _ _
      have hd1 : Below wr.heap.size wr wr.drew := hd0.drew
      clear HI hcx hcy hrx hry hq hq2 hR1 hR2 hbe c0 c1 c2 c3 c4 c5 c6 e0 e1 e2 e3 e4 e5 e6 x3 y3 
      obtain ⟨-, x3, y3, -⟩ := HS.out wr hd0
      go_wp2_with fail
      clear x3 y3
      go_region_held3 (fun W => Below wr.heap.size wr W ∧ W.cell? ⟨g, 5, none⟩ = some (.slice (some ⟨b, o, none⟩) ls.length lc) ∧ W.cell? ⟨g + 1, 5, none⟩ = some (.slice (some ⟨b3, o3, none⟩) ls2.length lc2) ∧ W.cell? ⟨b, o + m * 7, none⟩ = some (.int .i64 k') ∧ W.cell? ⟨b, o + m * 7 + 1, none⟩ = some (.int .u64 (n' : Int)) ∧ W.cell? ⟨b, o + m * 7 + 2, none⟩ = some (.string (strB t')) ∧ W.cell? ⟨b, o + m * 7 + 3, none⟩ = some (.slice fa' fs'.length fc') ∧ W.cell? ⟨b, o + m * 7 + 4, none⟩ = some (.string (strB r')) ∧ W.cell? ⟨b, o + m * 7 + 5, none⟩ = some (.slice la' ls'.length lc') ∧ W.cell? ⟨b, o + m * 7 + 6, none⟩ = some (.slice pa' ps'.length pc') ∧ W.cell? ⟨b3, o3 + m * 7, none⟩ = some (.int .i64 k3) ∧ W.cell? ⟨b3, o3 + m * 7 + 1, none⟩ = some (.int .u64 (n3 : Int)) ∧ W.cell? ⟨b3, o3 + m * 7 + 2, none⟩ = some (.string (strB t3)) ∧ W.cell? ⟨b3, o3 + m * 7 + 3, none⟩ = some (.slice fa3 fs3.length fc3) ∧ W.cell? ⟨b3, o3 + m * 7 + 4, none⟩ = some (.string (strB r3)) ∧ W.cell? ⟨b3, o3 + m * 7 + 5, none⟩ = some (.slice la3 ls3.length lc3) ∧ W.cell? ⟨b3, o3 + m * 7 + 6, none⟩ = some (.slice pa3 ps3.length pc3))
        (exact HS.out _ (by assumption))
        ((first
          | (go_at_call 43; (with_reducible refine (HC.out _ (by assumption)).mono ?_); rintro e w6 ⟨rfl, hb6⟩; have hb7 := hd1.trans (hb6.mono hd1.size))))
      have hbe6 : Below W0.heap.size W0 w6 := HBE.out.trans (hb7.mono HBE.out.size)
      have HFF := Lib.hid ((HR.out w6 hbe6).2.2)
      clear HS HC HBE hd0 hd1 hb6 hb7
      by_cases hC : C = 0
      · subst hC
        go_wp2_with fail
        go_roundw
        case rel => exact ⟨m + 1, h1, h2, by go_num, HL2, hbe6⟩
        case measure => simp only [intOf]; omega
      · have q1 : (C != 0) = true := by simpa using hC
        have HZ : Hid (C = cmpL ls ls2) := by have := HL2.out; unfold orI at this; rwa [if_neg hC] at this
        clear hC HL2
        go_wp2_with fail
        go_ret
        exact ⟨congrArg (fun z => Ending.returned (Value.int .i64 z)) HZ.out, HFF.out⟩
    · have HE : Hid (sgnI ls.length ls2.length = cmpL ls ls2) := by show _ = _; rw [← HI.out, exitL hm hm2 h12]
      have HFW := Lib.hid ((HR.out wr hbe).2.2)
      have HN : Hid (∀ W, Calls Tryz.prog 64 #[.int .u64 (ls.length : Int), .int .u64 (ls2.length : Int)] W fun e w' => e = .returned (.int .i64 (sgnI ls.length ls2.length)) ∧ W = w') := fun W => rnumbers_any _ _ W
      have hcases : (m < ls.length ∧ ¬ m < ls2.length) ∨ (¬ m < ls.length) := by omega
      clear HI hcx hcy hbe h12
      rcases hcases with ⟨h1, h2⟩ | h1
      all_goals
        go_wp2_with fail
        refine (HN.out _).mono ?_
        rintro e w2 ⟨rfl, rfl⟩
        go_wp2_with fail
        go_ret
        exact ⟨congrArg (fun z => Ending.returned (Value.int .i64 z)) HE.out, HFW.out⟩
set_option maxRecDepth 100000 in
set_option maxHeartbeats 16000000 in
theorem rcmp5_any {k : Int} (hk : k = 5) (ihf : ∀ p ∈ ps, RCmpC p.1 ∧ RCmpC p.2) (hr : Rep S w (.mk k n t fs r ls ps) ⟨fa, fc, la, lc, pa, pc⟩) (hr' : Rep S' w (.mk k n2 t2 fs2 r2 ls2 ps2) ⟨fa2, fc2, la2, lc2, pa2, pc2⟩) :
    Calls Tryz.prog 43 #[.agg #[.int .i64 k, .int .u64 (n : Int), .string (strB t), .slice fa fs.length fc, .string (strB r), .slice la ls.length lc, .slice pa ps.length pc], .agg #[.int .i64 k, .int .u64 (n2 : Int), .string (strB t2), .slice fa2 fs2.length fc2, .string (strB r2), .slice la2 ls2.length lc2, .slice pa2 ps2.length pc2]] w
      fun e w' => e = .returned (.int .i64 (cmpP ps ps2)) ∧ Below w.heap.size w w' := by
  subst hk
  obtain ⟨-, -, hfl, hll, hpl⟩ := hr.bds
  obtain ⟨-, -, hfl2, hll2, hpl2⟩ := hr'.bds
  unfold maxLen at hfl hfl2 hll hll2 hpl hpl2
  obtain ⟨W0, hW0⟩ : ∃ W0, W0 = (w.alloc (.cells #[.int .i64 5, .int .u64 (n : Int), .string (strB t), .slice fa fs.length fc, .string (strB r), .slice la ls.length lc, .slice pa ps.length pc] 47)).alloc (.cells #[.int .i64 5, .int .u64 (n2 : Int), .string (strB t2), .slice fa2 fs2.length fc2, .string (strB r2), .slice la2 ls2.length lc2, .slice pa2 ps2.length pc2] 47) := ⟨_, rfl⟩
  have HBA : Hid (Below w.heap.size w W0) := by rw [hW0]; exact ((Below.refl _ _).alloc (Nat.le_refl _) _).alloc (by simp) _
  have hcx : CellsAt W0 w.heap.size 47 #[.int .i64 5, .int .u64 (n : Int), .string (strB t), .slice fa fs.length fc, .string (strB r), .slice la ls.length lc, .slice pa ps.length pc] := by rw [hW0]; exact (CellsAt.new w _ _).stays ((Below.refl _ _).alloc (Nat.le_refl _) _)
  have hcy : CellsAt W0 (w.heap.size + 1) 47 #[.int .i64 5, .int .u64 (n2 : Int), .string (strB t2), .slice fa2 fs2.length fc2, .string (strB r2), .slice la2 ls2.length lc2, .slice pa2 ps2.length pc2] := by
    have := CellsAt.new (w.alloc (.cells #[.int .i64 5, .int .u64 (n : Int), .string (strB t), .slice fa fs.length fc, .string (strB r), .slice la ls.length lc, .slice pa ps.length pc] 47)) #[.int .i64 5, .int .u64 (n2 : Int), .string (strB t2), .slice fa2 fs2.length fc2, .string (strB r2), .slice la2 ls2.length lc2, .slice pa2 ps2.length pc2] 47
    rw [show (w.alloc (.cells #[.int .i64 5, .int .u64 (n : Int), .string (strB t), .slice fa fs.length fc, .string (strB r), .slice la ls.length lc, .slice pa ps.length pc] 47)).heap.size = w.heap.size + 1 by simp] at this
    rw [hW0]; exact this
  obtain ⟨g, hg⟩ : ∃ g, g = w.heap.size := ⟨_, rfl⟩
  rw [← hg] at hcx hcy
  have HX : Hid (∀ W, Below W0.heap.size W0 W → CellsAt W g 47 #[.int .i64 5, .int .u64 (n : Int), .string (strB t), .slice fa fs.length fc, .string (strB r), .slice la ls.length lc, .slice pa ps.length pc] ∧ CellsAt W (g + 1) 47 #[.int .i64 5, .int .u64 (n2 : Int), .string (strB t2), .slice fa2 fs2.length fc2, .string (strB r2), .slice la2 ls2.length lc2, .slice pa2 ps2.length pc2]) := fun W hb => ⟨hcx.stays hb, hcy.stays hb⟩
  have HR : Hid (∀ W, Below W0.heap.size W0 W → Rep S W (.mk 5 n t fs r ls ps) ⟨fa, fc, la, lc, pa, pc⟩ ∧ Rep S' W (.mk 5 n2 t2 fs2 r2 ls2 ps2) ⟨fa2, fc2, la2, lc2, pa2, pc2⟩ ∧ Below w.heap.size w W) := fun W hb => by
    have hbW := HBA.out.trans (hb.mono HBA.out.size)
    exact ⟨hr.stays hbW, hr'.stays hbW, hbW⟩
  have IHF := Lib.hid ihf
  have HW := Lib.hid hW0
  have HG := Lib.hid hg
  clear hr hr' ihf hW0 hg hcx hcy HBA
  go_enter Tryz.func43, Tryz.ntmps43
  go_wp2_with fail
  have hW0 := HW.out
  have hg := HG.out
  rw [← hW0, ← hg]
  clear hW0 hg HW HG
  go_loopw [10] (fun i wr => ∃ m : Nat, m ≤ ps.length ∧ m ≤ ps2.length ∧ i = .int .i64 m ∧ Hid (cmpP (ps.drop m) (ps2.drop m) = cmpP ps ps2) ∧ Below W0.heap.size W0 wr) (fun i _ => ps.length - (intOf i).toNat)
  case atStart => exact ⟨0, Nat.zero_le _, Nat.zero_le _, rfl, rfl, Below.refl _ _⟩
  case round =>
    obtain ⟨m, hm, hm2, rfl, HI, hbe⟩ := hrel
    obtain ⟨hcx, hcy⟩ := HX.out wr hbe
    have x3 := hcx.cell 6 (v := .slice pa ps.length pc) rfl
    have y3 := hcy.cell 6 (v := .slice pa2 ps2.length pc2) rfl
    have im0 : (0 : Int) ≤ (m : Int) := by omega
    by_cases h12 : m < ps.length ∧ m < ps2.length
    · obtain ⟨h1, h2⟩ := h12
      obtain ⟨⟨⟨k', n', t', fs', r', ls', ps'⟩, ⟨k4, n4, t4, fs4, r4, ls4, ps4⟩⟩, hq⟩ : ∃ p, ps[m]? = some p := ⟨_, List.getElem?_eq_getElem h1⟩
      obtain ⟨⟨⟨k3, n3, t3, fs3, r3, ls3, ps3⟩, ⟨k5, n5, t5, fs5, r5, ls5, ps5⟩⟩, hq2⟩ : ∃ p, ps2[m]? = some p := ⟨_, List.getElem?_eq_getElem h2⟩
      obtain ⟨hR1, hR2, -⟩ := HR.out wr hbe
      obtain ⟨b, o, fa', la', pa', fc', lc', pc', fa4, la4, pa4, fc4, lc4, pc4, rfl, hrx, hrz, c0, c1, c2, c3, c4, c5, c6, c7, c8, c9, c10, c11, c12, c13⟩ := hR1.pairAt hq
      obtain ⟨b3, o3, fa3, la3, pa3, fc3, lc3, pc3, fa5, la5, pa5, fc5, lc5, pc5, rfl, hry, hru, e0, e1, e2, e3, e4, e5, e6, e7, e8, e9, e10, e11, e12, e13⟩ := hR2.pairAt hq2
      have HL2 : Hid (orI (orI (cmpV (.mk k' n' t' fs' r' ls' ps') (.mk k3 n3 t3 fs3 r3 ls3 ps3)) (cmpV (.mk k4 n4 t4 fs4 r4 ls4 ps4) (.mk k5 n5 t5 fs5 r5 ls5 ps5))) (cmpP (ps.drop (m + 1)) (ps2.drop (m + 1))) = cmpP ps ps2) := by show _ = _; rw [← HI.out, drop_fields hq, drop_fields hq2, cmpP]
      have HC : Hid (∀ W, Below wr.heap.size wr W → Calls _ _ _ W _) := fun W hb => RCmpC.lit (IHF.out _ (List.mem_of_getElem? hq)).1 (hrx.stays hb) (hry.stays hb)
      have HD : Hid (∀ W, Below wr.heap.size wr W → Calls _ _ _ W _) := fun W hb => RCmpC.lit (IHF.out _ (List.mem_of_getElem? hq)).2 (hrz.stays hb) (hru.stays hb)
      generalize cmpV (.mk k' n' t' fs' r' ls' ps') (.mk k3 n3 t3 fs3 r3 ls3 ps3) = C at HC HL2
      generalize cmpV (.mk k4 n4 t4 fs4 r4 ls4 ps4) (.mk k5 n5 t5 fs5 r5 ls5 ps5) = D at HD HL2
      have im1 : (m : Int) < (ps.length : Int) := by omega
      have im2 : (m : Int) < (ps2.length : Int) := by omega
      have hlb : b < wr.heap.size := World.block_lt_of_cell? wr _ c0
      have hlb3 : b3 < wr.heap.size := World.block_lt_of_cell? wr _ e0
      have HBE := Lib.hid hbe
      have HS : Hid (∀ W, Below wr.heap.size wr W → Below wr.heap.size wr W ∧ W.cell? ⟨g, 6, none⟩ = some (.slice (some ⟨b, o, none⟩) ps.length pc) ∧ W.cell? ⟨g + 1, 6, none⟩ = some (.slice (some ⟨b3, o3, none⟩) ps2.length pc2) ∧ W.cell? ⟨b, o + m * 14, none⟩ = some (.int .i64 k') ∧ W.cell? ⟨b, o + m * 14 + 1, none⟩ = some (.int .u64 (n' : Int)) ∧ W.cell? ⟨b, o + m * 14 + 2, none⟩ = some (.string (strB t')) ∧ W.cell? ⟨b, o + m * 14 + 3, none⟩ = some (.slice fa' fs'.length fc') ∧ W.cell? ⟨b, o + m * 14 + 4, none⟩ = some (.string (strB r')) ∧ W.cell? ⟨b, o + m * 14 + 5, none⟩ = some (.slice la' ls'.length lc') ∧ W.cell? ⟨b, o + m * 14 + 6, none⟩ = some (.slice pa' ps'.length pc') ∧ W.cell? ⟨b, o + m * 14 + 7, none⟩ = some (.int .i64 k4) ∧ W.cell? ⟨b, o + m * 14 + 8, none⟩ = some (.int .u64 (n4 : Int)) ∧ W.cell? ⟨b, o + m * 14 + 9, none⟩ = some (.string (strB t4)) ∧ W.cell? ⟨b, o + m * 14 + 10, none⟩ = some (.slice fa4 fs4.length fc4) ∧ W.cell? ⟨b, o + m * 14 + 11, none⟩ = some (.string (strB r4)) ∧ W.cell? ⟨b, o + m * 14 + 12, none⟩ = some (.slice la4 ls4.length lc4) ∧ W.cell? ⟨b, o + m * 14 + 13, none⟩ = some (.slice pa4 ps4.length pc4) ∧ W.cell? ⟨b3, o3 + m * 14, none⟩ = some (.int .i64 k3) ∧ W.cell? ⟨b3, o3 + m * 14 + 1, none⟩ = some (.int .u64 (n3 : Int)) ∧ W.cell? ⟨b3, o3 + m * 14 + 2, none⟩ = some (.string (strB t3)) ∧ W.cell? ⟨b3, o3 + m * 14 + 3, none⟩ = some (.slice fa3 fs3.length fc3) ∧ W.cell? ⟨b3, o3 + m * 14 + 4, none⟩ = some (.string (strB r3)) ∧ W.cell? ⟨b3, o3 + m * 14 + 5, none⟩ = some (.slice la3 ls3.length lc3) ∧ W.cell? ⟨b3, o3 + m * 14 + 6, none⟩ = some (.slice pa3 ps3.length pc3) ∧ W.cell? ⟨b3, o3 + m * 14 + 7, none⟩ = some (.int .i64 k5) ∧ W.cell? ⟨b3, o3 + m * 14 + 8, none⟩ = some (.int .u64 (n5 : Int)) ∧ W.cell? ⟨b3, o3 + m * 14 + 9, none⟩ = some (.string (strB t5)) ∧ W.cell? ⟨b3, o3 + m * 14 + 10, none⟩ = some (.slice fa5 fs5.length fc5) ∧ W.cell? ⟨b3, o3 + m * 14 + 11, none⟩ = some (.string (strB r5)) ∧ W.cell? ⟨b3, o3 + m * 14 + 12, none⟩ = some (.slice la5 ls5.length lc5) ∧ W.cell? ⟨b3, o3 + m * 14 + 13, none⟩ = some (.slice pa5 ps5.length pc5)) := fun W hb => by
        obtain ⟨hcx, hcy⟩ := HX.out W (HBE.out.trans (hb.mono HBE.out.size))
        exact ⟨hb, hcx.cell 6 rfl, hcy.cell 6 rfl, later1 c0 hlb hb, later1 c1 hlb hb, later1 c2 hlb hb, later1 c3 hlb hb, later1 c4 hlb hb, later1 c5 hlb hb, later1 c6 hlb hb, later1 c7 hlb hb, later1 c8 hlb hb, later1 c9 hlb hb, later1 c10 hlb hb, later1 c11 hlb hb, later1 c12 hlb hb, later1 c13 hlb hb, later1 e0 hlb3 hb, later1 e1 hlb3 hb, later1 e2 hlb3 hb, later1 e3 hlb3 hb, later1 e4 hlb3 hb, later1 e5 hlb3 hb, later1 e6 hlb3 hb, later1 e7 hlb3 hb, later1 e8 hlb3 hb, later1 e9 hlb3 hb, later1 e10 hlb3 hb, later1 e11 hlb3 hb, later1 e12 hlb3 hb, later1 e13 hlb3 hb⟩
      have hd0 : Below wr.heap.size wr wr := Below.refl _ _
      have hd1 : Below wr.heap.size wr wr.drew := hd0.drew
      clear HI hcx hcy hrx hry hq hq2 hR1 hR2 hbe c0 c1 c2 c3 c4 c5 c6 c7 c8 c9 c10 c11 c12 c13 e0 e1 e2 e3 e4 e5 e6 e7 e8 e9 e10 e11 e12 e13 x3 y3 hrz hru
      obtain ⟨-, x3, y3, -⟩ := HS.out wr hd0
      go_wp2_with fail
      clear x3 y3
      go_region_held3 (fun W => Below wr.heap.size wr W ∧ W.cell? ⟨g, 6, none⟩ = some (.slice (some ⟨b, o, none⟩) ps.length pc) ∧ W.cell? ⟨g + 1, 6, none⟩ = some (.slice (some ⟨b3, o3, none⟩) ps2.length pc2) ∧ W.cell? ⟨b, o + m * 14, none⟩ = some (.int .i64 k') ∧ W.cell? ⟨b, o + m * 14 + 1, none⟩ = some (.int .u64 (n' : Int)) ∧ W.cell? ⟨b, o + m * 14 + 2, none⟩ = some (.string (strB t')) ∧ W.cell? ⟨b, o + m * 14 + 3, none⟩ = some (.slice fa' fs'.length fc') ∧ W.cell? ⟨b, o + m * 14 + 4, none⟩ = some (.string (strB r')) ∧ W.cell? ⟨b, o + m * 14 + 5, none⟩ = some (.slice la' ls'.length lc') ∧ W.cell? ⟨b, o + m * 14 + 6, none⟩ = some (.slice pa' ps'.length pc') ∧ W.cell? ⟨b, o + m * 14 + 7, none⟩ = some (.int .i64 k4) ∧ W.cell? ⟨b, o + m * 14 + 8, none⟩ = some (.int .u64 (n4 : Int)) ∧ W.cell? ⟨b, o + m * 14 + 9, none⟩ = some (.string (strB t4)) ∧ W.cell? ⟨b, o + m * 14 + 10, none⟩ = some (.slice fa4 fs4.length fc4) ∧ W.cell? ⟨b, o + m * 14 + 11, none⟩ = some (.string (strB r4)) ∧ W.cell? ⟨b, o + m * 14 + 12, none⟩ = some (.slice la4 ls4.length lc4) ∧ W.cell? ⟨b, o + m * 14 + 13, none⟩ = some (.slice pa4 ps4.length pc4) ∧ W.cell? ⟨b3, o3 + m * 14, none⟩ = some (.int .i64 k3) ∧ W.cell? ⟨b3, o3 + m * 14 + 1, none⟩ = some (.int .u64 (n3 : Int)) ∧ W.cell? ⟨b3, o3 + m * 14 + 2, none⟩ = some (.string (strB t3)) ∧ W.cell? ⟨b3, o3 + m * 14 + 3, none⟩ = some (.slice fa3 fs3.length fc3) ∧ W.cell? ⟨b3, o3 + m * 14 + 4, none⟩ = some (.string (strB r3)) ∧ W.cell? ⟨b3, o3 + m * 14 + 5, none⟩ = some (.slice la3 ls3.length lc3) ∧ W.cell? ⟨b3, o3 + m * 14 + 6, none⟩ = some (.slice pa3 ps3.length pc3) ∧ W.cell? ⟨b3, o3 + m * 14 + 7, none⟩ = some (.int .i64 k5) ∧ W.cell? ⟨b3, o3 + m * 14 + 8, none⟩ = some (.int .u64 (n5 : Int)) ∧ W.cell? ⟨b3, o3 + m * 14 + 9, none⟩ = some (.string (strB t5)) ∧ W.cell? ⟨b3, o3 + m * 14 + 10, none⟩ = some (.slice fa5 fs5.length fc5) ∧ W.cell? ⟨b3, o3 + m * 14 + 11, none⟩ = some (.string (strB r5)) ∧ W.cell? ⟨b3, o3 + m * 14 + 12, none⟩ = some (.slice la5 ls5.length lc5) ∧ W.cell? ⟨b3, o3 + m * 14 + 13, none⟩ = some (.slice pa5 ps5.length pc5))
        (exact HS.out _ (by assumption))
        ((first
          | (go_at_call 43; (with_reducible refine (HC.out _ (by assumption)).mono ?_); rintro e w6 ⟨rfl, hb6⟩; have hb7 := hd1.trans (hb6.mono hd1.size))))
      have hbe6 : Below W0.heap.size W0 w6 := HBE.out.trans (hb7.mono HBE.out.size)
      have HFF := Lib.hid ((HR.out w6 hbe6).2.2)
      by_cases hC : C = 0
      · subst hC
        clear hd0 hd1 hb6
        have hd6 : Below wr.heap.size wr w6.drew := hb7.drew
        clear hbe6
        go_wp2_with fail
        go_region_held3 (fun W => Below wr.heap.size wr W ∧ W.cell? ⟨g, 6, none⟩ = some (.slice (some ⟨b, o, none⟩) ps.length pc) ∧ W.cell? ⟨g + 1, 6, none⟩ = some (.slice (some ⟨b3, o3, none⟩) ps2.length pc2) ∧ W.cell? ⟨b, o + m * 14, none⟩ = some (.int .i64 k') ∧ W.cell? ⟨b, o + m * 14 + 1, none⟩ = some (.int .u64 (n' : Int)) ∧ W.cell? ⟨b, o + m * 14 + 2, none⟩ = some (.string (strB t')) ∧ W.cell? ⟨b, o + m * 14 + 3, none⟩ = some (.slice fa' fs'.length fc') ∧ W.cell? ⟨b, o + m * 14 + 4, none⟩ = some (.string (strB r')) ∧ W.cell? ⟨b, o + m * 14 + 5, none⟩ = some (.slice la' ls'.length lc') ∧ W.cell? ⟨b, o + m * 14 + 6, none⟩ = some (.slice pa' ps'.length pc') ∧ W.cell? ⟨b, o + m * 14 + 7, none⟩ = some (.int .i64 k4) ∧ W.cell? ⟨b, o + m * 14 + 8, none⟩ = some (.int .u64 (n4 : Int)) ∧ W.cell? ⟨b, o + m * 14 + 9, none⟩ = some (.string (strB t4)) ∧ W.cell? ⟨b, o + m * 14 + 10, none⟩ = some (.slice fa4 fs4.length fc4) ∧ W.cell? ⟨b, o + m * 14 + 11, none⟩ = some (.string (strB r4)) ∧ W.cell? ⟨b, o + m * 14 + 12, none⟩ = some (.slice la4 ls4.length lc4) ∧ W.cell? ⟨b, o + m * 14 + 13, none⟩ = some (.slice pa4 ps4.length pc4) ∧ W.cell? ⟨b3, o3 + m * 14, none⟩ = some (.int .i64 k3) ∧ W.cell? ⟨b3, o3 + m * 14 + 1, none⟩ = some (.int .u64 (n3 : Int)) ∧ W.cell? ⟨b3, o3 + m * 14 + 2, none⟩ = some (.string (strB t3)) ∧ W.cell? ⟨b3, o3 + m * 14 + 3, none⟩ = some (.slice fa3 fs3.length fc3) ∧ W.cell? ⟨b3, o3 + m * 14 + 4, none⟩ = some (.string (strB r3)) ∧ W.cell? ⟨b3, o3 + m * 14 + 5, none⟩ = some (.slice la3 ls3.length lc3) ∧ W.cell? ⟨b3, o3 + m * 14 + 6, none⟩ = some (.slice pa3 ps3.length pc3) ∧ W.cell? ⟨b3, o3 + m * 14 + 7, none⟩ = some (.int .i64 k5) ∧ W.cell? ⟨b3, o3 + m * 14 + 8, none⟩ = some (.int .u64 (n5 : Int)) ∧ W.cell? ⟨b3, o3 + m * 14 + 9, none⟩ = some (.string (strB t5)) ∧ W.cell? ⟨b3, o3 + m * 14 + 10, none⟩ = some (.slice fa5 fs5.length fc5) ∧ W.cell? ⟨b3, o3 + m * 14 + 11, none⟩ = some (.string (strB r5)) ∧ W.cell? ⟨b3, o3 + m * 14 + 12, none⟩ = some (.slice la5 ls5.length lc5) ∧ W.cell? ⟨b3, o3 + m * 14 + 13, none⟩ = some (.slice pa5 ps5.length pc5))
          (exact HS.out _ (by assumption))
          ((first
            | (go_at_call 43; (with_reducible refine (HD.out _ (by assumption)).mono ?_); rintro e w8 ⟨rfl, hb8⟩; have hb9 := hd6.trans (hb8.mono hd6.size))))
        have hbe8 : Below W0.heap.size W0 w8 := HBE.out.trans (hb9.mono HBE.out.size)
        have HFG := Lib.hid ((HR.out w8 hbe8).2.2)
        clear HS HC HD HBE hb7 hb8 hb9 hd6 HFF
        have HL3 : Hid (orI D (cmpP (ps.drop (m + 1)) (ps2.drop (m + 1))) = cmpP ps ps2) := HL2.out
        clear HL2
        by_cases hD : D = 0
        · subst hD
          go_wp2_with fail
          go_roundw
          case rel => exact ⟨m + 1, h1, h2, by go_num, HL3, hbe8⟩
          case measure => simp only [intOf]; omega
        · have q1 : (D != 0) = true := by simpa using hD
          have HZ : Hid (D = cmpP ps ps2) := by have := HL3.out; unfold orI at this; rwa [if_neg hD] at this
          clear hD HL3
          go_wp2_with fail
          go_ret
          exact ⟨congrArg (fun z => Ending.returned (Value.int .i64 z)) HZ.out, HFG.out⟩
      · have q1 : (C != 0) = true := by simpa using hC
        have HZ : Hid (C = cmpP ps ps2) := by
          have := HL2.out
          unfold orI at this
          rw [if_neg hC, if_neg hC] at this
          exact this
        clear hC HL2 HS HC HD HBE hd0 hd1 hb6 hb7
        go_wp2_with fail
        go_ret
        exact ⟨congrArg (fun z => Ending.returned (Value.int .i64 z)) HZ.out, HFF.out⟩
    · have HE : Hid (sgnI ps.length ps2.length = cmpP ps ps2) := by show _ = _; rw [← HI.out, exitP hm hm2 h12]
      have HFW := Lib.hid ((HR.out wr hbe).2.2)
      have HN : Hid (∀ W, Calls Tryz.prog 64 #[.int .u64 (ps.length : Int), .int .u64 (ps2.length : Int)] W fun e w' => e = .returned (.int .i64 (sgnI ps.length ps2.length)) ∧ W = w') := fun W => rnumbers_any _ _ W
      have hcases : (m < ps.length ∧ ¬ m < ps2.length) ∨ (¬ m < ps.length) := by omega
      clear HI hcx hcy hbe h12
      rcases hcases with ⟨h1, h2⟩ | h1
      all_goals
        go_wp2_with fail
        refine (HN.out _).mono ?_
        rintro e w2 ⟨rfl, rfl⟩
        go_wp2_with fail
        go_ret
        exact ⟨congrArg (fun z => Ending.returned (Value.int .i64 z)) HE.out, HFW.out⟩
end
set_option maxRecDepth 100000 in
set_option maxHeartbeats 8000000 in
theorem rcompare_any : ∀ (v : V), RCmpC v := by
  intro v
  induction v using V.ind with
  | h v ihf ihl ihp =>
    intro v' a a' S S' w hr hr'
    obtain ⟨k, n, t, fs, r, ls, ps⟩ := v
    obtain ⟨fa, fc, la, lc, pa, pc⟩ := a
    obtain ⟨k2, n2, t2, fs2, r2, ls2, ps2⟩ := v'
    obtain ⟨fa2, fc2, la2, lc2, pa2, pc2⟩ := a'
    rw [vG_lit, vG_lit]
    have HZ : Hid (cmpV (.mk k n t fs r ls ps) (.mk k2 n2 t2 fs2 r2 ls2 ps2) = orI (sgnI k k2) (if k = 1 then sgnI n n2 else if k = 2 then cmpB t t2 else if k = 3 then orI (cmpF fs fs2) (cmpB r r2) else if k = 4 then cmpL ls ls2 else if k = 5 then cmpP ps ps2 else 0)) := by show _ = _; rw [cmpV]
    have HBA : Hid (Below w.heap.size w ((w.alloc (.cells #[.int .i64 k, .int .u64 (n : Int), .string (strB t), .slice fa fs.length fc, .string (strB r), .slice la ls.length lc, .slice pa ps.length pc] 47)).alloc (.cells #[.int .i64 k2, .int .u64 (n2 : Int), .string (strB t2), .slice fa2 fs2.length fc2, .string (strB r2), .slice la2 ls2.length lc2, .slice pa2 ps2.length pc2] 47))) := ((Below.refl _ _).alloc (Nat.le_refl _) _).alloc (by simp) _
    by_cases hk : k = k2
    · subst hk
      have hs0 : sgnI k k = 0 := sgnI_zero.2 rfl
      have HZ2 : Hid (cmpV (.mk k n t fs r ls ps) (.mk k n2 t2 fs2 r2 ls2 ps2) = (if k = 1 then sgnI n n2 else if k = 2 then cmpB t t2 else if k = 3 then orI (cmpF fs fs2) (cmpB r r2) else if k = 4 then cmpL ls ls2 else if k = 5 then cmpP ps ps2 else 0)) := by have := HZ.out; rw [hs0] at this; exact this
      by_cases k3 : k = 3
      · have e : cmpV (.mk k n t fs r ls ps) (.mk k n2 t2 fs2 r2 ls2 ps2) = orI (cmpF fs fs2) (cmpB r r2) := by rw [HZ2.out, if_neg (by omega), if_neg (by omega), if_pos k3]
        rw [e]
        exact rcmp3_any k3 ihf hr hr'
      · by_cases k4 : k = 4
        · have e : cmpV (.mk k n t fs r ls ps) (.mk k n2 t2 fs2 r2 ls2 ps2) = cmpL ls ls2 := by rw [HZ2.out, if_neg (by omega), if_neg (by omega), if_neg k3, if_pos k4]
          rw [e]
          exact rcmp4_any k4 ihl hr hr'
        · by_cases k5 : k = 5
          · have e : cmpV (.mk k n t fs r ls ps) (.mk k n2 t2 fs2 r2 ls2 ps2) = cmpP ps ps2 := by rw [HZ2.out, if_neg (by omega), if_neg (by omega), if_neg k3, if_neg k4, if_pos k5]
            rw [e]
            exact rcmp5_any k5 ihp hr hr'
          · have HZ3 : Hid (cmpV (.mk k n t fs r ls ps) (.mk k n2 t2 fs2 r2 ls2 ps2) = (if k = 1 then sgnI n n2 else if k = 2 then cmpB t t2 else 0)) := by show _ = _; rw [HZ2.out, if_neg k3, if_neg k4, if_neg k5]
            have g3 : (k == 3) = false := by simpa using k3
            have g4 : (k == 4) = false := by simpa using k4
            have g5 : (k == 5) = false := by simpa using k5
            clear k3 k4 k5 HZ HZ2 ihf ihl ihp hr hr' hs0
            generalize cmpV (.mk k n t fs r ls ps) (.mk k n2 t2 fs2 r2 ls2 ps2) = R at HZ3 ⊢
            by_cases k1 : k = 1
            · subst k1
              rw [if_pos rfl] at HZ3
              go_enter Tryz.func43, Tryz.ntmps43
              go_wp2_with (first | (go_at_call 64; refine (rnumbers_any _ _ _).mono ?_; rintro e w1 ⟨rfl, rfl⟩))
              go_ret
              exact ⟨congrArg (fun z => Ending.returned (Value.int .i64 z)) HZ3.out.symm, HBA.out⟩
            · rw [if_neg k1] at HZ3
              have g1 : (k == 1) = false := by simpa using k1
              clear k1
              by_cases k2 : k = 2
              · subst k2
                rw [if_pos rfl] at HZ3
                go_enter Tryz.func43, Tryz.ntmps43
                go_wp2_with (first | (go_at_call 65; refine (rtexts_any _ _ _).mono ?_; rintro e w1 ⟨rfl, rfl⟩))
                go_ret
                exact ⟨congrArg (fun z => Ending.returned (Value.int .i64 z)) HZ3.out.symm, HBA.out⟩
              · rw [if_neg k2] at HZ3
                have g2 : (k == 2) = false := by simpa using k2
                clear k2
                go_enter Tryz.func43, Tryz.ntmps43
                go_wp2_with fail
                go_ret
                exact ⟨congrArg (fun z => Ending.returned (Value.int .i64 z)) HZ3.out.symm, HBA.out⟩
    · have HZ2 : Hid (cmpV (.mk k n t fs r ls ps) (.mk k2 n2 t2 fs2 r2 ls2 ps2) = sgnI k k2) := by have := HZ.out; unfold orI at this; rwa [if_neg (fun h => hk (sgnI_zero.1 h))] at this
      clear HZ ihf ihl ihp hr hr'
      generalize cmpV (.mk k n t fs r ls ps) (.mk k2 n2 t2 fs2 r2 ls2 ps2) = R at HZ2 ⊢
      by_cases h1 : k < k2
      · have HZ3 : Hid (-1 = R) := by show _ = _; rw [HZ2.out]; unfold sgnI; rw [if_pos h1]
        go_enter Tryz.func43, Tryz.ntmps43
        go_wp2_with fail
        go_ret
        exact ⟨congrArg (fun z => Ending.returned (Value.int .i64 z)) HZ3.out, HBA.out⟩
      · have h2 : k2 < k := by omega
        have HZ3 : Hid (1 = R) := by show _ = _; rw [HZ2.out]; unfold sgnI; rw [if_neg h1, if_pos h2]
        clear hk
        go_enter Tryz.func43, Tryz.ntmps43
        go_wp2_with fail
        go_ret
        exact ⟨congrArg (fun z => Ending.returned (Value.int .i64 z)) HZ3.out, HBA.out⟩
section
variable {k k2 : Int} {n n2 : Nat} {t r t2 r2 : List UInt8} {fs fs2 : List (Int × V)} {ls ls2 : List V} {ps ps2 : List (V × V)} {fa la pa fa2 la2 pa2 : Option Addr} {fc lc pc fc2 lc2 pc2 : Nat} {S S' : Nat → Prop} {w : World}
theorem rcompare_lit (hr : Rep S w (.mk k n t fs r ls ps) ⟨fa, fc, la, lc, pa, pc⟩) (hr' : Rep S' w (.mk k2 n2 t2 fs2 r2 ls2 ps2) ⟨fa2, fc2, la2, lc2, pa2, pc2⟩) :
    Calls Tryz.prog 43 #[.agg #[.int .i64 k, .int .u64 (n : Int), .string (strB t), .slice fa fs.length fc, .string (strB r), .slice la ls.length lc, .slice pa ps.length pc], .agg #[.int .i64 k2, .int .u64 (n2 : Int), .string (strB t2), .slice fa2 fs2.length fc2, .string (strB r2), .slice la2 ls2.length lc2, .slice pa2 ps2.length pc2]] w
      fun e w' => e = .returned (.int .i64 (cmpV (.mk k n t fs r ls ps) (.mk k2 n2 t2 fs2 r2 ls2 ps2))) ∧ Below w.heap.size w w' := RCmpC.lit (rcompare_any _) hr hr'
set_option maxRecDepth 100000 in
set_option maxHeartbeats 4000000 in
theorem rsame_lit (hr : Rep S w (.mk k n t fs r ls ps) ⟨fa, fc, la, lc, pa, pc⟩) (hr' : Rep S' w (.mk k2 n2 t2 fs2 r2 ls2 ps2) ⟨fa2, fc2, la2, lc2, pa2, pc2⟩) :
    Calls Tryz.prog 18 #[.agg #[.int .i64 k, .int .u64 (n : Int), .string (strB t), .slice fa fs.length fc, .string (strB r), .slice la ls.length lc, .slice pa ps.length pc], .agg #[.int .i64 k2, .int .u64 (n2 : Int), .string (strB t2), .slice fa2 fs2.length fc2, .string (strB r2), .slice la2 ls2.length lc2, .slice pa2 ps2.length pc2]] w
      fun e w' => e = .returned (.bool (cmpV (.mk k n t fs r ls ps) (.mk k2 n2 t2 fs2 r2 ls2 ps2) == 0)) ∧ Below w.heap.size w w' := by
  have HC : Hid (∀ W, Below w.heap.size w W → Calls _ _ _ W _) := fun W hb => rcompare_lit (hr.stays hb) (hr'.stays hb)
  have hba : Below w.heap.size w ((w.alloc (.cells #[.int .i64 k, .int .u64 (n : Int), .string (strB t), .slice fa fs.length fc, .string (strB r), .slice la ls.length lc, .slice pa ps.length pc] 47)).alloc (.cells #[.int .i64 k2, .int .u64 (n2 : Int), .string (strB t2), .slice fa2 fs2.length fc2, .string (strB r2), .slice la2 ls2.length lc2, .slice pa2 ps2.length pc2] 47)) := ((Below.refl _ _).alloc (Nat.le_refl _) _).alloc (by simp) _
  have HBA := Lib.hid hba
  clear hr hr' hba
  go_enter Tryz.func18, Tryz.ntmps18
  go_wp2_with fail
  refine (HC.out _ HBA.out).mono ?_
  rintro e w1 ⟨rfl, hb1⟩
  have HB1 := Lib.hid (HBA.out.trans (hb1.mono HBA.out.size))
  clear hb1 HC HBA
  go_wp2_with fail
  go_ret
  exact ⟨rfl, HB1.out⟩
end
end Go.Proofs.YtcjflglpkpkflaaGreatDoor
