/- Where a pair stands; rows of pairs spliced; Find, Put, Str. -/
import Derived.Test.YtcjflglpkpkflaaGreatDoorVx
import Derived.Test.YtcjflglpkpkflaaGreatDoorVv
import Derived.Lib.SliceRun
namespace Go.Proofs.YtcjflglpkpkflaaGreatDoor
open Go Go.RowKit
set_option linter.unusedVariables false
theorem infoPd : (Tryz.prog.info? 92).map (fun i => (i.zero, i.size, i.bytes)) = some (some (.agg #[.int .i64 0, .int .u64 0, .string ⟨#[]⟩, .slice none 0 0, .string ⟨#[]⟩, .slice none 0 0, .slice none 0 0, .int .i64 0, .int .u64 0, .string ⟨#[]⟩, .slice none 0 0, .string ⟨#[]⟩, .slice none 0 0, .slice none 0 0]), 14, 240) := by kernel_rfl
section
variable {k : Int} {n : Nat} {t r : List UInt8} {fs : List (Int × V)} {ls : List V} {ps : List (V × V)} {fa la pa : Option Addr} {fc lc pc : Nat} {S : Nat → Prop} {w : World}
variable {k2 : Int} {n2 : Nat} {t2 r2 : List UInt8} {fs2 : List (Int × V)} {ls2 : List V} {ps2 : List (V × V)} {fa2 la2 pa2 : Option Addr} {fc2 lc2 pc2 : Nat} {S2 : Nat → Prop}
variable {k9 : Int} {n9 : Nat} {t9 r9 : List UInt8} {fs9 : List (Int × V)} {ls9 : List V} {ps9 : List (V × V)} {fa9 la9 pa9 : Option Addr} {fc9 lc9 pc9 : Nat} {S9 : Nat → Prop}
set_option maxRecDepth 100000 in
set_option maxHeartbeats 2000000 in
theorem spot1_any (hr : Rep S w (.mk k n t fs r ls ps) ⟨fa, fc, la, lc, pa, pc⟩) (hr9 : Rep S9 w (.mk k9 n9 t9 fs9 r9 ls9 ps9) ⟨fa9, fc9, la9, lc9, pa9, pc9⟩) : Calls Tryz.prog 102 #[.agg #[.int .i64 k, .int .u64 (n : Int), .string (strB t), .slice fa fs.length fc, .string (strB r), .slice la ls.length lc, .slice pa ps.length pc, .int .i64 k2, .int .u64 (n2 : Int), .string (strB t2), .slice fa2 fs2.length fc2, .string (strB r2), .slice la2 ls2.length lc2, .slice pa2 ps2.length pc2], .agg #[.int .i64 k9, .int .u64 (n9 : Int), .string (strB t9), .slice fa9 fs9.length fc9, .string (strB r9), .slice la9 ls9.length lc9, .slice pa9 ps9.length pc9]] w fun e w' => e = .returned (.int .i64 (cmpV (.mk k n t fs r ls ps) (.mk k9 n9 t9 fs9 r9 ls9 ps9))) ∧ Below w.heap.size w w' := by
  have hba : Below w.heap.size w ((w.alloc (.cells #[.int .i64 k, .int .u64 (n : Int), .string (strB t), .slice fa fs.length fc, .string (strB r), .slice la ls.length lc, .slice pa ps.length pc, .int .i64 k2, .int .u64 (n2 : Int), .string (strB t2), .slice fa2 fs2.length fc2, .string (strB r2), .slice la2 ls2.length lc2, .slice pa2 ps2.length pc2] 92)).alloc (.cells #[.int .i64 k9, .int .u64 (n9 : Int), .string (strB t9), .slice fa9 fs9.length fc9, .string (strB r9), .slice la9 ls9.length lc9, .slice pa9 ps9.length pc9] 38)) := ((Below.refl _ _).alloc (Nat.le_refl _) _).alloc (by simp) _
  have HC := Lib.hid (compare_lit (hr.stays hba) (hr9.stays hba))
  have HBA := Lib.hid hba
  clear hr hr9 hba
  go_enter Tryz.func102, Tryz.ntmps102
  go_wp2_with fail
  refine HC.out.mono ?_
  rintro e w1 ⟨rfl, hb1⟩
  have HB1 := Lib.hid (HBA.out.trans (hb1.mono HBA.out.size))
  clear hb1 HC HBA
  go_wp2_with fail
  go_ret
  exact ⟨rfl, HB1.out⟩
set_option maxRecDepth 100000 in
set_option maxHeartbeats 4000000 in
theorem bsearchP_any (hr : Rep S w (.mk k n t fs r ls ps) ⟨fa, fc, la, lc, pa, pc⟩) (hr9 : Rep S9 w (.mk k9 n9 t9 fs9 r9 ls9 ps9) ⟨fa9, fc9, la9, lc9, pa9, pc9⟩) (hR : Rises (pairC (.mk k9 n9 t9 fs9 r9 ls9 ps9)) ps) (hlen : ps.length ≤ 1000000) :
    Calls Tryz.prog 101 #[.slice pa ps.length pc, .agg #[.int .i64 k9, .int .u64 (n9 : Int), .string (strB t9), .slice fa9 fs9.length fc9, .string (strB r9), .slice la9 ls9.length lc9, .slice pa9 ps9.length pc9], .func (.func 102) #[] #[]] w (PlaceP (pairC (.mk k9 n9 t9 fs9 r9 ls9 ps9)) ps w) := by
  have HR : Hid (∀ W, Below w.heap.size w W → Rep S W (.mk k n t fs r ls ps) ⟨fa, fc, la, lc, pa, pc⟩) := fun W hb => hr.stays hb
  have HR9 : Hid (∀ W, Below w.heap.size w W → Rep S9 W (.mk k9 n9 t9 fs9 r9 ls9 ps9) ⟨fa9, fc9, la9, lc9, pa9, pc9⟩) := fun W hb => hr9.stays hb
  have HRI := Lib.hid hR
  obtain ⟨W0, hW0⟩ : ∃ W0, W0 = w.alloc (.cells #[.int .i64 k9, .int .u64 (n9 : Int), .string (strB t9), .slice fa9 fs9.length fc9, .string (strB r9), .slice la9 ls9.length lc9, .slice pa9 ps9.length pc9] 38) := ⟨_, rfl⟩
  obtain ⟨g, hg⟩ : ∃ g, g = w.heap.size := ⟨_, rfl⟩
  have hBA : Below w.heap.size w W0 := by rw [hW0]; exact (Below.refl _ _).alloc (Nat.le_refl _) _
  have hcx : CellsAt W0 g 38 #[.int .i64 k9, .int .u64 (n9 : Int), .string (strB t9), .slice fa9 fs9.length fc9, .string (strB r9), .slice la9 ls9.length lc9, .slice pa9 ps9.length pc9] := by rw [hW0, hg]; exact CellsAt.new w _ _
  have HX : Hid (∀ W, Below W0.heap.size W0 W → (W.cell? ⟨g, 0, none⟩ = some (.int .i64 k9) ∧ W.cell? ⟨g, 1, none⟩ = some (.int .u64 (n9 : Int)) ∧ W.cell? ⟨g, 2, none⟩ = some (.string (strB t9)) ∧ W.cell? ⟨g, 3, none⟩ = some (.slice fa9 fs9.length fc9) ∧ W.cell? ⟨g, 4, none⟩ = some (.string (strB r9)) ∧ W.cell? ⟨g, 5, none⟩ = some (.slice la9 ls9.length lc9) ∧ W.cell? ⟨g, 6, none⟩ = some (.slice pa9 ps9.length pc9)) ∧ Below w.heap.size w W) := fun W hb => by
    obtain ⟨a0, a1, a2, a3, a4, a5, a6⟩ := box7 (hcx.stays hb)
    exact ⟨⟨a0, a1, a2, a3, a4, a5, a6⟩, hBA.trans (hb.mono hBA.size)⟩
  have HW := Lib.hid hW0
  have HG := Lib.hid hg
  clear hr hR hr9 hW0 hg hBA hcx
  go_enter Tryz.func101, Tryz.ntmps101
  go_wp2_with fail
  have hW0 := HW.out
  have hg := HG.out
  rw [← hW0, ← hg]
  clear hW0 hg HW HG
  go_loopw [9, 10] (fun x y wr => ∃ (i j : Nat), i ≤ j ∧ j ≤ ps.length ∧ x = .int .i64 i ∧ y = .int .i64 j ∧ Hid (∀ q p, q < i → ps[q]? = some p → pairC (.mk k9 n9 t9 fs9 r9 ls9 ps9) p < 0) ∧ Hid (∀ q p, j ≤ q → ps[q]? = some p → 0 ≤ pairC (.mk k9 n9 t9 fs9 r9 ls9 ps9) p) ∧ Below W0.heap.size W0 wr) (fun x y _ => (intOf y).toNat - (intOf x).toNat)
  case atStart => exact ⟨0, ps.length, Nat.zero_le _, Nat.le_refl _, rfl, rfl, fun q p h => by omega, fun q p h h2 => by have := (List.getElem?_eq_some_iff.1 h2).1; omega, Below.refl _ _⟩
  case round =>
    obtain ⟨i, j, hij, hj, rfl, rfl, HLO, HHI, hbe⟩ := hrel
    obtain ⟨⟨z0, z1, z2, z3, z4, z5, z6⟩, hbw⟩ := HX.out wr hbe
    by_cases h1 : i < j
    · obtain ⟨h, hh⟩ : ∃ h, h = (i + j) / 2 := ⟨_, rfl⟩
      have hh1 : i ≤ h := by omega
      have hh2 : h < j := by omega
      obtain ⟨⟨⟨k', n', t', fs', r', ls', ps'⟩, ⟨k2, n2, t2, fs2, r2, ls2, ps2⟩⟩, hq⟩ : ∃ p, ps[h]? = some p := ⟨_, List.getElem?_eq_getElem (by omega)⟩
      obtain ⟨b, o, fa', la', pa', fc', lc', pc', fa2, la2, pa2, fc2, lc2, pc2, rfl, hrx, hry, c0, c1, c2, c3, c4, c5, c6, c7, c8, c9, c10, c11, c12, c13⟩ := (HR.out wr hbw).pairAt hq
      have HC : Hid (∀ W, Below wr.heap.size wr W → Calls _ _ _ W _) := fun W hb => (spot1_any (fa2 := fa2) (la2 := la2) (pa2 := pa2) (fc2 := fc2) (lc2 := lc2) (pc2 := pc2) (k2 := k2) (n2 := n2) (t2 := t2) (r2 := r2) (fs2 := fs2) (ls2 := ls2) (ps2 := ps2) (hrx.stays hb) ((HR9.out wr hbw).stays hb))
      have HLO2 : Hid (cmpV (.mk k' n' t' fs' r' ls' ps') (.mk k9 n9 t9 fs9 r9 ls9 ps9) < 0 → ∀ q p, q < h + 1 → ps[q]? = some p → pairC (.mk k9 n9 t9 fs9 r9 ls9 ps9) p < 0) := fun h0 q p h2 h3 => by
        rcases Nat.lt_or_ge q h with h4 | h4
        · refine Decidable.byContradiction fun h5 => ?_
          have := HRI.out q h p _ h4 h3 hq (by omega)
          have : pairC (.mk k9 n9 t9 fs9 r9 ls9 ps9) (.mk k' n' t' fs' r' ls' ps', .mk k2 n2 t2 fs2 r2 ls2 ps2) = cmpV (.mk k' n' t' fs' r' ls' ps') (.mk k9 n9 t9 fs9 r9 ls9 ps9) := rfl
          omega
        · obtain rfl : q = h := by omega
          rw [hq] at h3
          cases h3
          exact h0
      have HHI2 : Hid (¬ cmpV (.mk k' n' t' fs' r' ls' ps') (.mk k9 n9 t9 fs9 r9 ls9 ps9) < 0 → ∀ q p, h ≤ q → ps[q]? = some p → 0 ≤ pairC (.mk k9 n9 t9 fs9 r9 ls9 ps9) p) := fun h0 q p h2 h3 => by
        rcases Nat.lt_or_ge h q with h4 | h4
        · have := HRI.out h q _ p h4 hq h3 (by show 0 ≤ cmpV (.mk k' n' t' fs' r' ls' ps') (.mk k9 n9 t9 fs9 r9 ls9 ps9); omega)
          omega
        · obtain rfl : q = h := by omega
          rw [hq] at h3
          cases h3
          show 0 ≤ cmpV (.mk k' n' t' fs' r' ls' ps') (.mk k9 n9 t9 fs9 r9 ls9 ps9)
          omega
      generalize cmpV (.mk k' n' t' fs' r' ls' ps') (.mk k9 n9 t9 fs9 r9 ls9 ps9) = G at HC HLO2 HHI2
      have hh3 : ((i : Int) + j) / 2 = (h : Int) := by omega
      have HH3 := Lib.hid hh3
      have HH := Lib.hid hh
      rw [hh] at c0 c1 c2 c3 c4 c5 c6 c7 c8 c9 c10 c11 c12 c13
      clear hrx hry hq hh hh3
      have hlb : b < wr.heap.size := World.block_lt_of_cell? wr _ c0
      have hgl : g < wr.heap.size := World.block_lt_of_cell? wr _ z0
      have HSQ : Hid (∀ W, Below wr.heap.size wr W → W.cell? ⟨b, o + ((i + j) / 2) * 14, none⟩ = some (.int .i64 k') ∧ W.cell? ⟨b, o + ((i + j) / 2) * 14 + 1, none⟩ = some (.int .u64 (n' : Int)) ∧ W.cell? ⟨b, o + ((i + j) / 2) * 14 + 2, none⟩ = some (.string (strB t')) ∧ W.cell? ⟨b, o + ((i + j) / 2) * 14 + 3, none⟩ = some (.slice fa' fs'.length fc') ∧ W.cell? ⟨b, o + ((i + j) / 2) * 14 + 4, none⟩ = some (.string (strB r')) ∧ W.cell? ⟨b, o + ((i + j) / 2) * 14 + 5, none⟩ = some (.slice la' ls'.length lc') ∧ W.cell? ⟨b, o + ((i + j) / 2) * 14 + 6, none⟩ = some (.slice pa' ps'.length pc') ∧ W.cell? ⟨b, o + ((i + j) / 2) * 14 + 7, none⟩ = some (.int .i64 k2) ∧ W.cell? ⟨b, o + ((i + j) / 2) * 14 + 8, none⟩ = some (.int .u64 (n2 : Int)) ∧ W.cell? ⟨b, o + ((i + j) / 2) * 14 + 9, none⟩ = some (.string (strB t2)) ∧ W.cell? ⟨b, o + ((i + j) / 2) * 14 + 10, none⟩ = some (.slice fa2 fs2.length fc2) ∧ W.cell? ⟨b, o + ((i + j) / 2) * 14 + 11, none⟩ = some (.string (strB r2)) ∧ W.cell? ⟨b, o + ((i + j) / 2) * 14 + 12, none⟩ = some (.slice la2 ls2.length lc2) ∧ W.cell? ⟨b, o + ((i + j) / 2) * 14 + 13, none⟩ = some (.slice pa2 ps2.length pc2) ∧ W.cell? ⟨g, 0, none⟩ = some (.int .i64 k9) ∧ W.cell? ⟨g, 1, none⟩ = some (.int .u64 (n9 : Int)) ∧ W.cell? ⟨g, 2, none⟩ = some (.string (strB t9)) ∧ W.cell? ⟨g, 3, none⟩ = some (.slice fa9 fs9.length fc9) ∧ W.cell? ⟨g, 4, none⟩ = some (.string (strB r9)) ∧ W.cell? ⟨g, 5, none⟩ = some (.slice la9 ls9.length lc9) ∧ W.cell? ⟨g, 6, none⟩ = some (.slice pa9 ps9.length pc9)) := fun W hb => ⟨later1 c0 hlb hb, later1 c1 hlb hb, later1 c2 hlb hb, later1 c3 hlb hb, later1 c4 hlb hb, later1 c5 hlb hb, later1 c6 hlb hb, later1 c7 hlb hb, later1 c8 hlb hb, later1 c9 hlb hb, later1 c10 hlb hb, later1 c11 hlb hb, later1 c12 hlb hb, later1 c13 hlb hb, later1 z0 hgl hb, later1 z1 hgl hb, later1 z2 hgl hb, later1 z3 hgl hb, later1 z4 hgl hb, later1 z5 hgl hb, later1 z6 hgl hb⟩
      have hdr : Below wr.heap.size wr wr.drew := (Below.refl _ _).drew
      have iw0 : (0 : Int) ≤ ((i : Int) + (j : Int)) / 2 := by omega
      have iw1 : ((i : Int) + (j : Int)) / 2 < (ps.length : Int) := by omega
      have iw2 : (((i : Int) + (j : Int)) / 2).toNat = (i + j) / 2 := by omega
      have iw3 : (i + j) / 2 < ps.length := by omega
      go_upto_region 5 with fail
      refine wp_region_quiet_in (C := fun W => Below wr.heap.size wr W) (by kernel_rfl) (by kernel_rfl) hdr ?_
      repeat
        (first
           | go_big_quiet_skip
           | (go_big_quiet_want
              refine quiet_intro ?_ (fun wq hwq => ?_) ?_
              rotate_left
              focus
                (obtain ⟨c0, c1, c2, c3, c4, c5, c6, c7, c8, c9, c10, c11, c12, c13, z0, z1, z2, z3, z4, z5, z6⟩ := HSQ.out _ hwq
                 go_simp
                 try first
                   | with_reducible rfl
                   | (exact hwq)
                   | ((with_reducible refine (HC.out _ hwq).mono ?_); rintro e wA ⟨rfl, hbA⟩; refine ⟨?_, hwq.trans (hbA.mono hwq.size)⟩; with_reducible rfl))
              go_simp
              go_big_quiet_on))
      refine wpQuiet_nil ?_
      intro w2 hb2
      have hbe2 : Below W0.heap.size W0 w2 := hbe.trans (hb2.mono hbe.size)
      clear HC hb2 c0 c1 c2 c3 c4 c5 c6 c7 c8 c9 c10 c11 c12 c13
      by_cases hG : G < 0
      · have HLO3 := Lib.hid (HLO2.out hG)
        clear HLO2 HHI2
        go_wp2_with fail
        go_roundw
        case rel => exact ⟨h + 1, j, by omega, hj, congrArg (Value.int .i64) (by have := HH3.out; omega), rfl, HLO3, HHI, hbe2⟩
        case measure => have := HH3.out; simp only [intOf]; omega
      · have HHI3 := Lib.hid (HHI2.out (by omega))
        clear HLO2 HHI2
        go_wp2_with fail
        go_roundw
        case rel => exact ⟨i, h, hh1, by omega, rfl, congrArg (Value.int .i64) HH3.out, HLO, HHI3, hbe2⟩
        case measure => have := HH3.out; simp only [intOf]; omega
    · obtain rfl : i = j := by omega
      have HAT : Hid (At (pairC (.mk k9 n9 t9 fs9 r9 ls9 ps9)) ps i) := ⟨hj, HLO.out, HHI.out⟩
      clear HLO HHI h1 hij
      by_cases h2 : i < ps.length
      · obtain ⟨⟨⟨k', n', t', fs', r', ls', ps'⟩, ⟨k2, n2, t2, fs2, r2, ls2, ps2⟩⟩, hq⟩ : ∃ p, ps[i]? = some p := ⟨_, List.getElem?_eq_getElem h2⟩
        obtain ⟨b, o, fa', la', pa', fc', lc', pc', fa2, la2, pa2, fc2, lc2, pc2, rfl, hrx, hry, c0, c1, c2, c3, c4, c5, c6, c7, c8, c9, c10, c11, c12, c13⟩ := (HR.out wr hbw).pairAt hq
        have HC : Hid (∀ W, Below wr.heap.size wr W → Calls _ _ _ W _) := fun W hb => (spot1_any (fa2 := fa2) (la2 := la2) (pa2 := pa2) (fc2 := fc2) (lc2 := lc2) (pc2 := pc2) (k2 := k2) (n2 := n2) (t2 := t2) (r2 := r2) (fs2 := fs2) (ls2 := ls2) (ps2 := ps2) (hrx.stays hb) ((HR9.out wr hbw).stays hb))
        have HT : Hid (thereB (pairC (.mk k9 n9 t9 fs9 r9 ls9 ps9)) ps i = (cmpV (.mk k' n' t' fs' r' ls' ps') (.mk k9 n9 t9 fs9 r9 ls9 ps9) == 0)) := by show _ = _; unfold thereB; rw [hq]; rfl
        generalize cmpV (.mk k' n' t' fs' r' ls' ps') (.mk k9 n9 t9 fs9 r9 ls9 ps9) = G at HC HT
        clear hrx hry hq
        have hlb : b < wr.heap.size := World.block_lt_of_cell? wr _ c0
        have hgl : g < wr.heap.size := World.block_lt_of_cell? wr _ z0
        have HSQ : Hid (∀ W, Below wr.heap.size wr W → W.cell? ⟨b, o + i * 14, none⟩ = some (.int .i64 k') ∧ W.cell? ⟨b, o + i * 14 + 1, none⟩ = some (.int .u64 (n' : Int)) ∧ W.cell? ⟨b, o + i * 14 + 2, none⟩ = some (.string (strB t')) ∧ W.cell? ⟨b, o + i * 14 + 3, none⟩ = some (.slice fa' fs'.length fc') ∧ W.cell? ⟨b, o + i * 14 + 4, none⟩ = some (.string (strB r')) ∧ W.cell? ⟨b, o + i * 14 + 5, none⟩ = some (.slice la' ls'.length lc') ∧ W.cell? ⟨b, o + i * 14 + 6, none⟩ = some (.slice pa' ps'.length pc') ∧ W.cell? ⟨b, o + i * 14 + 7, none⟩ = some (.int .i64 k2) ∧ W.cell? ⟨b, o + i * 14 + 8, none⟩ = some (.int .u64 (n2 : Int)) ∧ W.cell? ⟨b, o + i * 14 + 9, none⟩ = some (.string (strB t2)) ∧ W.cell? ⟨b, o + i * 14 + 10, none⟩ = some (.slice fa2 fs2.length fc2) ∧ W.cell? ⟨b, o + i * 14 + 11, none⟩ = some (.string (strB r2)) ∧ W.cell? ⟨b, o + i * 14 + 12, none⟩ = some (.slice la2 ls2.length lc2) ∧ W.cell? ⟨b, o + i * 14 + 13, none⟩ = some (.slice pa2 ps2.length pc2) ∧ W.cell? ⟨g, 0, none⟩ = some (.int .i64 k9) ∧ W.cell? ⟨g, 1, none⟩ = some (.int .u64 (n9 : Int)) ∧ W.cell? ⟨g, 2, none⟩ = some (.string (strB t9)) ∧ W.cell? ⟨g, 3, none⟩ = some (.slice fa9 fs9.length fc9) ∧ W.cell? ⟨g, 4, none⟩ = some (.string (strB r9)) ∧ W.cell? ⟨g, 5, none⟩ = some (.slice la9 ls9.length lc9) ∧ W.cell? ⟨g, 6, none⟩ = some (.slice pa9 ps9.length pc9)) := fun W hb => ⟨later1 c0 hlb hb, later1 c1 hlb hb, later1 c2 hlb hb, later1 c3 hlb hb, later1 c4 hlb hb, later1 c5 hlb hb, later1 c6 hlb hb, later1 c7 hlb hb, later1 c8 hlb hb, later1 c9 hlb hb, later1 c10 hlb hb, later1 c11 hlb hb, later1 c12 hlb hb, later1 c13 hlb hb, later1 z0 hgl hb, later1 z1 hgl hb, later1 z2 hgl hb, later1 z3 hgl hb, later1 z4 hgl hb, later1 z5 hgl hb, later1 z6 hgl hb⟩
        have hdr : Below wr.heap.size wr wr.drew := (Below.refl _ _).drew
        go_upto_region 8 with fail
        refine wp_region_quiet_in (C := fun W => Below wr.heap.size wr W) (by kernel_rfl) (by kernel_rfl) hdr ?_
        repeat
          (first
             | go_big_quiet_skip
             | (go_big_quiet_want
                refine quiet_intro ?_ (fun wq hwq => ?_) ?_
                rotate_left
                focus
                  (obtain ⟨c0, c1, c2, c3, c4, c5, c6, c7, c8, c9, c10, c11, c12, c13, z0, z1, z2, z3, z4, z5, z6⟩ := HSQ.out _ hwq
                   go_simp
                   try first
                     | with_reducible rfl
                     | (exact hwq)
                     | ((with_reducible refine (HC.out _ hwq).mono ?_); rintro e wA ⟨rfl, hbA⟩; refine ⟨?_, hwq.trans (hbA.mono hwq.size)⟩; with_reducible rfl))
                go_simp
                go_big_quiet_on))
        refine wpQuiet_nil ?_
        intro w2 hb2
        have hbe2 : Below W0.heap.size W0 w2 := hbe.trans (hb2.mono hbe.size)
        clear HC hb2 c0 c1 c2 c3 c4 c5 c6 c7 c8 c9 c10 c11 c12 c13
        go_wp2_with fail
        go_ret2
        exact PlaceP.mk i HAT.out _ HT.out.symm rfl (HX.out w2 hbe2).2
      · have HT : Hid (false = thereB (pairC (.mk k9 n9 t9 fs9 r9 ls9 ps9)) ps i) := by show _ = _; unfold thereB; rw [List.getElem?_eq_none (by omega)]
        go_wp2_with fail
        go_quiet (fail)
        go_wp2_with fail
        go_ret2
        exact PlaceP.mk i HAT.out _ HT.out rfl (below_drewV _ hbw)
set_option maxRecDepth 100000 in
set_option maxHeartbeats 2000000 in
theorem spot_any (hr : Rep S w (.mk k n t fs r ls ps) ⟨fa, fc, la, lc, pa, pc⟩) (hr9 : Rep S9 w (.mk k9 n9 t9 fs9 r9 ls9 ps9) ⟨fa9, fc9, la9, lc9, pa9, pc9⟩) (hR : Rises (pairC (.mk k9 n9 t9 fs9 r9 ls9 ps9)) ps) (hlen : ps.length ≤ 1000000) :
    Calls Tryz.prog 87 #[.agg #[.int .i64 k, .int .u64 (n : Int), .string (strB t), .slice fa fs.length fc, .string (strB r), .slice la ls.length lc, .slice pa ps.length pc], .agg #[.int .i64 k9, .int .u64 (n9 : Int), .string (strB t9), .slice fa9 fs9.length fc9, .string (strB r9), .slice la9 ls9.length lc9, .slice pa9 ps9.length pc9]] w (PlaceP (pairC (.mk k9 n9 t9 fs9 r9 ls9 ps9)) ps w) := by
  have HBA : Hid (Below w.heap.size w ((w.alloc (.cells #[.int .i64 k, .int .u64 (n : Int), .string (strB t), .slice fa fs.length fc, .string (strB r), .slice la ls.length lc, .slice pa ps.length pc] 38)).alloc (.cells #[.int .i64 k9, .int .u64 (n9 : Int), .string (strB t9), .slice fa9 fs9.length fc9, .string (strB r9), .slice la9 ls9.length lc9, .slice pa9 ps9.length pc9] 38))) := ((Below.refl _ _).alloc (Nat.le_refl _) _).alloc (by simp) _
  have HC := Lib.hid (bsearchP_any (hr.stays HBA.out) (hr9.stays HBA.out) hR hlen)
  clear hr hR hr9
  go_enter Tryz.func87, Tryz.ntmps87
  go_wp2_with fail
  refine HC.out.mono ?_
  rintro e w1 ⟨i, hi, rfl, hb⟩
  have HI := Lib.hid hi
  have HB := Lib.hid (HBA.out.trans (hb.mono HBA.out.size))
  clear hi hb
  go_wp2_with fail
  go_ret2
  exact PlaceP.mk i HI.out _ rfl rfl HB.out
set_option maxRecDepth 100000 in
set_option maxHeartbeats 2000000 in
theorem str_lit (x : List UInt8) (w : World) : Calls Tryz.prog 62 #[.string (strB x)] w fun e w' => e = .returned (.agg #[.int .i64 2, .int .u64 0, .string (strB x), .slice none 0 0, .string (strB []), .slice none 0 0, .slice none 0 0]) ∧ Below w.heap.size w w' := by
  go_enter Tryz.func62, Tryz.ntmps62
  go_wp2_with fail
  exact bodyPost_ret (v := .agg #[.int .i64 2, .int .u64 0, .string (strB x), .slice none 0 0, .string (strB []), .slice none 0 0, .slice none 0 0]) (by simp [results, Tryz.results62, strB_nil, go_sem]) rfl ⟨rfl, (Below.refl _ _).alloc (Nat.le_refl _) _⟩
end
end Go.Proofs.YtcjflglpkpkflaaGreatDoor
