/- The reference's Find, Put. -/
import Derived.Test.YtcjflglpkpkflaaGreatDoorVz
import Derived.Test.YtcjflglpkpkflaaGreatDoorVp
import Derived.Test.YtcjflglpkpkflaaGreatDoorVs
import Derived.Deep.CutRange
namespace Go.Proofs.YtcjflglpkpkflaaGreatDoor
open Go Go.RowKit
set_option linter.unusedVariables false
section
variable {k : Int} {n : Nat} {t r : List UInt8} {fs : List (Int × V)} {ls : List V} {ps : List (V × V)} {fa la pa : Option Addr} {fc lc pc : Nat} {S : Nat → Prop} {w : World}
variable {k2 : Int} {n2 : Nat} {t2 r2 : List UInt8} {fs2 : List (Int × V)} {ls2 : List V} {ps2 : List (V × V)} {fa2 la2 pa2 : Option Addr} {fc2 lc2 pc2 : Nat} {S2 : Nat → Prop}
variable {k9 : Int} {n9 : Nat} {t9 r9 : List UInt8} {fs9 : List (Int × V)} {ls9 : List V} {ps9 : List (V × V)} {fa9 la9 pa9 : Option Addr} {fc9 lc9 pc9 : Nat} {S9 : Nat → Prop}
set_option maxRecDepth 100000 in
set_option maxHeartbeats 4000000 in
theorem rfind_any (hr : Rep S w (.mk k n t fs r ls ps) ⟨fa, fc, la, lc, pa, pc⟩) (hr9 : Rep S9 w (.mk k9 n9 t9 fs9 r9 ls9 ps9) ⟨fa9, fc9, la9, lc9, pa9, pc9⟩) (hlen : ps.length ≤ 1000000) :
    Calls Tryz.prog 42 #[.agg #[.int .i64 k, .int .u64 (n : Int), .string (strB t), .slice fa fs.length fc, .string (strB r), .slice la ls.length lc, .slice pa ps.length pc], .agg #[.int .i64 k9, .int .u64 (n9 : Int), .string (strB t9), .slice fa9 fs9.length fc9, .string (strB r9), .slice la9 ls9.length lc9, .slice pa9 ps9.length pc9]] w (ValP (findV (.mk k n t fs r ls ps) (.mk k9 n9 t9 fs9 r9 ls9 ps9)) w) := by
  obtain ⟨W0, hW0⟩ : ∃ W0, W0 = ((w.alloc (.cells #[.int .i64 k, .int .u64 (n : Int), .string (strB t), .slice fa fs.length fc, .string (strB r), .slice la ls.length lc, .slice pa ps.length pc] 47)).alloc (.cells #[.int .i64 k9, .int .u64 (n9 : Int), .string (strB t9), .slice fa9 fs9.length fc9, .string (strB r9), .slice la9 ls9.length lc9, .slice pa9 ps9.length pc9] 47)).alloc (.cells #[.int .i64 0, .int .u64 0, .string ⟨#[]⟩, .slice none 0 0, .string ⟨#[]⟩, .slice none 0 0, .slice none 0 0] 47) := ⟨_, rfl⟩
  obtain ⟨g, hg⟩ : ∃ g, g = w.heap.size := ⟨_, rfl⟩
  have hBA : Below w.heap.size w W0 := by rw [hW0]; exact (((Below.refl _ _).alloc (Nat.le_refl _) _).alloc (by simp) _).alloc (by simp; omega) _
  have hcx : CellsAt W0 g 47 #[.int .i64 k, .int .u64 (n : Int), .string (strB t), .slice fa fs.length fc, .string (strB r), .slice la ls.length lc, .slice pa ps.length pc] := by rw [hW0, hg]; exact ((CellsAt.new w _ _).allocC).allocC
  have hck : CellsAt W0 (g + 1) 47 #[.int .i64 k9, .int .u64 (n9 : Int), .string (strB t9), .slice fa9 fs9.length fc9, .string (strB r9), .slice la9 ls9.length lc9, .slice pa9 ps9.length pc9] := by rw [hW0, hg]; exact (CellsAt.new' (by simp)).allocC
  have hcz : CellsAt W0 (g + 1 + 1) 47 #[.int .i64 0, .int .u64 0, .string ⟨#[]⟩, .slice none 0 0, .string ⟨#[]⟩, .slice none 0 0, .slice none 0 0] := by rw [hW0, hg]; exact CellsAt.new' (by simp)
  have HX : Hid (∀ W, Below W0.heap.size W0 W → CellsAt W g 47 #[.int .i64 k, .int .u64 (n : Int), .string (strB t), .slice fa fs.length fc, .string (strB r), .slice la ls.length lc, .slice pa ps.length pc] ∧ CellsAt W (g + 1) 47 #[.int .i64 k9, .int .u64 (n9 : Int), .string (strB t9), .slice fa9 fs9.length fc9, .string (strB r9), .slice la9 ls9.length lc9, .slice pa9 ps9.length pc9] ∧ CellsAt W (g + 1 + 1) 47 #[.int .i64 0, .int .u64 0, .string ⟨#[]⟩, .slice none 0 0, .string ⟨#[]⟩, .slice none 0 0, .slice none 0 0] ∧ Below w.heap.size w W) := fun W hb =>
    ⟨hcx.stays hb, hck.stays hb, hcz.stays hb, hBA.trans (hb.mono hBA.size)⟩
  have HR0 := Lib.hid hr
  have HR9 := Lib.hid hr9
  have HW := Lib.hid hW0
  have HG := Lib.hid hg
  obtain ⟨R, hR⟩ : ∃ R, R = findV (.mk k n t fs r ls ps) (.mk k9 n9 t9 fs9 r9 ls9 ps9) := ⟨_, rfl⟩
  rw [← hR]
  have hR' : (if k = 5 then findA (pairC (.mk k9 n9 t9 fs9 r9 ls9 ps9)) Prod.snd V.none (ps.drop 0) else V.none) = R := by rw [hR]; rfl
  have HR := Lib.hid hR'
  have x6 := hcx.cell 6 (v := .slice pa ps.length pc) rfl
  clear hr hr9 hW0 hg hBA hcx hck hcz hR hR'
  go_enter Tryz.func42, Tryz.ntmps42
  go_wp2_with fail
  have hW0 := HW.out
  have hg := HG.out
  rw [← hW0, ← hg]
  clear hW0 hg HW
  go_loopw [10] (fun i wr => ∃ m : Nat, m ≤ ps.length ∧ i = .int .i64 m ∧ Hid ((if k = 5 then findA (pairC (.mk k9 n9 t9 fs9 r9 ls9 ps9)) Prod.snd V.none (ps.drop m) else V.none) = R) ∧ Below W0.heap.size W0 wr) (fun i _ => ps.length - (intOf i).toNat)
  case atStart => exact ⟨0, Nat.zero_le _, rfl, HR, Below.refl _ _⟩
  case round =>
    clear x6 HR
    obtain ⟨m, hm, rfl, HI, hbe⟩ := hrel
    obtain ⟨hcx, hck, hcz, hbw⟩ := HX.out wr hbe
    have hgl := hcx.lt
    by_cases h1 : m < ps.length
    · obtain ⟨⟨⟨k', n', t', fs', r', ls', ps'⟩, ⟨k3, n3, t3, fs3, r3, ls3, ps3⟩⟩, hq⟩ : ∃ p, ps[m]? = some p := ⟨_, List.getElem?_eq_getElem h1⟩
      obtain ⟨b, o, fa', la', pa', fc', lc', pc', fa3, la3, pa3, fc3, lc3, pc3, rfl, hrx, hry, c0, c1, c2, c3, c4, c5, c6, c7, c8, c9, c10, c11, c12, c13⟩ := HR0.out.pairAt hq
      have hlb : b < w.heap.size := World.block_lt_of_cell? w _ c0
      replace c0 := later1 c0 hlb hbw
      replace c1 := later1 c1 hlb hbw
      replace c2 := later1 c2 hlb hbw
      replace c3 := later1 c3 hlb hbw
      replace c4 := later1 c4 hlb hbw
      replace c5 := later1 c5 hlb hbw
      replace c6 := later1 c6 hlb hbw
      replace c7 := later1 c7 hlb hbw
      replace c8 := later1 c8 hlb hbw
      replace c9 := later1 c9 hlb hbw
      replace c10 := later1 c10 hlb hbw
      replace c11 := later1 c11 hlb hbw
      replace c12 := later1 c12 hlb hbw
      replace c13 := later1 c13 hlb hbw
      have hI := HI.out
      rw [drop_fields hq] at hI
      have hI2 : (if k = 5 then (if cmpV (.mk k' n' t' fs' r' ls' ps') (.mk k9 n9 t9 fs9 r9 ls9 ps9) = 0 then (.mk k3 n3 t3 fs3 r3 ls3 ps3) else findA (pairC (.mk k9 n9 t9 fs9 r9 ls9 ps9)) Prod.snd V.none (ps.drop (m + 1))) else V.none) = R := hI
      obtain ⟨W1, hW1⟩ : ∃ W1, W1 = wr.alloc (.cells #[.int .i64 k', .int .u64 (n' : Int), .string (strB t'), .slice fa' fs'.length fc', .string (strB r'), .slice la' ls'.length lc', .slice pa' ps'.length pc', .int .i64 k3, .int .u64 (n3 : Int), .string (strB t3), .slice fa3 fs3.length fc3, .string (strB r3), .slice la3 ls3.length lc3, .slice pa3 ps3.length pc3] 94) := ⟨_, rfl⟩
      obtain ⟨h, hh⟩ : ∃ h, h = wr.heap.size := ⟨_, rfl⟩
      have hbA : Below wr.heap.size wr W1 := by rw [hW1]; exact (Below.refl _ _).alloc (Nat.le_refl _) _
      have hcv : CellsAt W1 h 94 #[.int .i64 k', .int .u64 (n' : Int), .string (strB t'), .slice fa' fs'.length fc', .string (strB r'), .slice la' ls'.length lc', .slice pa' ps'.length pc', .int .i64 k3, .int .u64 (n3 : Int), .string (strB t3), .slice fa3 fs3.length fc3, .string (strB r3), .slice la3 ls3.length lc3, .slice pa3 ps3.length pc3] := by rw [hW1, hh]; exact CellsAt.new wr _ _
      have hbe1 : Below W0.heap.size W0 W1 := hbe.trans (hbA.mono hbe.size)
      have HC : Hid (∀ W, Below W0.heap.size W0 W → Calls _ _ _ W _) := fun W hb => rsame_lit (HR0.out.pairAt hq |> fun _ => hrx.stays ((HX.out W hb).2.2.2)) (HR9.out.stays ((HX.out W hb).2.2.2))
      generalize cmpV (.mk k' n' t' fs' r' ls' ps') (.mk k9 n9 t9 fs9 r9 ls9 ps9) = C at HC hI2
      have HI2 := Lib.hid hI2
      have HRX := Lib.hid hry
      have HBE1 := Lib.hid hbe1
      have HCV := Lib.hid hcv
      have HW1 := Lib.hid hW1
      have HH := Lib.hid hh
      clear hI hI2 HI hrx hry hq hbw hbe hcx hck hcz hbA hW1 hh hcv hbe1
      go_upto_region 4 with fail
      have hW1 := HW1.out
      have hh := HH.out
      rw [← hW1, ← hh]
      clear hW1 hh HW1 HH c0 c1 c2 c3 c4 c5 c6 c7 c8 c9 c10 c11 c12 c13
      obtain ⟨hcx, hck, hcz, hbw⟩ := HX.out W1 HBE1.out
      have x0 := hcx.cell 0 (v := .int .i64 k) rfl
      have hcv := HCV.out
      have y0 := hcv.cell 0 (v := .int .i64 k') rfl
      have y1 := hcv.cell 1 (v := .int .u64 (n' : Int)) rfl
      have y2 := hcv.cell 2 (v := .string (strB t')) rfl
      have y3 := hcv.cell 3 (v := .slice fa' fs'.length fc') rfl
      have y4 := hcv.cell 4 (v := .string (strB r')) rfl
      have y5 := hcv.cell 5 (v := .slice la' ls'.length lc') rfl
      have y6 := hcv.cell 6 (v := .slice pa' ps'.length pc') rfl
      have y7 := hcv.cell 7 (v := .int .i64 k3) rfl
      have y8 := hcv.cell 8 (v := .int .u64 (n3 : Int)) rfl
      have y9 := hcv.cell 9 (v := .string (strB t3)) rfl
      have y10 := hcv.cell 10 (v := .slice fa3 fs3.length fc3) rfl
      have y11 := hcv.cell 11 (v := .string (strB r3)) rfl
      have y12 := hcv.cell 12 (v := .slice la3 ls3.length lc3) rfl
      have y13 := hcv.cell 13 (v := .slice pa3 ps3.length pc3) rfl
      obtain ⟨b0, b1, b2, b3, b4, b5, b6⟩ := box7 hck
      have HBW1 := Lib.hid hbw
      clear hcx hck hcz hcv hbw
      by_cases hk : k = 5
      · subst hk
        go_wp2_with fail
        refine (HC.out _ HBE1.out).mono ?_
        rintro e w2 ⟨rfl, hb2⟩
        have HBE2 : Hid (Below W0.heap.size W0 w2) := HBE1.out.trans (hb2.mono HBE1.out.size)
        have hcv := HCV.out.stays hb2
        clear y0 y1 y2 y3 y4 y5 y6 y7 y8 y9 y10 y11 y12 y13 x0 b0 b1 b2 b3 b4 b5 b6 hb2 HC
        have y0 := hcv.cell 0 (v := .int .i64 k') rfl
        have y1 := hcv.cell 1 (v := .int .u64 (n' : Int)) rfl
        have y2 := hcv.cell 2 (v := .string (strB t')) rfl
        have y3 := hcv.cell 3 (v := .slice fa' fs'.length fc') rfl
        have y4 := hcv.cell 4 (v := .string (strB r')) rfl
        have y5 := hcv.cell 5 (v := .slice la' ls'.length lc') rfl
        have y6 := hcv.cell 6 (v := .slice pa' ps'.length pc') rfl
        have y7 := hcv.cell 7 (v := .int .i64 k3) rfl
        have y8 := hcv.cell 8 (v := .int .u64 (n3 : Int)) rfl
        have y9 := hcv.cell 9 (v := .string (strB t3)) rfl
        have y10 := hcv.cell 10 (v := .slice fa3 fs3.length fc3) rfl
        have y11 := hcv.cell 11 (v := .string (strB r3)) rfl
        have y12 := hcv.cell 12 (v := .slice la3 ls3.length lc3) rfl
        have y13 := hcv.cell 13 (v := .slice pa3 ps3.length pc3) rfl
        obtain ⟨-, -, hcz, hbw⟩ := HX.out w2 HBE2.out
        have z0 := hcz.cell 0 (v := .int .i64 0) rfl
        have z1 := hcz.cell 1 (v := .int .u64 0) rfl
        have z2 := hcz.cell 2 (v := .string ⟨#[]⟩) rfl
        have z3 := hcz.cell 3 (v := .slice none 0 0) rfl
        have z4 := hcz.cell 4 (v := .string ⟨#[]⟩) rfl
        have z5 := hcz.cell 5 (v := .slice none 0 0) rfl
        have z6 := hcz.cell 6 (v := .slice none 0 0) rfl
        have f0 := hcz.free 0
        have f1 := hcz.free 1
        have f2 := hcz.free 2
        have f3 := hcz.free 3
        have f4 := hcz.free 4
        have f5 := hcz.free 5
        have f6 := hcz.free 6
        have HBW2 := Lib.hid hbw
        clear hcz hcv hbw
        by_cases hn : C = 0
        · have HZ : Hid (R = .mk k3 n3 t3 fs3 r3 ls3 ps3) := by
            have h9 := HI2.out
            rw [if_pos True.intro, if_pos hn] at h9
            exact h9.symm
          have hn' : (C == 0) = true := by simpa using hn
          clear HI2 hn
          generalize (C == 0) = cb at hn' ⊢
          subst hn'
          go_wp2_with fail
          refine bodyPost_ret (v := .agg #[.int .i64 k3, .int .u64 (n3 : Int), .string (strB t3), .slice fa3 fs3.length fc3, .string (strB r3), .slice la3 ls3.length lc3, .slice pa3 ps3.length pc3]) (by simp [results, Tryz.results42, go_sem, z0, z1, z2, z3, z4, z5, z6]) rfl ?_
          rw [HZ.out]
          have hgw := HG.out
          have hb7 := below_set7 HBW2.out (show w.heap.size ≤ g + 1 + 1 by omega) (.int .i64 k3) (.int .u64 (n3 : Int)) (.string (strB t3)) (.slice fa3 fs3.length fc3) (.string (strB r3)) (.slice la3 ls3.length lc3) (.slice pa3 ps3.length pc3)
          exact ⟨⟨fa3, fc3, la3, lc3, pa3, pc3⟩, rfl, (HRX.out.stays hb7).any, hb7⟩
        · have hn' : (C == 0) = false := by simpa using hn
          have HN : Hid ((if (5 : Int) = 5 then findA (pairC (.mk k9 n9 t9 fs9 r9 ls9 ps9)) Prod.snd V.none (ps.drop (m + 1)) else V.none) = R) := by
            have h9 := HI2.out
            rw [if_pos True.intro, if_neg hn] at h9
            rw [if_pos rfl]
            exact h9
          clear HI2 hn
          generalize (C == 0) = cb at hn' ⊢
          subst hn'
          go_wp2_with fail
          go_roundw
          case rel => exact ⟨m + 1, h1, by go_num, HN, HBE2.out⟩
          case measure => simp only [intOf]; omega
      · have hk' : (k == 5) = false := by simpa using hk
        have HN : Hid ((if k = 5 then findA (pairC (.mk k9 n9 t9 fs9 r9 ls9 ps9)) Prod.snd V.none (ps.drop (m + 1)) else V.none) = R) := by
          have h9 := HI2.out
          rw [if_neg hk] at h9
          rw [if_neg hk]
          exact h9
        clear HI2 hk HC
        go_wp2_with fail
        go_roundw
        case rel => exact ⟨m + 1, h1, by go_num, HN, HBE1.out⟩
        case measure => simp only [intOf]; omega
    · have HZ : Hid (R = V.none) := by
        have h9 := HI.out
        rw [List.drop_of_length_le (by omega)] at h9
        rw [← h9]
        split <;> rfl
      have z0 := hcz.cell 0 (v := .int .i64 0) rfl
      have z1 := hcz.cell 1 (v := .int .u64 0) rfl
      have z2 := hcz.cell 2 (v := .string ⟨#[]⟩) rfl
      have z3 := hcz.cell 3 (v := .slice none 0 0) rfl
      have z4 := hcz.cell 4 (v := .string ⟨#[]⟩) rfl
      have z5 := hcz.cell 5 (v := .slice none 0 0) rfl
      have z6 := hcz.cell 6 (v := .slice none 0 0) rfl
      have f0 := hcz.free 0
      have f1 := hcz.free 1
      have f2 := hcz.free 2
      have f3 := hcz.free 3
      have f4 := hcz.free 4
      have f5 := hcz.free 5
      have f6 := hcz.free 6
      have HBW := Lib.hid hbw
      clear HI hbw hbe hcx hck hcz
      go_wp2_with fail
      refine bodyPost_ret (v := .agg #[.int .i64 0, .int .u64 0, .string ⟨#[]⟩, .slice none 0 0, .string ⟨#[]⟩, .slice none 0 0, .slice none 0 0]) (by simp [results, Tryz.results42, go_sem, z0, z1, z2, z3, z4, z5, z6]) rfl ?_
      rw [HZ.out]
      have hgw := HG.out
      exact ⟨A3.nil, rfl, rep_none, below_set7 HBW.out (by omega) _ _ _ _ _ _ _⟩
end
/-- how far the pairs with one put have come -/
def PutI (R rest : List (V × V)) (w W1 wr : World) (g7 : Nat) (q : Option Addr) (d : Nat) (xs : List ((V × A3) × (V × A3))) : Prop :=
  xs.map pE ++ rest = R ∧ (∀ p ∈ xs, Rep (fun _ => True) w p.1.1 p.1.2 ∧ Rep (fun _ => True) w p.2.1 p.2.2) ∧ OwnS 94 14 pC W1.heap.size wr (.slice q xs.length d) xs ∧ CellsAt wr g7 47 #[.int .i64 0, .int .u64 0, .string ⟨#[]⟩, .slice none 0 0, .string ⟨#[]⟩, .slice none 0 0, .slice q xs.length d] ∧ Grew [g7] W1 wr
section
variable {R rest : List (V × V)} {w W1 w6 w7 : World} {g7 : Nat} {q : Option Addr} {d : Nat} {xs : List ((V × A3) × (V × A3))}
theorem PutI.stays (h : PutI R rest w W1 w6 g7 q d xs) (hb : Below w6.heap.size w6 w7) : PutI R rest w W1 w7 g7 q d xs :=
  ⟨h.1, h.2.1, h.2.2.1.stays hb, h.2.2.2.1.stays hb, h.2.2.2.2.add hb⟩
theorem PutI.len (h : PutI R rest w W1 w6 g7 q d xs) : xs.length ≤ R.length := by rw [← h.1]; simp
theorem PutI.push {y : V × V} (h : PutI R (y :: rest) w W1 w6 g7 q d xs) (y' : (V × A3) × (V × A3)) (hy : pE y' = y) (hy2 : Rep (fun _ => True) w y'.1.1 y'.1.2 ∧ Rep (fun _ => True) w y'.2.1 y'.2.2) (hgB : g7 < W1.heap.size) {v7 : Value}
    (o7 : OwnS 94 14 pC W1.heap.size w7 v7 (xs ++ [y'])) (g : w6.grownBy w7 (Value.slice q xs.length d).ownBlock) :
    ∃ q7 d7, v7 = .slice q7 (xs.length + 1) d7 ∧ CellsAt w7 g7 47 #[.int .i64 0, .int .u64 0, .string ⟨#[]⟩, .slice none 0 0, .string ⟨#[]⟩, .slice none 0 0, .slice q xs.length d] ∧ Hid (PutI R rest w W1 (w7.setCell ⟨g7, 6, none⟩ (.slice q7 (xs.length + 1) d7)) g7 q7 d7 (xs ++ [y'])) := by
  obtain ⟨h1, h2, h3, h4, h5⟩ := h
  obtain ⟨q7, d7, hv, -, -⟩ := o7.row.shape pC_len
  rw [List.length_append, List.length_singleton] at hv
  subst hv
  have hc7 := h4.grown g (fun e => by have := (h3.lt _ e).1; omega)
  have hG7 : Grew [g7] W1 w7 := h5.grown g (fun i hi => .inr (h3.lt i hi).1)
  refine ⟨q7, d7, rfl, hc7, ?_, ?_, ?_, ?_, ?_⟩
  · rw [List.map_append, List.append_assoc, ← h1, ← hy]; rfl
  · intro p hp
    rcases List.mem_append.1 hp with hp | hp
    · exact h2 p hp
    · obtain rfl : p = y' := by simpa using hp
      exact hy2
  · rw [List.length_append, List.length_singleton]
    have hgs := ((Grew.refl [g7] w7).setCell (p := ⟨g7, 6, none⟩) (.inl (by simp)) (.slice q7 (xs.length + 1) d7)).toGrown (g := g7) (fun i hi => .inl (by simpa using hi))
    have o8 : OwnS 94 14 pC W1.heap.size (w7.setCell ⟨g7, 6, none⟩ (.slice q7 (xs.length + 1) d7)) (.slice q7 (xs.length + 1) d7) (xs ++ [y']) := own_grown o7 hgs (fun k hk e => by cases e; have := (o7.lt _ hk).1; omega)
    exact o8
  · rw [List.length_append, List.length_singleton]
    exact hc7.set 6 _
  · exact hG7.setCell (.inl (by simp)) _
end
section
variable {k : Int} {n : Nat} {t r : List UInt8} {fs : List (Int × V)} {ls : List V} {ps : List (V × V)} {fa la pa : Option Addr} {fc lc pc : Nat} {S : Nat → Prop} {w : World}
variable {k2 : Int} {n2 : Nat} {t2 r2 : List UInt8} {fs2 : List (Int × V)} {ls2 : List V} {ps2 : List (V × V)} {fa2 la2 pa2 : Option Addr} {fc2 lc2 pc2 : Nat} {S2 : Nat → Prop}
variable {k9 : Int} {n9 : Nat} {t9 r9 : List UInt8} {fs9 : List (Int × V)} {ls9 : List V} {ps9 : List (V × V)} {fa9 la9 pa9 : Option Addr} {fc9 lc9 pc9 : Nat} {S9 : Nat → Prop}
end
end Go.Proofs.YtcjflglpkpkflaaGreatDoor
