/- The reference's Find, Put. -/
import Derived.Test.YtcnjlbbckdmifaaVz
import Derived.Test.YtcnjlbbckdmifaaVp
import Derived.Test.YtcnjlbbckdmifaaVs
import Derived.Deep.CutRange
namespace Go.Proofs.Ytcnjlbbckdmifaa
open Go Go.RowKit
set_option linter.unusedVariables false
section
variable {k : Int} {n : Nat} {t r : List UInt8} {fs : List (Int × V)} {ls : List V} {ps : List (V × V)} {fa la pa : Option Addr} {fc lc pc : Nat} {S : Nat → Prop} {w : World}
variable {k2 : Int} {n2 : Nat} {t2 r2 : List UInt8} {fs2 : List (Int × V)} {ls2 : List V} {ps2 : List (V × V)} {fa2 la2 pa2 : Option Addr} {fc2 lc2 pc2 : Nat} {S2 : Nat → Prop}
variable {k9 : Int} {n9 : Nat} {t9 r9 : List UInt8} {fs9 : List (Int × V)} {ls9 : List V} {ps9 : List (V × V)} {fa9 la9 pa9 : Option Addr} {fc9 lc9 pc9 : Nat} {S9 : Nat → Prop}
set_option maxRecDepth 100000 in
set_option maxHeartbeats 4000000 in
theorem rfind_any (hr : Rep S w (.mk k n t fs r ls ps) ⟨fa, fc, la, lc, pa, pc⟩) (hr9 : Rep S9 w (.mk k9 n9 t9 fs9 r9 ls9 ps9) ⟨fa9, fc9, la9, lc9, pa9, pc9⟩) (hlen : ps.length ≤ 1000000) :
    Calls Try.prog 32 #[.agg #[.int .i64 k, .int .u64 (n : Int), .string (strB t), .slice fa fs.length fc, .string (strB r), .slice la ls.length lc, .slice pa ps.length pc], .agg #[.int .i64 k9, .int .u64 (n9 : Int), .string (strB t9), .slice fa9 fs9.length fc9, .string (strB r9), .slice la9 ls9.length lc9, .slice pa9 ps9.length pc9]] w (ValP (findV (.mk k n t fs r ls ps) (.mk k9 n9 t9 fs9 r9 ls9 ps9)) w) := by
  obtain ⟨W0, hW0⟩ : ∃ W0, W0 = ((w.alloc (.cells #[.int .i64 k, .int .u64 (n : Int), .string (strB t), .slice fa fs.length fc, .string (strB r), .slice la ls.length lc, .slice pa ps.length pc] 34)).alloc (.cells #[.int .i64 k9, .int .u64 (n9 : Int), .string (strB t9), .slice fa9 fs9.length fc9, .string (strB r9), .slice la9 ls9.length lc9, .slice pa9 ps9.length pc9] 34)).alloc (.cells #[.int .i64 0, .int .u64 0, .string ⟨#[]⟩, .slice none 0 0, .string ⟨#[]⟩, .slice none 0 0, .slice none 0 0] 34) := ⟨_, rfl⟩
  obtain ⟨g, hg⟩ : ∃ g, g = w.heap.size := ⟨_, rfl⟩
  have hBA : Below w.heap.size w W0 := by rw [hW0]; exact (((Below.refl _ _).alloc (Nat.le_refl _) _).alloc (by simp) _).alloc (by simp; omega) _
  have hcx : CellsAt W0 g 34 #[.int .i64 k, .int .u64 (n : Int), .string (strB t), .slice fa fs.length fc, .string (strB r), .slice la ls.length lc, .slice pa ps.length pc] := by rw [hW0, hg]; exact ((CellsAt.new w _ _).allocC).allocC
  have hck : CellsAt W0 (g + 1) 34 #[.int .i64 k9, .int .u64 (n9 : Int), .string (strB t9), .slice fa9 fs9.length fc9, .string (strB r9), .slice la9 ls9.length lc9, .slice pa9 ps9.length pc9] := by rw [hW0, hg]; exact (CellsAt.new' (by simp)).allocC
  have hcz : CellsAt W0 (g + 1 + 1) 34 #[.int .i64 0, .int .u64 0, .string ⟨#[]⟩, .slice none 0 0, .string ⟨#[]⟩, .slice none 0 0, .slice none 0 0] := by rw [hW0, hg]; exact CellsAt.new' (by simp)
  have HX : Hid (∀ W, Below W0.heap.size W0 W → CellsAt W g 34 #[.int .i64 k, .int .u64 (n : Int), .string (strB t), .slice fa fs.length fc, .string (strB r), .slice la ls.length lc, .slice pa ps.length pc] ∧ CellsAt W (g + 1) 34 #[.int .i64 k9, .int .u64 (n9 : Int), .string (strB t9), .slice fa9 fs9.length fc9, .string (strB r9), .slice la9 ls9.length lc9, .slice pa9 ps9.length pc9] ∧ CellsAt W (g + 1 + 1) 34 #[.int .i64 0, .int .u64 0, .string ⟨#[]⟩, .slice none 0 0, .string ⟨#[]⟩, .slice none 0 0, .slice none 0 0] ∧ Below w.heap.size w W) := fun W hb =>
    ⟨hcx.stays hb, hck.stays hb, hcz.stays hb, hBA.trans (hb.mono hBA.size)⟩
  have HR0 := Lib.hid hr
  have HR9 := Lib.hid hr9
  have HW := Lib.hid hW0
  have HG := Lib.hid hg
  obtain ⟨R, hR⟩ : ∃ R, R = findV (.mk k n t fs r ls ps) (.mk k9 n9 t9 fs9 r9 ls9 ps9) := ⟨_, rfl⟩
  rw [← hR]
  have hR' : (if k = 5 then findA (pairC (.mk k9 n9 t9 fs9 r9 ls9 ps9)) Prod.snd V.none (ps.drop 0) else V.none) = R := by rw [hR]; rfl
  have HR := Lib.hid hR'
  have x6 := hcx.cell 6 (v := .slice pa ps.length pc) rfl
  clear hr hr9 hW0 hg hBA hcx hck hcz hR hR'
  go_enter Try.func32, Try.ntmps32
  go_wp2_with fail
  have hW0 := HW.out
  have hg := HG.out
  rw [← hW0, ← hg]
  clear hW0 hg HW
  go_loopw [10] (fun i wr => ∃ m : Nat, m ≤ ps.length ∧ i = .int .i64 m ∧ Hid ((if k = 5 then findA (pairC (.mk k9 n9 t9 fs9 r9 ls9 ps9)) Prod.snd V.none (ps.drop m) else V.none) = R) ∧ Below W0.heap.size W0 wr) (fun i _ => ps.length - (intOf i).toNat)
  case atStart => exact ⟨0, Nat.zero_le _, rfl, HR, Below.refl _ _⟩
  case round =>
    clear x6 HR
    obtain ⟨m, hm, rfl, HI, hbe⟩ := hrel
    obtain ⟨hcx, hck, hcz, hbw⟩ := HX.out wr hbe
    have hgl := hcx.lt
    by_cases h1 : m < ps.length
    · obtain ⟨⟨⟨k', n', t', fs', r', ls', ps'⟩, ⟨k3, n3, t3, fs3, r3, ls3, ps3⟩⟩, hq⟩ : ∃ p, ps[m]? = some p := ⟨_, List.getElem?_eq_getElem h1⟩
      obtain ⟨b, o, fa', la', pa', fc', lc', pc', fa3, la3, pa3, fc3, lc3, pc3, rfl, hrx, hry, c0, c1, c2, c3, c4, c5, c6, c7, c8, c9, c10, c11, c12, c13⟩ := HR0.out.pairAt hq
      have hlb : b < w.heap.size := World.block_lt_of_cell? w _ c0
      replace c0 := later1 c0 hlb hbw
      replace c1 := later1 c1 hlb hbw
      replace c2 := later1 c2 hlb hbw
      replace c3 := later1 c3 hlb hbw
      replace c4 := later1 c4 hlb hbw
      replace c5 := later1 c5 hlb hbw
      replace c6 := later1 c6 hlb hbw
      replace c7 := later1 c7 hlb hbw
      replace c8 := later1 c8 hlb hbw
      replace c9 := later1 c9 hlb hbw
      replace c10 := later1 c10 hlb hbw
      replace c11 := later1 c11 hlb hbw
      replace c12 := later1 c12 hlb hbw
      replace c13 := later1 c13 hlb hbw
      have hI := HI.out
      rw [drop_fields hq] at hI
      have hI2 : (if k = 5 then (if cmpV (.mk k' n' t' fs' r' ls' ps') (.mk k9 n9 t9 fs9 r9 ls9 ps9) = 0 then (.mk k3 n3 t3 fs3 r3 ls3 ps3) else findA (pairC (.mk k9 n9 t9 fs9 r9 ls9 ps9)) Prod.snd V.none (ps.drop (m + 1))) else V.none) = R := hI
      obtain ⟨W1, hW1⟩ : ∃ W1, W1 = wr.alloc (.cells #[.int .i64 k', .int .u64 (n' : Int), .string (strB t'), .slice fa' fs'.length fc', .string (strB r'), .slice la' ls'.length lc', .slice pa' ps'.length pc', .int .i64 k3, .int .u64 (n3 : Int), .string (strB t3), .slice fa3 fs3.length fc3, .string (strB r3), .slice la3 ls3.length lc3, .slice pa3 ps3.length pc3] 89) := ⟨_, rfl⟩
      obtain ⟨h, hh⟩ : ∃ h, h = wr.heap.size := ⟨_, rfl⟩
      have hbA : Below wr.heap.size wr W1 := by rw [hW1]; exact (Below.refl _ _).alloc (Nat.le_refl _) _
      have hcv : CellsAt W1 h 89 #[.int .i64 k', .int .u64 (n' : Int), .string (strB t'), .slice fa' fs'.length fc', .string (strB r'), .slice la' ls'.length lc', .slice pa' ps'.length pc', .int .i64 k3, .int .u64 (n3 : Int), .string (strB t3), .slice fa3 fs3.length fc3, .string (strB r3), .slice la3 ls3.length lc3, .slice pa3 ps3.length pc3] := by rw [hW1, hh]; exact CellsAt.new wr _ _
      have hbe1 : Below W0.heap.size W0 W1 := hbe.trans (hbA.mono hbe.size)
      have HC : Hid (∀ W, Below W0.heap.size W0 W → Calls _ _ _ W _) := fun W hb => rsame_lit (HR0.out.pairAt hq |> fun _ => hrx.stays ((HX.out W hb).2.2.2)) (HR9.out.stays ((HX.out W hb).2.2.2))
      generalize cmpV (.mk k' n' t' fs' r' ls' ps') (.mk k9 n9 t9 fs9 r9 ls9 ps9) = C at HC hI2
      have HI2 := Lib.hid hI2
      have HRX := Lib.hid hry
      have HBE1 := Lib.hid hbe1
      have HCV := Lib.hid hcv
      have HW1 := Lib.hid hW1
      have HH := Lib.hid hh
      clear hI hI2 HI hrx hry hq hbw hbe hcx hck hcz hbA hW1 hh hcv hbe1
      go_upto_region 4 with fail
      have hW1 := HW1.out
      have hh := HH.out
      rw [← hW1, ← hh]
      clear hW1 hh HW1 HH c0 c1 c2 c3 c4 c5 c6 c7 c8 c9 c10 c11 c12 c13
      obtain ⟨hcx, hck, hcz, hbw⟩ := HX.out W1 HBE1.out
      have x0 := hcx.cell 0 (v := .int .i64 k) rfl
      have hcv := HCV.out
      have y0 := hcv.cell 0 (v := .int .i64 k') rfl
      have y1 := hcv.cell 1 (v := .int .u64 (n' : Int)) rfl
      have y2 := hcv.cell 2 (v := .string (strB t')) rfl
      have y3 := hcv.cell 3 (v := .slice fa' fs'.length fc') rfl
      have y4 := hcv.cell 4 (v := .string (strB r')) rfl
      have y5 := hcv.cell 5 (v := .slice la' ls'.length lc') rfl
      have y6 := hcv.cell 6 (v := .slice pa' ps'.length pc') rfl
      have y7 := hcv.cell 7 (v := .int .i64 k3) rfl
      have y8 := hcv.cell 8 (v := .int .u64 (n3 : Int)) rfl
      have y9 := hcv.cell 9 (v := .string (strB t3)) rfl
      have y10 := hcv.cell 10 (v := .slice fa3 fs3.length fc3) rfl
      have y11 := hcv.cell 11 (v := .string (strB r3)) rfl
      have y12 := hcv.cell 12 (v := .slice la3 ls3.length lc3) rfl
      have y13 := hcv.cell 13 (v := .slice pa3 ps3.length pc3) rfl
      obtain ⟨b0, b1, b2, b3, b4, b5, b6⟩ := box7 hck
      have HBW1 := Lib.hid hbw
      clear hcx hck hcz hcv hbw
      by_cases hk : k = 5
      · subst hk
        go_wp2_with fail
        refine (HC.out _ HBE1.out).mono ?_
        rintro e w2 ⟨rfl, hb2⟩
        have HBE2 : Hid (Below W0.heap.size W0 w2) := HBE1.out.trans (hb2.mono HBE1.out.size)
        have hcv := HCV.out.stays hb2
        clear y0 y1 y2 y3 y4 y5 y6 y7 y8 y9 y10 y11 y12 y13 x0 b0 b1 b2 b3 b4 b5 b6 hb2 HC
        have y0 := hcv.cell 0 (v := .int .i64 k') rfl
        have y1 := hcv.cell 1 (v := .int .u64 (n' : Int)) rfl
        have y2 := hcv.cell 2 (v := .string (strB t')) rfl
        have y3 := hcv.cell 3 (v := .slice fa' fs'.length fc') rfl
        have y4 := hcv.cell 4 (v := .string (strB r')) rfl
        have y5 := hcv.cell 5 (v := .slice la' ls'.length lc') rfl
        have y6 := hcv.cell 6 (v := .slice pa' ps'.length pc') rfl
        have y7 := hcv.cell 7 (v := .int .i64 k3) rfl
        have y8 := hcv.cell 8 (v := .int .u64 (n3 : Int)) rfl
        have y9 := hcv.cell 9 (v := .string (strB t3)) rfl
        have y10 := hcv.cell 10 (v := .slice fa3 fs3.length fc3) rfl
        have y11 := hcv.cell 11 (v := .string (strB r3)) rfl
        have y12 := hcv.cell 12 (v := .slice la3 ls3.length lc3) rfl
        have y13 := hcv.cell 13 (v := .slice pa3 ps3.length pc3) rfl
        obtain ⟨-, -, hcz, hbw⟩ := HX.out w2 HBE2.out
        have z0 := hcz.cell 0 (v := .int .i64 0) rfl
        have z1 := hcz.cell 1 (v := .int .u64 0) rfl
        have z2 := hcz.cell 2 (v := .string ⟨#[]⟩) rfl
        have z3 := hcz.cell 3 (v := .slice none 0 0) rfl
        have z4 := hcz.cell 4 (v := .string ⟨#[]⟩) rfl
        have z5 := hcz.cell 5 (v := .slice none 0 0) rfl
        have z6 := hcz.cell 6 (v := .slice none 0 0) rfl
        have f0 := hcz.free 0
        have f1 := hcz.free 1
        have f2 := hcz.free 2
        have f3 := hcz.free 3
        have f4 := hcz.free 4
        have f5 := hcz.free 5
        have f6 := hcz.free 6
        have HBW2 := Lib.hid hbw
        clear hcz hcv hbw
        by_cases hn : C = 0
        · have HZ : Hid (R = .mk k3 n3 t3 fs3 r3 ls3 ps3) := by
            have h9 := HI2.out
            rw [if_pos True.intro, if_pos hn] at h9
            exact h9.symm
          have hn' : (C == 0) = true := by simpa using hn
          clear HI2 hn
          generalize (C == 0) = cb at hn' ⊢
          subst hn'
          go_wp2_with fail
          refine bodyPost_ret (v := .agg #[.int .i64 k3, .int .u64 (n3 : Int), .string (strB t3), .slice fa3 fs3.length fc3, .string (strB r3), .slice la3 ls3.length lc3, .slice pa3 ps3.length pc3]) (by simp [results, Try.results32, go_sem, z0, z1, z2, z3, z4, z5, z6]) rfl ?_
          rw [HZ.out]
          have hgw := HG.out
          have hb7 := below_set7 HBW2.out (show w.heap.size ≤ g + 1 + 1 by omega) (.int .i64 k3) (.int .u64 (n3 : Int)) (.string (strB t3)) (.slice fa3 fs3.length fc3) (.string (strB r3)) (.slice la3 ls3.length lc3) (.slice pa3 ps3.length pc3)
          exact ⟨⟨fa3, fc3, la3, lc3, pa3, pc3⟩, rfl, (HRX.out.stays hb7).any, hb7⟩
        · have hn' : (C == 0) = false := by simpa using hn
          have HN : Hid ((if (5 : Int) = 5 then findA (pairC (.mk k9 n9 t9 fs9 r9 ls9 ps9)) Prod.snd V.none (ps.drop (m + 1)) else V.none) = R) := by
            have h9 := HI2.out
            rw [if_pos True.intro, if_neg hn] at h9
            rw [if_pos rfl]
            exact h9
          clear HI2 hn
          generalize (C == 0) = cb at hn' ⊢
          subst hn'
          go_wp2_with fail
          go_roundw
          case rel => exact ⟨m + 1, h1, by go_num, HN, HBE2.out⟩
          case measure => simp only [intOf]; omega
      · have hk' : (k == 5) = false := by simpa using hk
        have HN : Hid ((if k = 5 then findA (pairC (.mk k9 n9 t9 fs9 r9 ls9 ps9)) Prod.snd V.none (ps.drop (m + 1)) else V.none) = R) := by
          have h9 := HI2.out
          rw [if_neg hk] at h9
          rw [if_neg hk]
          exact h9
        clear HI2 hk HC
        go_wp2_with fail
        go_roundw
        case rel => exact ⟨m + 1, h1, by go_num, HN, HBE1.out⟩
        case measure => simp only [intOf]; omega
    · have HZ : Hid (R = V.none) := by
        have h9 := HI.out
        rw [List.drop_of_length_le (by omega)] at h9
        rw [← h9]
        split <;> rfl
      have z0 := hcz.cell 0 (v := .int .i64 0) rfl
      have z1 := hcz.cell 1 (v := .int .u64 0) rfl
      have z2 := hcz.cell 2 (v := .string ⟨#[]⟩) rfl
      have z3 := hcz.cell 3 (v := .slice none 0 0) rfl
      have z4 := hcz.cell 4 (v := .string ⟨#[]⟩) rfl
      have z5 := hcz.cell 5 (v := .slice none 0 0) rfl
      have z6 := hcz.cell 6 (v := .slice none 0 0) rfl
      have f0 := hcz.free 0
      have f1 := hcz.free 1
      have f2 := hcz.free 2
      have f3 := hcz.free 3
      have f4 := hcz.free 4
      have f5 := hcz.free 5
      have f6 := hcz.free 6
      have HBW := Lib.hid hbw
      clear HI hbw hbe hcx hck hcz
      go_wp2_with fail
      refine bodyPost_ret (v := .agg #[.int .i64 0, .int .u64 0, .string ⟨#[]⟩, .slice none 0 0, .string ⟨#[]⟩, .slice none 0 0, .slice none 0 0]) (by simp [results, Try.results32, go_sem, z0, z1, z2, z3, z4, z5, z6]) rfl ?_
      rw [HZ.out]
      have hgw := HG.out
      exact ⟨A3.nil, rfl, rep_none, below_set7 HBW.out (by omega) _ _ _ _ _ _ _⟩
end
/-- how far the pairs with one put have come -/
def PutI (R rest : List (V × V)) (w W1 wr : World) (g7 : Nat) (q : Option Addr) (d : Nat) (xs : List ((V × A3) × (V × A3))) : Prop :=
  xs.map pE ++ rest = R ∧ (∀ p ∈ xs, Rep (fun _ => True) w p.1.1 p.1.2 ∧ Rep (fun _ => True) w p.2.1 p.2.2) ∧ OwnS 89 14 pC W1.heap.size wr (.slice q xs.length d) xs ∧ CellsAt wr g7 34 #[.int .i64 0, .int .u64 0, .string ⟨#[]⟩, .slice none 0 0, .string ⟨#[]⟩, .slice none 0 0, .slice q xs.length d] ∧ Grew [g7] W1 wr
section
variable {R rest : List (V × V)} {w W1 w6 w7 : World} {g7 : Nat} {q : Option Addr} {d : Nat} {xs : List ((V × A3) × (V × A3))}
theorem PutI.stays (h : PutI R rest w W1 w6 g7 q d xs) (hb : Below w6.heap.size w6 w7) : PutI R rest w W1 w7 g7 q d xs :=
  ⟨h.1, h.2.1, h.2.2.1.stays hb, h.2.2.2.1.stays hb, h.2.2.2.2.add hb⟩
theorem PutI.len (h : PutI R rest w W1 w6 g7 q d xs) : xs.length ≤ R.length := by rw [← h.1]; simp
theorem PutI.push {y : V × V} (h : PutI R (y :: rest) w W1 w6 g7 q d xs) (y' : (V × A3) × (V × A3)) (hy : pE y' = y) (hy2 : Rep (fun _ => True) w y'.1.1 y'.1.2 ∧ Rep (fun _ => True) w y'.2.1 y'.2.2) (hgB : g7 < W1.heap.size) {v7 : Value}
    (o7 : OwnS 89 14 pC W1.heap.size w7 v7 (xs ++ [y'])) (g : w6.grownBy w7 (Value.slice q xs.length d).ownBlock) :
    ∃ q7 d7, v7 = .slice q7 (xs.length + 1) d7 ∧ CellsAt w7 g7 34 #[.int .i64 0, .int .u64 0, .string ⟨#[]⟩, .slice none 0 0, .string ⟨#[]⟩, .slice none 0 0, .slice q xs.length d] ∧ Hid (PutI R rest w W1 (w7.setCell ⟨g7, 6, none⟩ (.slice q7 (xs.length + 1) d7)) g7 q7 d7 (xs ++ [y'])) := by
  obtain ⟨h1, h2, h3, h4, h5⟩ := h
  obtain ⟨q7, d7, hv, -, -⟩ := o7.row.shape pC_len
  rw [List.length_append, List.length_singleton] at hv
  subst hv
  have hc7 := h4.grown g (fun e => by have := (h3.lt _ e).1; omega)
  have hG7 : Grew [g7] W1 w7 := h5.grown g (fun i hi => .inr (h3.lt i hi).1)
  refine ⟨q7, d7, rfl, hc7, ?_, ?_, ?_, ?_, ?_⟩
  · rw [List.map_append, List.append_assoc, ← h1, ← hy]; rfl
  · intro p hp
    rcases List.mem_append.1 hp with hp | hp
    · exact h2 p hp
    · obtain rfl : p = y' := by simpa using hp
      exact hy2
  · rw [List.length_append, List.length_singleton]
    have hgs := ((Grew.refl [g7] w7).setCell (p := ⟨g7, 6, none⟩) (.inl (by simp)) (.slice q7 (xs.length + 1) d7)).toGrown (g := g7) (fun i hi => .inl (by simpa using hi))
    have o8 : OwnS 89 14 pC W1.heap.size (w7.setCell ⟨g7, 6, none⟩ (.slice q7 (xs.length + 1) d7)) (.slice q7 (xs.length + 1) d7) (xs ++ [y']) := own_grown o7 hgs (fun k hk e => by cases e; have := (o7.lt _ hk).1; omega)
    exact o8
  · rw [List.length_append, List.length_singleton]
    exact hc7.set 6 _
  · exact hG7.setCell (.inl (by simp)) _
end
section
variable {k : Int} {n : Nat} {t r : List UInt8} {fs : List (Int × V)} {ls : List V} {ps : List (V × V)} {fa la pa : Option Addr} {fc lc pc : Nat} {S : Nat → Prop} {w : World}
variable {k2 : Int} {n2 : Nat} {t2 r2 : List UInt8} {fs2 : List (Int × V)} {ls2 : List V} {ps2 : List (V × V)} {fa2 la2 pa2 : Option Addr} {fc2 lc2 pc2 : Nat} {S2 : Nat → Prop}
variable {k9 : Int} {n9 : Nat} {t9 r9 : List UInt8} {fs9 : List (Int × V)} {ls9 : List V} {ps9 : List (V × V)} {fa9 la9 pa9 : Option Addr} {fc9 lc9 pc9 : Nat} {S9 : Nat → Prop}
set_option maxRecDepth 100000 in
set_option maxHeartbeats 16000000 in
theorem rput_any (hr : Rep S w (.mk k n t fs r ls ps) ⟨fa, fc, la, lc, pa, pc⟩) (hr9 : Rep S9 w (.mk k9 n9 t9 fs9 r9 ls9 ps9) ⟨fa9, fc9, la9, lc9, pa9, pc9⟩) (hx : Rep S2 w (.mk k2 n2 t2 fs2 r2 ls2 ps2) ⟨fa2, fc2, la2, lc2, pa2, pc2⟩) (hlen : ps.length ≤ 1000000) :
    Calls Try.prog 30 #[.agg #[.int .i64 k, .int .u64 (n : Int), .string (strB t), .slice fa fs.length fc, .string (strB r), .slice la ls.length lc, .slice pa ps.length pc], .agg #[.int .i64 k9, .int .u64 (n9 : Int), .string (strB t9), .slice fa9 fs9.length fc9, .string (strB r9), .slice la9 ls9.length lc9, .slice pa9 ps9.length pc9], .agg #[.int .i64 k2, .int .u64 (n2 : Int), .string (strB t2), .slice fa2 fs2.length fc2, .string (strB r2), .slice la2 ls2.length lc2, .slice pa2 ps2.length pc2]] w (ValP (putV (.mk k n t fs r ls ps) (.mk k9 n9 t9 fs9 r9 ls9 ps9) (.mk k2 n2 t2 fs2 r2 ls2 ps2)) w) := by
  obtain ⟨W0, hW0⟩ : ∃ W0, W0 = (((w.alloc (.cells #[.int .i64 k, .int .u64 (n : Int), .string (strB t), .slice fa fs.length fc, .string (strB r), .slice la ls.length lc, .slice pa ps.length pc] 34)).alloc (.cells #[.int .i64 k9, .int .u64 (n9 : Int), .string (strB t9), .slice fa9 fs9.length fc9, .string (strB r9), .slice la9 ls9.length lc9, .slice pa9 ps9.length pc9] 34)).alloc (.cells #[.int .i64 k2, .int .u64 (n2 : Int), .string (strB t2), .slice fa2 fs2.length fc2, .string (strB r2), .slice la2 ls2.length lc2, .slice pa2 ps2.length pc2] 34)).alloc (.cells #[.int .i64 0, .int .u64 0, .string ⟨#[]⟩, .slice none 0 0, .string ⟨#[]⟩, .slice none 0 0, .slice none 0 0] 34) := ⟨_, rfl⟩
  obtain ⟨g, hg⟩ : ∃ g, g = w.heap.size := ⟨_, rfl⟩
  have hsz : W0.heap.size = g + 1 + 1 + 1 + 1 := by rw [hW0, hg]; simp
  have hBA : Below w.heap.size w W0 := by rw [hW0]; exact ((((Below.refl _ _).alloc (Nat.le_refl _) _).alloc (by simp) _).alloc (by simp; omega) _).alloc (by simp; omega) _
  have hcx : CellsAt W0 g 34 #[.int .i64 k, .int .u64 (n : Int), .string (strB t), .slice fa fs.length fc, .string (strB r), .slice la ls.length lc, .slice pa ps.length pc] := by rw [hW0, hg]; exact (((CellsAt.new w _ _).allocC).allocC).allocC
  have hck : CellsAt W0 (g + 1) 34 #[.int .i64 k9, .int .u64 (n9 : Int), .string (strB t9), .slice fa9 fs9.length fc9, .string (strB r9), .slice la9 ls9.length lc9, .slice pa9 ps9.length pc9] := by rw [hW0, hg]; exact ((CellsAt.new' (by simp)).allocC).allocC
  have hcy : CellsAt W0 (g + 1 + 1) 34 #[.int .i64 k2, .int .u64 (n2 : Int), .string (strB t2), .slice fa2 fs2.length fc2, .string (strB r2), .slice la2 ls2.length lc2, .slice pa2 ps2.length pc2] := by rw [hW0, hg]; exact (CellsAt.new' (by simp)).allocC
  have hcz : CellsAt W0 (g + 1 + 1 + 1) 34 #[.int .i64 0, .int .u64 0, .string ⟨#[]⟩, .slice none 0 0, .string ⟨#[]⟩, .slice none 0 0, .slice none 0 0] := by rw [hW0, hg]; exact CellsAt.new' (by simp)
  by_cases hk : k = 5 ∨ k = 0
  · obtain ⟨R, hR⟩ : ∃ R, R = putA (pairC (.mk k9 n9 t9 fs9 r9 ls9 ps9)) (.mk k9 n9 t9 fs9 r9 ls9 ps9, .mk k2 n2 t2 fs2 r2 ls2 ps2) ps (k2 == 0) := ⟨_, rfl⟩
    have HG : Hid (putV (.mk k n t fs r ls ps) (.mk k9 n9 t9 fs9 r9 ls9 ps9) (.mk k2 n2 t2 fs2 r2 ls2 ps2) = mapV R) := by
      show (if k ≠ 5 ∧ k ≠ 0 then _ else mapV (putA (pairC (.mk k9 n9 t9 fs9 r9 ls9 ps9)) (.mk k9 n9 t9 fs9 r9 ls9 ps9, .mk k2 n2 t2 fs2 r2 ls2 ps2) ps (k2 == 0))) = _
      rw [if_neg (by omega), hR]
    have hRl : R.length ≤ 1000001 := by rw [hR]; have := putA_len (c := pairC (.mk k9 n9 t9 fs9 r9 ls9 ps9)) (x := (.mk k9 n9 t9 fs9 r9 ls9 ps9, .mk k2 n2 t2 fs2 r2 ls2 ps2)) ps (k2 == 0); omega
    have HRL := Lib.hid hRl
    obtain ⟨W1, hW1⟩ : ∃ W1, W1 = W0.alloc (.cells #[.int .i64 0, .int .u64 0, .string ⟨#[]⟩, .slice none 0 0, .string ⟨#[]⟩, .slice none 0 0, .slice none 0 0] 34) := ⟨_, rfl⟩
    have hbA : Below W0.heap.size W0 W1 := by rw [hW1]; exact (Below.refl _ _).alloc (Nat.le_refl _) _
    have hco : CellsAt W1 (g + 1 + 1 + 1 + 1) 34 #[.int .i64 0, .int .u64 0, .string ⟨#[]⟩, .slice none 0 0, .string ⟨#[]⟩, .slice none 0 0, .slice none 0 0] := by rw [hW1, ← hsz]; exact CellsAt.new W0 _ _
    have hsz1 : W1.heap.size = g + 1 + 1 + 1 + 1 + 1 := by rw [hW1]; simp [hsz]
    have hBA1 : Below w.heap.size w W1 := hBA.trans (hbA.mono hBA.size)
    have hcx1 := hcx.stays hbA
    have hck1 := hck.stays hbA
    have hcy1 := hcy.stays hbA
    have hcz1 := hcz.stays hbA
    have HX : Hid (∀ W, Grew [g + 1 + 1 + 1 + 1] W1 W → CellsAt W g 34 #[.int .i64 k, .int .u64 (n : Int), .string (strB t), .slice fa fs.length fc, .string (strB r), .slice la ls.length lc, .slice pa ps.length pc] ∧ CellsAt W (g + 1) 34 #[.int .i64 k9, .int .u64 (n9 : Int), .string (strB t9), .slice fa9 fs9.length fc9, .string (strB r9), .slice la9 ls9.length lc9, .slice pa9 ps9.length pc9] ∧ CellsAt W (g + 1 + 1) 34 #[.int .i64 k2, .int .u64 (n2 : Int), .string (strB t2), .slice fa2 fs2.length fc2, .string (strB r2), .slice la2 ls2.length lc2, .slice pa2 ps2.length pc2] ∧ CellsAt W (g + 1 + 1 + 1) 34 #[.int .i64 0, .int .u64 0, .string ⟨#[]⟩, .slice none 0 0, .string ⟨#[]⟩, .slice none 0 0, .slice none 0 0] ∧ Below w.heap.size w W) := fun W hG =>
      ⟨hcx1.grew hG (by simp only [List.mem_singleton]; omega), hck1.grew hG (by simp only [List.mem_singleton]; omega), hcy1.grew hG (by simp only [List.mem_singleton]; omega), hcz1.grew hG (by simp only [List.mem_singleton]; omega), hG.below hBA1 (fun i hi => by simp at hi; omega) hBA1.size⟩
    have HI0 : Hid (PutI R (putA (pairC (.mk k9 n9 t9 fs9 r9 ls9 ps9)) (.mk k9 n9 t9 fs9 r9 ls9 ps9, .mk k2 n2 t2 fs2 r2 ls2 ps2) (ps.drop 0) (k2 == 0)) w W1 W1 (g + 1 + 1 + 1 + 1) none 0 []) := ⟨by rw [hR]; rfl, (fun p hp => by cases hp), OwnS.nil _ _, hco, Grew.refl _ _⟩
    have HR0 := Lib.hid hr
    have HR9 := Lib.hid hr9
    have HXR : Hid (Rep (fun _ => True) w (.mk k9 n9 t9 fs9 r9 ls9 ps9) ⟨fa9, fc9, la9, lc9, pa9, pc9⟩ ∧ Rep (fun _ => True) w (.mk k2 n2 t2 fs2 r2 ls2 ps2) ⟨fa2, fc2, la2, lc2, pa2, pc2⟩) := ⟨hr9.any, hx.any⟩
    have hg9 : (k != 5) = false ∨ ((k != 5) = true ∧ (k != 0) = false) := by
      rcases hk with h | h
      · exact .inl (by simp [h])
      · exact .inr ⟨by simp [h], by simp [h]⟩
    have HG9 := Lib.hid hg9
    have HSZ := Lib.hid hsz1
    have HGG := Lib.hid hg
    have HW0 := Lib.hid hW0
    have HW1 := Lib.hid hW1
    have x0 := hcx.cell 0 (v := .int .i64 k) rfl
    have HS0 := Lib.hid hsz
    clear hr hr9 hx hW0 hW1 hg hBA hcx hck hcy hcz hbA hco hBA1 hcx1 hck1 hcy1 hcz1 hsz hsz1 hRl hR hk hg9
    go_enter Try.func30, Try.ntmps30
    go_upto_region 1 with fail
    have hW0 := HW0.out
    have hg := HGG.out
    rw [← hW0, ← hg]
    clear hW0 hg HW0
    go_cut [19] from 12 to 19 (fun v wx => v = .bool false ∧ wx = W0)
    case first =>
      rcases HG9.out with h | ⟨h, h'⟩
      · go_wp2_with fail
        go_meet
        exact ⟨rfl, rfl⟩
      · go_wp2_with fail
        go_meet
        exact ⟨rfl, rfl⟩
    case rest =>
    obtain ⟨rfl, hwc⟩ := hcut
    subst hwc
    clear x0 HG9
    go_upto_region 4 with fail
    have hW1 := HW1.out
    have hs0 := HS0.out
    rw [← hW1, hs0]
    clear hW1 HW1 HS0 hs0
    obtain ⟨hcx, -, hcy, -, hbw⟩ := HX.out W1 (Grew.refl _ _)
    have y0 := hcy.cell 0 (v := .int .i64 k2) rfl
    have x6 := hcx.cell 6 (v := .slice pa ps.length pc) rfl
    clear hcx hcy hbw
    go_wp2_with fail
    go_loopw [8, 28] (fun dv i wr => ∃ (m : Nat) (dn : Bool) (q : Option Addr) (d : Nat) (xs : List ((V × A3) × (V × A3))), m ≤ ps.length ∧ i = .int .i64 m ∧ dv = .bool dn ∧ Hid (PutI R (putA (pairC (.mk k9 n9 t9 fs9 r9 ls9 ps9)) (.mk k9 n9 t9 fs9 r9 ls9 ps9, .mk k2 n2 t2 fs2 r2 ls2 ps2) (ps.drop m) dn) w W1 wr (g + 1 + 1 + 1 + 1) q d xs)) (fun _ i _ => ps.length - (intOf i).toNat)
    case atStart => exact ⟨0, (k2 == 0), none, 0, [], Nat.zero_le _, rfl, rfl, HI0⟩
    case round =>
      clear y0 x6 HI0
      obtain ⟨m, dn, q, d, xs, hm, rfl, rfl, HI⟩ := hrel
      have hxl := HI.out.len
      have hrl := HRL.out
      have hG := HI.out.2.2.2.2
      obtain ⟨hcx, hck, hcy, hcz, hbw⟩ := HX.out wr hG
      have hwsz := hG.size
      by_cases h1 : m < ps.length
      · obtain ⟨⟨⟨k', n', t', fs', r', ls', ps'⟩, ⟨k3, n3, t3, fs3, r3, ls3, ps3⟩⟩, hq⟩ : ∃ p, ps[m]? = some p := ⟨_, List.getElem?_eq_getElem h1⟩
        obtain ⟨b, o, fa', la', pa', fc', lc', pc', fa3, la3, pa3, fc3, lc3, pc3, rfl, hrx, hry, c0, c1, c2, c3, c4, c5, c6, c7, c8, c9, c10, c11, c12, c13⟩ := HR0.out.pairAt hq
        have hlb : b < w.heap.size := World.block_lt_of_cell? w _ c0
        replace c0 := later1 c0 hlb hbw
        replace c1 := later1 c1 hlb hbw
        replace c2 := later1 c2 hlb hbw
        replace c3 := later1 c3 hlb hbw
        replace c4 := later1 c4 hlb hbw
        replace c5 := later1 c5 hlb hbw
        replace c6 := later1 c6 hlb hbw
        replace c7 := later1 c7 hlb hbw
        replace c8 := later1 c8 hlb hbw
        replace c9 := later1 c9 hlb hbw
        replace c10 := later1 c10 hlb hbw
        replace c11 := later1 c11 hlb hbw
        replace c12 := later1 c12 hlb hbw
        replace c13 := later1 c13 hlb hbw
        have HYR : Hid (Rep (fun _ => True) w (.mk k' n' t' fs' r' ls' ps') ⟨fa', fc', la', lc', pa', pc'⟩ ∧ Rep (fun _ => True) w (.mk k3 n3 t3 fs3 r3 ls3 ps3) ⟨fa3, fc3, la3, lc3, pa3, pc3⟩) := ⟨hrx.any, hry.any⟩
        have HC : Hid (∀ W, Below w.heap.size w W → Calls _ _ _ W _) := fun W hb => rcompare_lit (hrx.stays hb) (HR9.out.stays hb)
        obtain ⟨W2, hW2⟩ : ∃ W2, W2 = wr.alloc (.cells #[.int .i64 k', .int .u64 (n' : Int), .string (strB t'), .slice fa' fs'.length fc', .string (strB r'), .slice la' ls'.length lc', .slice pa' ps'.length pc', .int .i64 k3, .int .u64 (n3 : Int), .string (strB t3), .slice fa3 fs3.length fc3, .string (strB r3), .slice la3 ls3.length lc3, .slice pa3 ps3.length pc3] 89) := ⟨_, rfl⟩
        obtain ⟨h, hh⟩ : ∃ h, h = wr.heap.size := ⟨_, rfl⟩
        have hbA : Below wr.heap.size wr W2 := by rw [hW2]; exact (Below.refl _ _).alloc (Nat.le_refl _) _
        have hcv : CellsAt W2 h 89 #[.int .i64 k', .int .u64 (n' : Int), .string (strB t'), .slice fa' fs'.length fc', .string (strB r'), .slice la' ls'.length lc', .slice pa' ps'.length pc', .int .i64 k3, .int .u64 (n3 : Int), .string (strB t3), .slice fa3 fs3.length fc3, .string (strB r3), .slice la3 ls3.length lc3, .slice pa3 ps3.length pc3] := by rw [hW2, hh]; exact CellsAt.new wr _ _
        have hI := HI.out.stays hbA
        have hbw2 : Below w.heap.size w W2 := hbw.trans (hbA.mono hbw.size)
        have hC : pairC (.mk k9 n9 t9 fs9 r9 ls9 ps9) (.mk k' n' t' fs' r' ls' ps', .mk k3 n3 t3 fs3 r3 ls3 ps3) = cmpV (.mk k' n' t' fs' r' ls' ps') (.mk k9 n9 t9 fs9 r9 ls9 ps9) := rfl
        generalize cmpV (.mk k' n' t' fs' r' ls' ps') (.mk k9 n9 t9 fs9 r9 ls9 ps9) = C at HC hC
        obtain ⟨T, hT⟩ : ∃ T, T = (!dn && decide (0 ≤ C)) := ⟨_, rfl⟩
        have hstep : putA (pairC (.mk k9 n9 t9 fs9 r9 ls9 ps9)) (.mk k9 n9 t9 fs9 r9 ls9 ps9, .mk k2 n2 t2 fs2 r2 ls2 ps2) (ps.drop m) dn = (if T = true then [(.mk k9 n9 t9 fs9 r9 ls9 ps9, .mk k2 n2 t2 fs2 r2 ls2 ps2)] else []) ++ ((if C = 0 then [] else [(.mk k' n' t' fs' r' ls' ps', .mk k3 n3 t3 fs3 r3 ls3 ps3)]) ++ putA (pairC (.mk k9 n9 t9 fs9 r9 ls9 ps9)) (.mk k9 n9 t9 fs9 r9 ls9 ps9, .mk k2 n2 t2 fs2 r2 ls2 ps2) (ps.drop (m + 1)) (dn || decide (0 ≤ C))) := by
          rw [drop_fields hq, putA, hC, hT, List.append_assoc]
        rw [hstep] at hI
        have HI2 := Lib.hid hI
        have HT := Lib.hid hT
        have HW2 := Lib.hid hW2
        have HH := Lib.hid hh
        have HLT : Hid (g + 1 + 1 + 1 + 1 < h) := by have := HSZ.out; show _ < _; omega
        have HOB : Hid (∀ k, (Value.slice q xs.length d).ownBlock = some k → k < h) := fun k hk => by rw [hh]; exact (HI.out.2.2.1.lt _ hk).2
        have HCV := Lib.hid hcv
        have HBW2 := Lib.hid hbw2
        clear HI hI hstep hT hW2 hh hbA hcv hrx hry hq hlb hcx hck hcy hcz hbw hbw2 hG hxl hC
        go_upto_region 8 with fail
        have hW2 := HW2.out
        have hh := HH.out
        rw [← hW2, ← hh]
        clear hW2 hh HW2 HH c0 c1 c2 c3 c4 c5 c6 c7 c8 c9 c10 c11 c12 c13 hwsz
        obtain ⟨-, hck, -, -, -⟩ := HX.out W2 HI2.out.2.2.2.2
        have hv2 := HCV.out
        have e0 := hv2.cell 0 (v := .int .i64 k') rfl
        have e1 := hv2.cell 1 (v := .int .u64 (n' : Int)) rfl
        have e2 := hv2.cell 2 (v := .string (strB t')) rfl
        have e3 := hv2.cell 3 (v := .slice fa' fs'.length fc') rfl
        have e4 := hv2.cell 4 (v := .string (strB r')) rfl
        have e5 := hv2.cell 5 (v := .slice la' ls'.length lc') rfl
        have e6 := hv2.cell 6 (v := .slice pa' ps'.length pc') rfl
        have x0 := hck.cell 0 (v := .int .i64 k9) rfl
        have x1 := hck.cell 1 (v := .int .u64 (n9 : Int)) rfl
        have x2 := hck.cell 2 (v := .string (strB t9)) rfl
        have x3 := hck.cell 3 (v := .slice fa9 fs9.length fc9) rfl
        have x4 := hck.cell 4 (v := .string (strB r9)) rfl
        have x5 := hck.cell 5 (v := .slice la9 ls9.length lc9) rfl
        have x6 := hck.cell 6 (v := .slice pa9 ps9.length pc9) rfl
        clear hv2 hck
        go_wp2_with fail
        refine (HC.out _ HBW2.out).mono ?_
        rintro e w3 ⟨rfl, hb3⟩
        have HI3 : Hid (PutI R ((if T = true then [(.mk k9 n9 t9 fs9 r9 ls9 ps9, .mk k2 n2 t2 fs2 r2 ls2 ps2)] else []) ++ ((if C = 0 then [] else [(.mk k' n' t' fs' r' ls' ps', .mk k3 n3 t3 fs3 r3 ls3 ps3)]) ++ putA (pairC (.mk k9 n9 t9 fs9 r9 ls9 ps9)) (.mk k9 n9 t9 fs9 r9 ls9 ps9, .mk k2 n2 t2 fs2 r2 ls2 ps2) (ps.drop (m + 1)) (dn || decide (0 ≤ C)))) w W1 w3 (g + 1 + 1 + 1 + 1) q d xs) := HI2.out.stays hb3
        have HCV3 : Hid (CellsAt w3 h 89 #[.int .i64 k', .int .u64 (n' : Int), .string (strB t'), .slice fa' fs'.length fc', .string (strB r'), .slice la' ls'.length lc', .slice pa' ps'.length pc', .int .i64 k3, .int .u64 (n3 : Int), .string (strB t3), .slice fa3 fs3.length fc3, .string (strB r3), .slice la3 ls3.length lc3, .slice pa3 ps3.length pc3]) := HCV.out.stays hb3
        clear e0 e1 e2 e3 e4 e5 e6 x0 x1 x2 x3 x4 x5 x6 hb3 HI2 HCV HC HBW2
        go_upto_region 9 with fail
        go_cut [41] from 36 to 41 (fun v wx => v = .bool T ∧ wx = w3)
        case first =>
          have hT := HT.out
          cases dn with
          | true =>
            have HZ : Hid (T = false) := by rw [hT]; rfl
            clear hT
            go_wp2_with fail
            go_meet
            exact ⟨by rw [HZ.out], rfl⟩
          | false =>
            by_cases h2 : 0 ≤ C
            · have HZ : Hid (T = true) := by rw [hT, decide_eq_true h2]; rfl
              clear hT
              go_wp2_with fail
              go_meet
              exact ⟨by rw [HZ.out], rfl⟩
            · have HZ : Hid (T = false) := by rw [hT, decide_eq_false h2]; rfl
              clear hT
              go_wp2_with fail
              go_meet
              exact ⟨by rw [HZ.out], rfl⟩
        case rest =>
          obtain ⟨rfl, rfl⟩ := hcut
          obtain ⟨wd, rfl⟩ : ∃ wx : World, wx = wc := ⟨_, rfl⟩
          go_upto_if 41 with fail
          go_cut [8] from 41 to 49 (fun dv wx => ∃ (dn2 : Bool) (q2 : Option Addr) (d2 : Nat) (xs2 : List ((V × A3) × (V × A3))), dv = .bool dn2 ∧ Hid (dn2 = (dn || decide (0 ≤ C))) ∧ Hid (PutI R ((if C = 0 then [] else [(.mk k' n' t' fs' r' ls' ps', .mk k3 n3 t3 fs3 r3 ls3 ps3)]) ++ putA (pairC (.mk k9 n9 t9 fs9 r9 ls9 ps9)) (.mk k9 n9 t9 fs9 r9 ls9 ps9, .mk k2 n2 t2 fs2 r2 ls2 ps2) (ps.drop (m + 1)) (dn || decide (0 ≤ C))) w W1 wx (g + 1 + 1 + 1 + 1) q2 d2 xs2) ∧ Hid (CellsAt wx h 89 #[.int .i64 k', .int .u64 (n' : Int), .string (strB t'), .slice fa' fs'.length fc', .string (strB r'), .slice la' ls'.length lc', .slice pa' ps'.length pc', .int .i64 k3, .int .u64 (n3 : Int), .string (strB t3), .slice fa3 fs3.length fc3, .string (strB r3), .slice la3 ls3.length lc3, .slice pa3 ps3.length pc3]))
          case first =>
            have hT := HT.out
            have hI := HI3.out
            cases T with
            | false =>
              rw [if_neg Bool.false_ne_true, List.nil_append] at hI
              have HI4 := Lib.hid hI
              have HDN : Hid (dn = (dn || decide (0 ≤ C))) := by
                show _ = _
                cases dn with
                | true => rfl
                | false => rw [Bool.not_false, Bool.true_and] at hT; rw [← hT]; rfl
              clear hT hI HI3
              go_wp2_with fail
              go_meet
              exact ⟨dn, q, d, xs, rfl, HDN, HI4, HCV3⟩
            | true =>
              rw [if_pos rfl] at hI
              have hI4 : PutI R ((.mk k9 n9 t9 fs9 r9 ls9 ps9, .mk k2 n2 t2 fs2 r2 ls2 ps2) :: ((if C = 0 then [] else [(.mk k' n' t' fs' r' ls' ps', .mk k3 n3 t3 fs3 r3 ls3 ps3)]) ++ putA (pairC (.mk k9 n9 t9 fs9 r9 ls9 ps9)) (.mk k9 n9 t9 fs9 r9 ls9 ps9, .mk k2 n2 t2 fs2 r2 ls2 ps2) (ps.drop (m + 1)) (dn || decide (0 ≤ C)))) w W1 wd (g + 1 + 1 + 1 + 1) q d xs := hI
              have HI4 := Lib.hid hI4
              have HDN : Hid (true = (dn || decide (0 ≤ C))) := by
                show _ = _
                cases dn with
                | true => cases hT
                | false => rw [Bool.not_false, Bool.true_and] at hT; rw [← hT]; rfl
              have ho := hI4.2.2.1
              have hco := hI4.2.2.2.1
              have hxl := hI4.len
              have hwsz := hI4.2.2.2.2.size
              obtain ⟨-, hck, hcy, -, -⟩ := HX.out wd hI4.2.2.2.2
              have o6 := hco.cell 6 (v := .slice q xs.length d) rfl
              have of := hco.free 6
              have y0 := hcy.cell 0 (v := .int .i64 k2) rfl
              have y1 := hcy.cell 1 (v := .int .u64 (n2 : Int)) rfl
              have y2 := hcy.cell 2 (v := .string (strB t2)) rfl
              have y3 := hcy.cell 3 (v := .slice fa2 fs2.length fc2) rfl
              have y4 := hcy.cell 4 (v := .string (strB r2)) rfl
              have y5 := hcy.cell 5 (v := .slice la2 ls2.length lc2) rfl
              have y6 := hcy.cell 6 (v := .slice pa2 ps2.length pc2) rfl
              have x0 := hck.cell 0 (v := .int .i64 k9) rfl
              have x1 := hck.cell 1 (v := .int .u64 (n9 : Int)) rfl
              have x2 := hck.cell 2 (v := .string (strB t9)) rfl
              have x3 := hck.cell 3 (v := .slice fa9 fs9.length fc9) rfl
              have x4 := hck.cell 4 (v := .string (strB r9)) rfl
              have x5 := hck.cell 5 (v := .slice la9 ls9.length lc9) rfl
              have x6 := hck.cell 6 (v := .slice pa9 ps9.length pc9) rfl
              clear hT hI hI4 HI3 hco hck hcy
              go_wp2_with (at_builtin; go_must (refine wpList_pushS pC_len pC_one Try.underlying32 infoRP rfl (by decide) ho ((.mk k9 n9 t9 fs9 r9 ls9 ps9, ⟨fa9, fc9, la9, lc9, pa9, pc9⟩), (.mk k2 n2 t2 fs2 r2 ls2 ps2, ⟨fa2, fc2, la2, lc2, pa2, pc2⟩)) (by omega) hwsz rfl _ _ rfl (by rfl) _ _ _ (by rfl) (by rfl) ?_))
              intro v7 w7 o7 g7 n7
              obtain ⟨q7, d7, rfl, hc7, HI7⟩ := HI4.out.push ((.mk k9 n9 t9 fs9 r9 ls9 ps9, ⟨fa9, fc9, la9, lc9, pa9, pc9⟩), (.mk k2 n2 t2 fs2 r2 ls2 ps2, ⟨fa2, fc2, la2, lc2, pa2, pc2⟩)) rfl HXR.out (by have := HSZ.out; omega) o7 g7
              have f6 := hc7.free 6
              have p6 := hc7.cell 6 (v := .slice q xs.length d) rfl
              have HCV7 : Hid (CellsAt (w7.setCell ⟨g + 1 + 1 + 1 + 1, 6, none⟩ (.slice q7 (xs.length + 1) d7)) h 89 #[.int .i64 k', .int .u64 (n' : Int), .string (strB t'), .slice fa' fs'.length fc', .string (strB r'), .slice la' ls'.length lc', .slice pa' ps'.length pc', .int .i64 k3, .int .u64 (n3 : Int), .string (strB t3), .slice fa3 fs3.length fc3, .string (strB r3), .slice la3 ls3.length lc3, .slice pa3 ps3.length pc3]) := (HCV3.out.grown g7 (fun e => by have := HOB.out _ e; omega)).other _ (by have := HLT.out; show h ≠ g + 1 + 1 + 1 + 1; omega) _
              clear hc7 o7 g7 n7 ho o6 of y0 y1 y2 y3 y4 y5 y6 x0 x1 x2 x3 x4 x5 x6
              go_wp2_with fail
              go_meet
              exact ⟨true, q7, d7, _, rfl, HDN, HI7, HCV7⟩
          case rest =>
            obtain ⟨dn2, q2, d2, xs2, rfl, HDN, HI4, HV⟩ := hcut
            have hv := HV.out
            by_cases h2 : C = 0
            · have h2' : (C != 0) = false := by simpa using h2
              have HI5 : Hid (PutI R (putA (pairC (.mk k9 n9 t9 fs9 r9 ls9 ps9)) (.mk k9 n9 t9 fs9 r9 ls9 ps9, .mk k2 n2 t2 fs2 r2 ls2 ps2) (ps.drop (m + 1)) dn2) w W1 wc (g + 1 + 1 + 1 + 1) q2 d2 xs2) := by
                have h9 := HI4.out
                rw [if_pos h2, List.nil_append, ← HDN.out] at h9
                exact h9
              clear h2 HI4 HDN hv HV HI3
              go_wp2_with fail
              go_roundw
              case rel => exact ⟨m + 1, dn2, q2, d2, xs2, h1, by go_num, rfl, HI5⟩
              case measure => simp only [intOf]; omega
            · have h2' : (C != 0) = true := by simpa using h2
              have hI5 : PutI R ((.mk k' n' t' fs' r' ls' ps', .mk k3 n3 t3 fs3 r3 ls3 ps3) :: putA (pairC (.mk k9 n9 t9 fs9 r9 ls9 ps9)) (.mk k9 n9 t9 fs9 r9 ls9 ps9, .mk k2 n2 t2 fs2 r2 ls2 ps2) (ps.drop (m + 1)) dn2) w W1 wc (g + 1 + 1 + 1 + 1) q2 d2 xs2 := by
                have h9 := HI4.out
                rw [if_neg h2, ← HDN.out] at h9
                exact h9
              have HI5 := Lib.hid hI5
              have ho := hI5.2.2.1
              have hco := hI5.2.2.2.1
              have hxl := hI5.len
              have hwsz := hI5.2.2.2.2.size
              have o6 := hco.cell 6 (v := .slice q2 xs2.length d2) rfl
              have of := hco.free 6
              have e0 := hv.cell 0 (v := .int .i64 k') rfl
              have e1 := hv.cell 1 (v := .int .u64 (n' : Int)) rfl
              have e2 := hv.cell 2 (v := .string (strB t')) rfl
              have e3 := hv.cell 3 (v := .slice fa' fs'.length fc') rfl
              have e4 := hv.cell 4 (v := .string (strB r')) rfl
              have e5 := hv.cell 5 (v := .slice la' ls'.length lc') rfl
              have e6 := hv.cell 6 (v := .slice pa' ps'.length pc') rfl
              have e7 := hv.cell 7 (v := .int .i64 k3) rfl
              have e8 := hv.cell 8 (v := .int .u64 (n3 : Int)) rfl
              have e9 := hv.cell 9 (v := .string (strB t3)) rfl
              have e10 := hv.cell 10 (v := .slice fa3 fs3.length fc3) rfl
              have e11 := hv.cell 11 (v := .string (strB r3)) rfl
              have e12 := hv.cell 12 (v := .slice la3 ls3.length lc3) rfl
              have e13 := hv.cell 13 (v := .slice pa3 ps3.length pc3) rfl
              clear h2 HI4 HDN hv HV HI3 hI5 hco
              go_wp2_with (at_builtin; go_must (refine wpList_pushS pC_len pC_one Try.underlying32 infoRP rfl (by decide) ho ((.mk k' n' t' fs' r' ls' ps', ⟨fa', fc', la', lc', pa', pc'⟩), (.mk k3 n3 t3 fs3 r3 ls3 ps3, ⟨fa3, fc3, la3, lc3, pa3, pc3⟩)) (by omega) hwsz rfl _ _ rfl (by rfl) _ _ _ (by rfl) (by rfl) ?_))
              intro v7 w7 o7 g7 n7
              obtain ⟨q7, d7, rfl, hc7, HI7⟩ := HI5.out.push ((.mk k' n' t' fs' r' ls' ps', ⟨fa', fc', la', lc', pa', pc'⟩), (.mk k3 n3 t3 fs3 r3 ls3 ps3, ⟨fa3, fc3, la3, lc3, pa3, pc3⟩)) rfl HYR.out (by have := HSZ.out; omega) o7 g7
              have f6 := hc7.free 6
              have p6 := hc7.cell 6 (v := .slice q2 xs2.length d2) rfl
              have HI8 : Hid (PutI R (putA (pairC (.mk k9 n9 t9 fs9 r9 ls9 ps9)) (.mk k9 n9 t9 fs9 r9 ls9 ps9, .mk k2 n2 t2 fs2 r2 ls2 ps2) (ps.drop (m + 1)) dn2) w W1 (w7.setCell ⟨g + 1 + 1 + 1 + 1, 6, none⟩ (.slice q7 (xs2.length + 1) d7)) (g + 1 + 1 + 1 + 1) q7 d7 (xs2 ++ [((.mk k' n' t' fs' r' ls' ps', ⟨fa', fc', la', lc', pa', pc'⟩), (.mk k3 n3 t3 fs3 r3 ls3 ps3, ⟨fa3, fc3, la3, lc3, pa3, pc3⟩))])) := HI7.out
              clear hc7 o7 g7 n7 ho o6 of e0 e1 e2 e3 e4 e5 e6 e7 e8 e9 e10 e11 e12 e13 HI7
              go_wp2_with fail
              go_roundw
              case rel => exact ⟨m + 1, dn2, q7, d7, _, h1, by go_num, rfl, HI8⟩
              case measure => simp only [intOf]; omega
      · have hI : PutI R (if dn = true then [] else [(.mk k9 n9 t9 fs9 r9 ls9 ps9, .mk k2 n2 t2 fs2 r2 ls2 ps2)]) w W1 wr (g + 1 + 1 + 1 + 1) q d xs := by
          have h9 := HI.out
          rw [List.drop_of_length_le (by omega)] at h9
          exact h9
        have HI2 := Lib.hid hI
        clear HI hI hcx hck hcy hcz hbw hG hxl hwsz
        go_upto_if 60 with fail
        go_cut [] from 60 to 68 (fun wx => ∃ (q2 : Option Addr) (d2 : Nat) (xs2 : List ((V × A3) × (V × A3))), Hid (PutI R [] w W1 wx (g + 1 + 1 + 1 + 1) q2 d2 xs2))
        case first =>
          have hI := HI2.out
          cases dn with
          | true =>
            rw [if_pos rfl] at hI
            have HI3 := Lib.hid hI
            clear hI HI2
            go_wp2_with fail
            go_meet
            exact ⟨q, d, xs, HI3⟩
          | false =>
            rw [if_neg Bool.false_ne_true] at hI
            have HI3 := Lib.hid hI
            have ho := hI.2.2.1
            have hco := hI.2.2.2.1
            have hxl := hI.len
            have hwsz := hI.2.2.2.2.size
            obtain ⟨-, hck, hcy, -, -⟩ := HX.out wr hI.2.2.2.2
            have o6 := hco.cell 6 (v := .slice q xs.length d) rfl
            have of := hco.free 6
            have y0 := hcy.cell 0 (v := .int .i64 k2) rfl
            have y1 := hcy.cell 1 (v := .int .u64 (n2 : Int)) rfl
            have y2 := hcy.cell 2 (v := .string (strB t2)) rfl
            have y3 := hcy.cell 3 (v := .slice fa2 fs2.length fc2) rfl
            have y4 := hcy.cell 4 (v := .string (strB r2)) rfl
            have y5 := hcy.cell 5 (v := .slice la2 ls2.length lc2) rfl
            have y6 := hcy.cell 6 (v := .slice pa2 ps2.length pc2) rfl
            have x0 := hck.cell 0 (v := .int .i64 k9) rfl
            have x1 := hck.cell 1 (v := .int .u64 (n9 : Int)) rfl
            have x2 := hck.cell 2 (v := .string (strB t9)) rfl
            have x3 := hck.cell 3 (v := .slice fa9 fs9.length fc9) rfl
            have x4 := hck.cell 4 (v := .string (strB r9)) rfl
            have x5 := hck.cell 5 (v := .slice la9 ls9.length lc9) rfl
            have x6 := hck.cell 6 (v := .slice pa9 ps9.length pc9) rfl
            clear hI HI2 hco hck hcy
            go_wp2_with (at_builtin; go_must (refine wpList_pushS pC_len pC_one Try.underlying32 infoRP rfl (by decide) ho ((.mk k9 n9 t9 fs9 r9 ls9 ps9, ⟨fa9, fc9, la9, lc9, pa9, pc9⟩), (.mk k2 n2 t2 fs2 r2 ls2 ps2, ⟨fa2, fc2, la2, lc2, pa2, pc2⟩)) (by omega) hwsz rfl _ _ rfl (by rfl) _ _ _ (by rfl) (by rfl) ?_))
            intro v7 w7 o7 g7 n7
            obtain ⟨q7, d7, rfl, hc7, HI7⟩ := HI3.out.push ((.mk k9 n9 t9 fs9 r9 ls9 ps9, ⟨fa9, fc9, la9, lc9, pa9, pc9⟩), (.mk k2 n2 t2 fs2 r2 ls2 ps2, ⟨fa2, fc2, la2, lc2, pa2, pc2⟩)) rfl HXR.out (by have := HSZ.out; omega) o7 g7
            have f6 := hc7.free 6
            have p6 := hc7.cell 6 (v := .slice q xs.length d) rfl
            clear hc7 o7 g7 n7 ho o6 of y0 y1 y2 y3 y4 y5 y6 x0 x1 x2 x3 x4 x5 x6
            go_wp2_with fail
            go_meet
            exact ⟨q7, d7, _, HI7⟩
        case rest =>
          obtain ⟨q2, d2, xs2, HI3⟩ := hcut
          have hco := HI3.out.2.2.2.1
          obtain ⟨-, -, -, hcz, hbw⟩ := HX.out wc HI3.out.2.2.2.2
          have o0 := hco.cell 0 (v := .int .i64 0) rfl
          have o1 := hco.cell 1 (v := .int .u64 0) rfl
          have o2 := hco.cell 2 (v := .string ⟨#[]⟩) rfl
          have o3 := hco.cell 3 (v := .slice none 0 0) rfl
          have o4 := hco.cell 4 (v := .string ⟨#[]⟩) rfl
          have o5 := hco.cell 5 (v := .slice none 0 0) rfl
          have o6 := hco.cell 6 (v := .slice q2 xs2.length d2) rfl
          have of := hco.free 0
          have z0 := hcz.cell 0 (v := .int .i64 0) rfl
          have z1 := hcz.cell 1 (v := .int .u64 0) rfl
          have z2 := hcz.cell 2 (v := .string ⟨#[]⟩) rfl
          have z3 := hcz.cell 3 (v := .slice none 0 0) rfl
          have z4 := hcz.cell 4 (v := .string ⟨#[]⟩) rfl
          have z5 := hcz.cell 5 (v := .slice none 0 0) rfl
          have z6 := hcz.cell 6 (v := .slice none 0 0) rfl
          have f0 := hcz.free 0
          have f1 := hcz.free 1
          have f2 := hcz.free 2
          have f3 := hcz.free 3
          have f4 := hcz.free 4
          have f5 := hcz.free 5
          have f6 := hcz.free 6
          have HBW := Lib.hid hbw
          have hxl := HI3.out.len
          have hzl := hcz.lt
          have hol := hco.lt
          clear hco hcz hbw HI2
          by_cases hL : xs2.length = 0
          · have HE : Hid (putV (.mk k n t fs r ls ps) (.mk k9 n9 t9 fs9 r9 ls9 ps9) (.mk k2 n2 t2 fs2 r2 ls2 ps2) = V.none) := by
              have h9 := HI3.out.1
              rw [List.length_eq_zero_iff.1 hL] at h9
              rw [HG.out, ← h9]; rfl
            rw [hL] at o6
            obtain ⟨LL, hLL⟩ : ∃ LL, LL = xs2.length := ⟨_, rfl⟩
            clear hL
            go_wp2_with fail
            refine bodyPost_ret (v := .agg #[.int .i64 0, .int .u64 0, .string ⟨#[]⟩, .slice none 0 0, .string ⟨#[]⟩, .slice none 0 0, .slice q2 0 d2]) (by simp [results, Try.results30, go_sem, z0, z1, z2, z3, z4, z5, z6]) rfl ?_
            rw [HE.out]
            have hgw := HGG.out
            exact ⟨⟨none, 0, none, 0, q2, d2⟩, rfl, Rep.leaf 0 0 [] [] ⟨by decide, by decide⟩ (by decide) _, below_set7 HBW.out (by omega) _ _ _ _ _ _ _⟩
          · obtain ⟨L, hLe⟩ : ∃ L, L = xs2.length := ⟨_, rfl⟩
            rw [← hLe] at hL o6 hxl
            have HLE := Lib.hid hLe
            have hL0 : (0 : Int) < (L : Int) := by omega
            have HE : Hid (putV (.mk k n t fs r ls ps) (.mk k9 n9 t9 fs9 r9 ls9 ps9) (.mk k2 n2 t2 fs2 r2 ls2 ps2) = .mk 5 0 [] [] [] [] (xs2.map pE)) := by
              have h9 := HI3.out.1
              rw [List.append_nil] at h9
              rw [HG.out, ← h9]
              unfold mapV
              rw [if_neg (by intro h; rw [List.isEmpty_iff, List.map_eq_nil_iff] at h; rw [h] at hLe; exact hL hLe)]
              exact rfl
            clear hL hLe
            go_wp2_with fail
            refine bodyPost_ret (v := .agg #[.int .i64 5, .int .u64 0, .string ⟨#[]⟩, .slice none 0 0, .string ⟨#[]⟩, .slice none 0 0, .slice q2 L d2]) (by simp [results, Try.results30, go_sem, z0, z1, z2, z3, z4, z5, z6]) rfl ?_
            rw [HE.out]
            have hgw := HGG.out
            have hsw := HSZ.out
            have hle := HLE.out
            subst hle
            have hb7 := below_set7 (HBW.out.setCell (p := ⟨g + 1 + 1 + 1 + 1, 0, none⟩) (by show w.heap.size ≤ g + 1 + 1 + 1 + 1; omega) (.int .i64 5)) (show w.heap.size ≤ g + 1 + 1 + 1 by omega) (.int .i64 5) (.int .u64 0) (.string ⟨#[]⟩) (.slice none 0 0) (.string ⟨#[]⟩) (.slice none 0 0) (.slice q2 xs2.length d2)
            have hg7 := grew_set7 (g := g + 1 + 1 + 1) ((Grew.refl [g + 1 + 1 + 1 + 1, g + 1 + 1 + 1] wc).setCell (p := ⟨g + 1 + 1 + 1 + 1, 0, none⟩) (.inl (by simp)) (.int .i64 5)) (by simp) (.int .i64 5) (.int .u64 0) (.string ⟨#[]⟩) (.slice none 0 0) (.string ⟨#[]⟩) (.slice none 0 0) (.slice q2 xs2.length d2)
            have hi9 := HI3.out
            have hrow := hi9.2.2.1.row.grew hg7 (fun _ k hk => by have := (hi9.2.2.1.lt _ hk).1; simp; omega)
            have hrep := Rep.newPairs (S' := fun _ => True) xs2 q2 d2 hrow (fun _ _ => trivial) (fun p hp => ⟨(hi9.2.1 p hp).1.stays hb7, (hi9.2.1 p hp).2.stays hb7⟩)
            exact ⟨⟨none, 0, none, 0, q2, d2⟩, by rw [vG_lit, List.length_map, strB_nil]; rfl, hrep, hb7⟩
  · have HV : Hid (putV (.mk k n t fs r ls ps) (.mk k9 n9 t9 fs9 r9 ls9 ps9) (.mk k2 n2 t2 fs2 r2 ls2 ps2) = .mk k n t fs r ls ps) := by show (if k ≠ 5 ∧ k ≠ 0 then _ else _) = _; rw [if_pos (by omega)]
    have g5 : (k != 5) = true := by simp; omega
    have g0 : (k != 0) = true := by simp; omega
    have HR0 := Lib.hid hr
    clear hr hr9 hx hcx hck hcy hcz hW0 hg hBA hk hsz
    go_enter Try.func30, Try.ntmps30
    go_wp2_with fail
    refine bodyPost_ret (v := .agg #[.int .i64 k, .int .u64 (n : Int), .string (strB t), .slice fa fs.length fc, .string (strB r), .slice la ls.length lc, .slice pa ps.length pc]) (by simp [results, Try.results30, go_sem]) rfl ?_
    rw [HV.out]
    have hb3 : Below w.heap.size w ((((w.alloc (.cells #[.int .i64 k, .int .u64 (n : Int), .string (strB t), .slice fa fs.length fc, .string (strB r), .slice la ls.length lc, .slice pa ps.length pc] 34)).alloc (.cells #[.int .i64 k9, .int .u64 (n9 : Int), .string (strB t9), .slice fa9 fs9.length fc9, .string (strB r9), .slice la9 ls9.length lc9, .slice pa9 ps9.length pc9] 34)).alloc (.cells #[.int .i64 k2, .int .u64 (n2 : Int), .string (strB t2), .slice fa2 fs2.length fc2, .string (strB r2), .slice la2 ls2.length lc2, .slice pa2 ps2.length pc2] 34)).alloc (.cells #[.int .i64 k, .int .u64 (n : Int), .string (strB t), .slice fa fs.length fc, .string (strB r), .slice la ls.length lc, .slice pa ps.length pc] 34)) := ((((Below.refl _ _).alloc (Nat.le_refl _) _).alloc (by simp) _).alloc (by simp; omega) _).alloc (by simp; omega) _
    exact ⟨⟨fa, fc, la, lc, pa, pc⟩, rfl, (HR0.out.stays hb3).any, hb3⟩
end
end Go.Proofs.Ytcnjlbbckdmifaa
