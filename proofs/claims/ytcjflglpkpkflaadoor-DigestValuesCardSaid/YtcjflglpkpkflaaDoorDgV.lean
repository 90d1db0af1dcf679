/- Digests: a value's text, as the program tells it. -/
import Derived.Test.YtcjflglpkpkflaaDoorDgH
import Derived.Test.YtcjflglpkpkflaaDoorVl
import Derived.Test.YtcjflglpkpkflaaDoorVo
import Derived.Test.YtcjflglpkpkflaaDoorQin
import Derived.Deep.DeepCutAuto
import Derived.BigQuiet
import Derived.Deep.RegionHeld3
namespace Go.Proofs.YtcjflglpkpkflaaDoor
open Go Go.RowKit
set_option linter.unusedVariables false
/-- the numbers in a value in memory are as the machine has them -/
theorem rep_mV : ∀ (v : V) {S : Nat → Prop} {w : World} {a : A3}, Rep S w v a → mV v := by
  intro v
  induction v using V.ind with
  | h v ihf ihl ihp =>
    intro S w a h
    cases h with
    | mk _ _ fl ll pl hk hn hf hl hp hb rf rl rp sf sl sp cf cl cp cq =>
      obtain ⟨k, n, t, fs, r, ls, ps⟩ := v
      simp only [V.fs, V.ls, V.ps, V.n] at hf hl hp hn ihf ihl ihp
      refine ⟨hn, (mF_iff _).2 (fun p hm => ?_), (mL_iff _).2 (fun p hm => ?_), (mP_iff _).2 (fun p hm => ?_)⟩
      · have hm2 := hm
        rw [hf] at hm2
        obtain ⟨q, hq, rfl⟩ := List.mem_map.1 hm2
        exact ⟨hb q hq, ihf _ hm (cf q hq)⟩
      · have hm2 := hm
        rw [hl] at hm2
        obtain ⟨q, hq, rfl⟩ := List.mem_map.1 hm2
        exact ihl _ hm (cl q hq)
      · have hm2 := hm
        rw [hp] at hm2
        obtain ⟨q, hq, rfl⟩ := List.mem_map.1 hm2
        exact ⟨(ihp _ hm).1 (cp q hq), (ihp _ hm).2 (cq q hq)⟩
theorem txt_short {v : V} (h : mV v) (hw : wV v ≤ 100000) : (txtV v).length ≤ 3000000 := by have := txtV_len v h; omega
/-- what Value tells -/
def TxtC (v : V) : Prop := ∀ (a : A3) (S : Nat → Prop) (w : World), Rep S w v a → wV v ≤ 100000 → PowU w → Calls Tryd.prog 6 #[vG (v, a)] w fun e w' => e = .returned (.string (strB (txtV v))) ∧ Below w.heap.size w w'
theorem TxtC.lit {k : Int} {n : Nat} {t r : List UInt8} {fs : List (Int × V)} {ls : List V} {ps : List (V × V)} {fa la pa : Option Addr} {fc lc pc : Nat} {S : Nat → Prop} {w : World} (h : TxtC (.mk k n t fs r ls ps)) (hr : Rep S w (.mk k n t fs r ls ps) ⟨fa, fc, la, lc, pa, pc⟩) (hw : wV (.mk k n t fs r ls ps) ≤ 100000) (hp : PowU w) :
    Calls Tryd.prog 6 #[.agg #[.int .i64 k, .int .u64 (n : Int), .string (strB t), .slice fa fs.length fc, .string (strB r), .slice la ls.length lc, .slice pa ps.length pc]] w fun e w' => e = .returned (.string (strB (txtV (.mk k n t fs r ls ps)))) ∧ Below w.heap.size w w' := by
  have := h _ S w hr hw hp
  rw [vG_lit] at this
  exact this
set_option maxRecDepth 100000 in
set_option maxHeartbeats 2000000 in
theorem dfield_lit {num : Int} (hnum : -9223372036854775808 ≤ num ∧ num ≤ 9223372036854775807) {k' : Int} {n' : Nat} {t' r' : List UInt8} {fs' : List (Int × V)} {ls' : List V} {ps' : List (V × V)} {fa' la' pa' : Option Addr} {fc' lc' pc' : Nat} {S : Nat → Prop} {w : World} (hx : TxtC (.mk k' n' t' fs' r' ls' ps')) (hr : Rep S w (.mk k' n' t' fs' r' ls' ps') ⟨fa', fc', la', lc', pa', pc'⟩) (hw : wV (.mk k' n' t' fs' r' ls' ps') ≤ 100000) (hp : PowU w) :
    Calls Tryd.prog 15 #[.agg #[.int .i64 num, .int .i64 k', .int .u64 (n' : Int), .string (strB t'), .slice fa' fs'.length fc', .string (strB r'), .slice la' ls'.length lc', .slice pa' ps'.length pc']] w fun e w' => e = .returned (.string (strB (decZ num ++ 58 :: txtV (.mk k' n' t' fs' r' ls' ps')))) ∧ Below w.heap.size w w' := by
  obtain ⟨W0, hW0⟩ : ∃ W0, W0 = w.alloc (.cells #[.int .i64 num, .int .i64 k', .int .u64 (n' : Int), .string (strB t'), .slice fa' fs'.length fc', .string (strB r'), .slice la' ls'.length lc', .slice pa' ps'.length pc'] 51) := ⟨_, rfl⟩
  obtain ⟨g, hg⟩ : ∃ g, g = w.heap.size := ⟨_, rfl⟩
  have hb0 : Below w.heap.size w W0 := by rw [hW0]; exact (Below.refl _ _).alloc (Nat.le_refl _) _
  have hc0 : CellsAt W0 g 51 #[.int .i64 num, .int .i64 k', .int .u64 (n' : Int), .string (strB t'), .slice fa' fs'.length fc', .string (strB r'), .slice la' ls'.length lc', .slice pa' ps'.length pc'] := by rw [hW0, hg]; exact CellsAt.new w _ _
  have h1 := decZ_len hnum
  have h2 := txt_short (rep_mV _ hr) hw
  have HF : Hid (∀ W, Below W0.heap.size W0 W → Calls Tryd.prog 29 #[.int .i64 num] W fun e w' => e = .returned (.string (strB (decZ num))) ∧ Below W.heap.size W w') := fun W h => itoa_any ((hp.stays hb0).stays h) num hnum
  have HP : Hid (∀ W, Below W0.heap.size W0 W → Calls Tryd.prog 6 #[.agg #[.int .i64 k', .int .u64 (n' : Int), .string (strB t'), .slice fa' fs'.length fc', .string (strB r'), .slice la' ls'.length lc', .slice pa' ps'.length pc']] W fun e w' => e = .returned (.string (strB (txtV (.mk k' n' t' fs' r' ls' ps')))) ∧ Below W.heap.size W w') := fun W h => TxtC.lit hx ((hr.stays hb0).stays h) hw ((hp.stays hb0).stays h)
  obtain ⟨XA, hXA⟩ : ∃ X, X = decZ num := ⟨_, rfl⟩
  obtain ⟨XB, hXB⟩ : ∃ X, X = txtV (.mk k' n' t' fs' r' ls' ps') := ⟨_, rfl⟩
  rw [← hXA] at h1 HF
  rw [← hXB] at h2 HP
  rw [← hXA, ← hXB]
  have HS : Hid (∀ W, Below W0.heap.size W0 W → W.cell? ⟨g, 0, none⟩ = some (.int .i64 num) ∧ W.cell? ⟨g, 1, none⟩ = some (.int .i64 k') ∧ W.cell? ⟨g, 2, none⟩ = some (.int .u64 (n' : Int)) ∧ W.cell? ⟨g, 3, none⟩ = some (.string (strB t')) ∧ W.cell? ⟨g, 4, none⟩ = some (.slice fa' fs'.length fc') ∧ W.cell? ⟨g, 5, none⟩ = some (.string (strB r')) ∧ W.cell? ⟨g, 6, none⟩ = some (.slice la' ls'.length lc') ∧ W.cell? ⟨g, 7, none⟩ = some (.slice pa' ps'.length pc') ∧ (Op.stringOp .add (strB XA) ⟨#[58]⟩).run Tryd.prog W = .ok (.string (strB (XA ++ [58]))) W ∧ (Op.stringOp .add (strB (XA ++ [58])) (strB XB)).run Tryd.prog W = .ok (.string (strB (XA ++ 58 :: XB))) W) := fun W h => by
    refine ⟨(hc0.stays h).cell 0 rfl, (hc0.stays h).cell 1 rfl, (hc0.stays h).cell 2 rfl, (hc0.stays h).cell 3 rfl, (hc0.stays h).cell 4 rfl, (hc0.stays h).cell 5 rfl, (hc0.stays h).cell 6 rfl, (hc0.stays h).cell 7 rfl, str_add XA [58] (by simp; omega) W, ?_⟩
    rw [str_add (XA ++ [58]) XB (by simp; omega) W, List.append_assoc]; rfl
  have hd0 : Below W0.heap.size W0 W0.drew := (Below.refl _ _).drew
  have HW := Lib.hid hW0
  have HG := Lib.hid hg
  have HB := Lib.hid hb0
  clear hnum hx hr hw hp hW0 hg hb0 hc0 h1 h2 hXA hXB
  go_enter Tryd.func15, Tryd.ntmps15
  go_upto_region 1 with fail
  rw [← HW.out, ← HG.out]
  clear HW HG
  refine wp_region_quiet_in (C := fun W => Below W0.heap.size W0 W) (by kernel_rfl) (by kernel_rfl) hd0 ?_
  clear hd0
  repeat
    (first
       | go_big_quiet_skip
       | (go_big_quiet_want
          refine quiet_intro ?_ (fun wq hwq => ?_) ?_
          rotate_left
          focus
            (obtain ⟨c0, c1, c2, c3, c4, c5, c6, c7, s1, s2⟩ := HS.out _ hwq
             go_simp
             try first
               | with_reducible rfl
               | (exact hwq)
               | ((with_reducible refine (HF.out _ hwq).mono ?_); rintro e wA ⟨rfl, hbA⟩; refine ⟨?_, hwq.trans (hbA.mono hwq.size)⟩; with_reducible rfl)
               | ((with_reducible refine (HP.out _ hwq).mono ?_); rintro e wA ⟨rfl, hbA⟩; refine ⟨?_, hwq.trans (hbA.mono hwq.size)⟩; with_reducible rfl))
          go_simp
          go_big_quiet_on))
  refine wpQuiet_nil ?_
  intro W1 hb1
  have HB1 := Lib.hid (HB.out.trans (hb1.mono HB.out.size))
  clear HF HP HS hb1
  go_wp2_with fail
  go_ret
  exact ⟨rfl, HB1.out⟩
set_option maxRecDepth 100000 in
set_option maxHeartbeats 2000000 in
theorem dpair_lit {k' : Int} {n' : Nat} {t' r' : List UInt8} {fs' : List (Int × V)} {ls' : List V} {ps' : List (V × V)} {fa' la' pa' : Option Addr} {fc' lc' pc' : Nat} {k2 : Int} {n2 : Nat} {t2 r2 : List UInt8} {fs2 : List (Int × V)} {ls2 : List V} {ps2 : List (V × V)} {fa2 la2 pa2 : Option Addr} {fc2 lc2 pc2 : Nat} {S : Nat → Prop} {w : World} (hx : TxtC (.mk k' n' t' fs' r' ls' ps')) (hy : TxtC (.mk k2 n2 t2 fs2 r2 ls2 ps2)) (hr : Rep S w (.mk k' n' t' fs' r' ls' ps') ⟨fa', fc', la', lc', pa', pc'⟩) (hq : Rep S w (.mk k2 n2 t2 fs2 r2 ls2 ps2) ⟨fa2, fc2, la2, lc2, pa2, pc2⟩) (hw : wV (.mk k' n' t' fs' r' ls' ps') ≤ 100000) (hv : wV (.mk k2 n2 t2 fs2 r2 ls2 ps2) ≤ 100000) (hp : PowU w) :
    Calls Tryd.prog 18 #[.agg #[.int .i64 k', .int .u64 (n' : Int), .string (strB t'), .slice fa' fs'.length fc', .string (strB r'), .slice la' ls'.length lc', .slice pa' ps'.length pc', .int .i64 k2, .int .u64 (n2 : Int), .string (strB t2), .slice fa2 fs2.length fc2, .string (strB r2), .slice la2 ls2.length lc2, .slice pa2 ps2.length pc2]] w fun e w' => e = .returned (.string (strB (txtV (.mk k' n' t' fs' r' ls' ps') ++ 58 :: txtV (.mk k2 n2 t2 fs2 r2 ls2 ps2)))) ∧ Below w.heap.size w w' := by
  obtain ⟨W0, hW0⟩ : ∃ W0, W0 = w.alloc (.cells #[.int .i64 k', .int .u64 (n' : Int), .string (strB t'), .slice fa' fs'.length fc', .string (strB r'), .slice la' ls'.length lc', .slice pa' ps'.length pc', .int .i64 k2, .int .u64 (n2 : Int), .string (strB t2), .slice fa2 fs2.length fc2, .string (strB r2), .slice la2 ls2.length lc2, .slice pa2 ps2.length pc2] 56) := ⟨_, rfl⟩
  obtain ⟨g, hg⟩ : ∃ g, g = w.heap.size := ⟨_, rfl⟩
  have hb0 : Below w.heap.size w W0 := by rw [hW0]; exact (Below.refl _ _).alloc (Nat.le_refl _) _
  have hc0 : CellsAt W0 g 56 #[.int .i64 k', .int .u64 (n' : Int), .string (strB t'), .slice fa' fs'.length fc', .string (strB r'), .slice la' ls'.length lc', .slice pa' ps'.length pc', .int .i64 k2, .int .u64 (n2 : Int), .string (strB t2), .slice fa2 fs2.length fc2, .string (strB r2), .slice la2 ls2.length lc2, .slice pa2 ps2.length pc2] := by rw [hW0, hg]; exact CellsAt.new w _ _
  have h1 := txt_short (rep_mV _ hr) hw
  have h2 := txt_short (rep_mV _ hq) hv
  have HF : Hid (∀ W, Below W0.heap.size W0 W → Calls Tryd.prog 6 #[.agg #[.int .i64 k', .int .u64 (n' : Int), .string (strB t'), .slice fa' fs'.length fc', .string (strB r'), .slice la' ls'.length lc', .slice pa' ps'.length pc']] W fun e w' => e = .returned (.string (strB (txtV (.mk k' n' t' fs' r' ls' ps')))) ∧ Below W.heap.size W w') := fun W h => TxtC.lit hx ((hr.stays hb0).stays h) hw ((hp.stays hb0).stays h)
  have HP : Hid (∀ W, Below W0.heap.size W0 W → Calls Tryd.prog 6 #[.agg #[.int .i64 k2, .int .u64 (n2 : Int), .string (strB t2), .slice fa2 fs2.length fc2, .string (strB r2), .slice la2 ls2.length lc2, .slice pa2 ps2.length pc2]] W fun e w' => e = .returned (.string (strB (txtV (.mk k2 n2 t2 fs2 r2 ls2 ps2)))) ∧ Below W.heap.size W w') := fun W h => TxtC.lit hy ((hq.stays hb0).stays h) hv ((hp.stays hb0).stays h)
  obtain ⟨XA, hXA⟩ : ∃ X, X = txtV (.mk k' n' t' fs' r' ls' ps') := ⟨_, rfl⟩
  obtain ⟨XB, hXB⟩ : ∃ X, X = txtV (.mk k2 n2 t2 fs2 r2 ls2 ps2) := ⟨_, rfl⟩
  rw [← hXA] at h1 HF
  rw [← hXB] at h2 HP
  rw [← hXA, ← hXB]
  have HS : Hid (∀ W, Below W0.heap.size W0 W → W.cell? ⟨g, 0, none⟩ = some (.int .i64 k') ∧ W.cell? ⟨g, 1, none⟩ = some (.int .u64 (n' : Int)) ∧ W.cell? ⟨g, 2, none⟩ = some (.string (strB t')) ∧ W.cell? ⟨g, 3, none⟩ = some (.slice fa' fs'.length fc') ∧ W.cell? ⟨g, 4, none⟩ = some (.string (strB r')) ∧ W.cell? ⟨g, 5, none⟩ = some (.slice la' ls'.length lc') ∧ W.cell? ⟨g, 6, none⟩ = some (.slice pa' ps'.length pc') ∧ W.cell? ⟨g, 7, none⟩ = some (.int .i64 k2) ∧ W.cell? ⟨g, 8, none⟩ = some (.int .u64 (n2 : Int)) ∧ W.cell? ⟨g, 9, none⟩ = some (.string (strB t2)) ∧ W.cell? ⟨g, 10, none⟩ = some (.slice fa2 fs2.length fc2) ∧ W.cell? ⟨g, 11, none⟩ = some (.string (strB r2)) ∧ W.cell? ⟨g, 12, none⟩ = some (.slice la2 ls2.length lc2) ∧ W.cell? ⟨g, 13, none⟩ = some (.slice pa2 ps2.length pc2) ∧ (Op.stringOp .add (strB XA) ⟨#[58]⟩).run Tryd.prog W = .ok (.string (strB (XA ++ [58]))) W ∧ (Op.stringOp .add (strB (XA ++ [58])) (strB XB)).run Tryd.prog W = .ok (.string (strB (XA ++ 58 :: XB))) W) := fun W h => by
    refine ⟨(hc0.stays h).cell 0 rfl, (hc0.stays h).cell 1 rfl, (hc0.stays h).cell 2 rfl, (hc0.stays h).cell 3 rfl, (hc0.stays h).cell 4 rfl, (hc0.stays h).cell 5 rfl, (hc0.stays h).cell 6 rfl, (hc0.stays h).cell 7 rfl, (hc0.stays h).cell 8 rfl, (hc0.stays h).cell 9 rfl, (hc0.stays h).cell 10 rfl, (hc0.stays h).cell 11 rfl, (hc0.stays h).cell 12 rfl, (hc0.stays h).cell 13 rfl, str_add XA [58] (by simp; omega) W, ?_⟩
    rw [str_add (XA ++ [58]) XB (by simp; omega) W, List.append_assoc]; rfl
  have hd0 : Below W0.heap.size W0 W0.drew := (Below.refl _ _).drew
  have HW := Lib.hid hW0
  have HG := Lib.hid hg
  have HB := Lib.hid hb0
  clear hx hy hr hq hw hv hp hW0 hg hb0 hc0 h1 h2 hXA hXB
  go_enter Tryd.func18, Tryd.ntmps18
  go_upto_region 1 with fail
  rw [← HW.out, ← HG.out]
  clear HW HG
  refine wp_region_quiet_in (C := fun W => Below W0.heap.size W0 W) (by kernel_rfl) (by kernel_rfl) hd0 ?_
  clear hd0
  repeat
    (first
       | go_big_quiet_skip
       | (go_big_quiet_want
          refine quiet_intro ?_ (fun wq hwq => ?_) ?_
          rotate_left
          focus
            (obtain ⟨c0, c1, c2, c3, c4, c5, c6, c7, c8, c9, c10, c11, c12, c13, s1, s2⟩ := HS.out _ hwq
             go_simp
             try first
               | with_reducible rfl
               | (exact hwq)
               | ((with_reducible refine (HF.out _ hwq).mono ?_); rintro e wA ⟨rfl, hbA⟩; refine ⟨?_, hwq.trans (hbA.mono hwq.size)⟩; with_reducible rfl)
               | ((with_reducible refine (HP.out _ hwq).mono ?_); rintro e wA ⟨rfl, hbA⟩; refine ⟨?_, hwq.trans (hbA.mono hwq.size)⟩; with_reducible rfl))
          go_simp
          go_big_quiet_on))
  refine wpQuiet_nil ?_
  intro W1 hb1
  have HB1 := Lib.hid (HB.out.trans (hb1.mono HB.out.size))
  clear HF HP HS hb1
  go_wp2_with fail
  go_ret
  exact ⟨rfl, HB1.out⟩
set_option maxRecDepth 100000 in
set_option maxHeartbeats 4000000 in
theorem blockField_any {k : Int} {n : Nat} {t r : List UInt8} {fs : List (Int × V)} {ls : List V} {ps : List (V × V)} {fa la pa : Option Addr} {fc lc pc : Nat} {S : Nat → Prop} {w : World} (hih : ∀ p ∈ fs, TxtC p.2) (hr : Rep S w (.mk k n t fs r ls ps) ⟨fa, fc, la, lc, pa, pc⟩) (hp : PowU w) (hw : wV (.mk k n t fs r ls ps) ≤ 100000) {am : Option Addr} {cm : Nat} {ms : List Bs} (hms : RowL SD w (.slice am ms.length cm) ms) (hmt : totB ms ≤ 500000) {op sh : UInt8} :
    Calls Tryd.prog 14 #[.string ⟨#[op]⟩, .string ⟨#[sh]⟩, .slice fa fs.length fc, .func (.func 15) #[] #[], .slice am ms.length cm] w fun e w' => e = .returned (.string (strB (op :: (joi 32 (txtF fs ++ ms) ++ [sh])))) ∧ Below w.heap.size w w' := by
  have HR : Hid (∀ W, Below w.heap.size w W → Rep S W (.mk k n t fs r ls ps) ⟨fa, fc, la, lc, pa, pc⟩) := fun W h => hr.stays h
  have HPO : Hid (∀ W, Below w.heap.size w W → PowU W) := fun W h => hp.stays h
  have HMS : Hid (∀ W, Below w.heap.size w W → RowL SD W (.slice am ms.length cm) ms) := fun W h => Row.stays hms h
  have hmv := rep_mV _ hr
  have htl : totB (txtF fs) ≤ 3000000 := by
    obtain ⟨h1, h2, h3, h4⟩ := hmv
    have h5 := txtF_len fs h2
    rw [wV_eq] at hw
    simp only [V.fs, V.ls, V.ps] at hw
    omega
  have htn : (txtF fs).length = fs.length := by rw [txtF_map, List.length_map]
  have hrl : fs.length ≤ 100000 := by
    have h5 := wF_len fs
    rw [wV_eq] at hw
    simp only [V.fs, V.ls, V.ps] at hw
    omega
  have hll := totB_len (txtF fs)
  have hml := totB_len ms
  clear hr hp hms hmv
  go_enter Tryd.func14, Tryd.ntmps14
  go_wp2_with fail
  go_loopw [11, 16] (fun v i wr => ∃ m : Nat, m ≤ fs.length ∧ i = .int .i64 m ∧ OwnL 9 SD w.heap.size wr v ((txtF fs).take m) ∧ Below w.heap.size w wr) (fun _ i _ => fs.length - (intOf i).toNat)
  case atStart => exact ⟨0, Nat.zero_le _, rfl, OwnL.nil _ _, Below.refl _ _⟩
  case round =>
    obtain ⟨m, hm, rfl, how, hbe⟩ := hrel
    by_cases h1 : m < fs.length
    · obtain ⟨⟨num, ⟨k', n', t', fs', r', ls', ps'⟩⟩, hq⟩ : ∃ x, fs[m]? = some x := ⟨_, List.getElem?_eq_getElem h1⟩
      obtain ⟨bf, of', fa', la', pa', fc', lc', pc', rfl, hnum, hrx, y0, y1, y2, y3, y4, y5, y6, y7⟩ := (HR.out wr hbe).fieldAt hq
      have hwx : wV (.mk k' n' t' fs' r' ls' ps') ≤ 100000 := by have h1 := wF_mem fs _ (List.mem_of_getElem? hq); rw [wV_eq] at hw; simp only [V.fs] at hw h1; omega
      obtain ⟨W2, hW2⟩ : ∃ W2, W2 = wr.alloc (.cells #[.int .i64 num, .int .i64 k', .int .u64 (n' : Int), .string (strB t'), .slice fa' fs'.length fc', .string (strB r'), .slice la' ls'.length lc', .slice pa' ps'.length pc'] 51) := ⟨_, rfl⟩
      obtain ⟨gb, hgb⟩ : ∃ gb, gb = wr.heap.size := ⟨_, rfl⟩
      have hb2 : Below wr.heap.size wr W2 := by rw [hW2]; exact (Below.refl _ _).alloc (Nat.le_refl _) _
      have hcb : CellsAt W2 gb 51 #[.int .i64 num, .int .i64 k', .int .u64 (n' : Int), .string (strB t'), .slice fa' fs'.length fc', .string (strB r'), .slice la' ls'.length lc', .slice pa' ps'.length pc'] := by rw [hW2, hgb]; exact CellsAt.new wr _ _
      have hC := dfield_lit hnum (hih _ (List.mem_of_getElem? hq)) (hrx.stays hb2) hwx ((HPO.out wr hbe).stays hb2)
      have HC := Lib.hid hC
      have hta : (txtF fs)[m]? = some (decZ num ++ 58 :: txtV (.mk k' n' t' fs' r' ls' ps')) := by rw [txtF_map, List.getElem?_map, hq]; rfl
      have HT : Hid ((txtF fs).take (m + 1) = (txtF fs).take m ++ [decZ num ++ 58 :: txtV (.mk k' n' t' fs' r' ls' ps')]) := by
        show _ = _
        rw [List.take_add_one, hta, Option.toList_some]
      obtain ⟨XT, hXT⟩ : ∃ X, X = decZ num ++ 58 :: txtV (.mk k' n' t' fs' r' ls' ps') := ⟨_, rfl⟩
      rw [← hXT] at HC HT
      have hal : ((txtF fs).take m).length = m := by rw [List.length_take]; omega
      have HAL := Lib.hid hal
      have HOW := Lib.hid how
      have HBE2 : Hid (Below w.heap.size w W2) := hbe.trans (hb2.mono hbe.size)
      have HB2 := Lib.hid hb2
      have HCB := Lib.hid hcb
      have HW2 := Lib.hid hW2
      have HGB := Lib.hid hgb
      clear hq hal how hb2 hcb hW2 hgb hta hXT hC hwx hrx hbe
      go_upto_region 5 with fail
      rw [← HW2.out, ← HGB.out]
      have hcb := HCB.out
      have z0 := hcb.cell 0 (v := .int .i64 num) rfl
      have z1 := hcb.cell 1 (v := .int .i64 k') rfl
      have z2 := hcb.cell 2 (v := .int .u64 (n' : Int)) rfl
      have z3 := hcb.cell 3 (v := .string (strB t')) rfl
      have z4 := hcb.cell 4 (v := .slice fa' fs'.length fc') rfl
      have z5 := hcb.cell 5 (v := .string (strB r')) rfl
      have z6 := hcb.cell 6 (v := .slice la' ls'.length lc') rfl
      have z7 := hcb.cell 7 (v := .slice pa' ps'.length pc') rfl
      clear hcb HW2 HGB HCB y0 y1 y2 y3 y4 y5 y6 y7
      go_wp2_with fail
      refine HC.out.mono ?_
      rintro e w3 ⟨rfl, hb3⟩
      have how3 := own_stays (own_stays HOW.out HB2.out) hb3
      have hbe3 := HBE2.out.trans (hb3.mono HBE2.out.size)
      have HBE3 := Lib.hid hbe3
      have hsz := hbe3.size
      clear HC hb3 HOW HB2 HBE2 hbe3 z0 z1 z2 z3 z4 z5 z6 z7
      go_wp2_with (at_builtin; go_must (refine wpList_pushL SD_one Tryd.underlying30 infoSD rfl (by decide) how3 XT (by rw [HAL.out]; omega) hsz rfl _ _ rfl (by rfl) _ _ _ (by rfl) (by rfl) ?_))
      intro v3 w4 ho4 hg4 hn4
      have hb4 := below_own HBE3.out how3 hg4 hsz
      have HB4 := Lib.hid hb4
      rw [← HT.out] at ho4
      clear how3 hg4 hn4 hb4
      go_wp2_with fail
      go_roundw
      case rel => exact ⟨m + 1, h1, by go_num, ho4, HB4.out⟩
      case measure => simp only [intOf]; omega
    · rw [show (txtF fs).take m = txtF fs from List.take_of_length_le (by omega)] at how
      have HMS2 := Lib.hid (HMS.out wr hbe)
      have HBE := Lib.hid hbe
      have hsz := hbe.size
      have hjl := joi_tot 32 (txtF fs ++ ms)
      rw [totB_app] at hjl
      obtain ⟨YS, hY⟩ : ∃ YS, YS = txtF fs := ⟨_, rfl⟩
      rw [← hY] at how htl htn hjl hll
      have HY := Lib.hid hY
      have hjl2 : (joi 32 (YS ++ ms)).length ≤ 5000000 := by omega
      have hnl2 : YS.length + ms.length ≤ 1000000 := by omega
      clear hY HR HPO HMS hbe htl hll hmt hih htn hrl
      obtain ⟨a2, c2, rfl, -, -⟩ := (OwnL.row how).shape
      go_wp2_with (at_builtin; go_must (refine wpList_appendL SD_one Tryd.underlying30 infoSD rfl (by decide) how HMS2.out (by omega) hsz rfl _ _ rfl (by rfl) (by rfl) ?_))
      intro v4 w4 ho4 hg4 hn4 hx4
      have HB4 := Lib.hid (below_own HBE.out how hg4 hsz)
      obtain ⟨a4, c4, rfl, -, -⟩ := (OwnL.row ho4).shape
      have HJ := Lib.hid (joinD_any 32 (OwnL.row ho4) (by simp; omega) (by omega))
      rw [List.length_append] at HJ
      obtain ⟨J, hJ⟩ : ∃ J, J = joi 32 (YS ++ ms) := ⟨_, rfl⟩
      rw [← hJ] at HJ hjl2
      have HJ0 : Hid (J = joi 32 (txtF fs ++ ms)) := by show _ = _; rw [hJ, HY.out]
      have hA1 : ∀ W, (Op.stringOp .add ⟨#[op]⟩ (strB J)).run Tryd.prog W = .ok (.string (strB (op :: J))) W := fun W => str_add [op] J (by simp; omega) W
      have hA2 : ∀ W, (Op.stringOp .add (strB (op :: J)) ⟨#[sh]⟩).run Tryd.prog W = .ok (.string (strB (op :: (J ++ [sh])))) W := fun W => str_add (op :: J) [sh] (by simp; omega) W
      clear how hg4 hn4 hx4 ho4 hJ hjl HMS2 HBE
      go_wp2_with fail
      refine HJ.out.mono ?_
      rintro e w5 ⟨rfl, hb5⟩
      have HB5 := Lib.hid (HB4.out.trans (hb5.mono HB4.out.size))
      clear HJ hb5
      go_wp2_with fail
      go_ret
      exact ⟨congrArg (fun z => Ending.returned (Value.string (strB (op :: (z ++ [sh]))))) HJ0.out, HB5.out⟩
set_option maxRecDepth 100000 in
set_option maxHeartbeats 4000000 in
theorem blockValue_any {k : Int} {n : Nat} {t r : List UInt8} {fs : List (Int × V)} {ls : List V} {ps : List (V × V)} {fa la pa : Option Addr} {fc lc pc : Nat} {S : Nat → Prop} {w : World} (hih : ∀ p ∈ ls, TxtC p) (hr : Rep S w (.mk k n t fs r ls ps) ⟨fa, fc, la, lc, pa, pc⟩) (hp : PowU w) (hw : wV (.mk k n t fs r ls ps) ≤ 100000) {am : Option Addr} {cm : Nat} {ms : List Bs} (hms : RowL SD w (.slice am ms.length cm) ms) (hmt : totB ms ≤ 500000) {op sh : UInt8} :
    Calls Tryd.prog 16 #[.string ⟨#[op]⟩, .string ⟨#[sh]⟩, .slice la ls.length lc, .func (.func 6) #[] #[], .slice am ms.length cm] w fun e w' => e = .returned (.string (strB (op :: (joi 32 (txtL ls ++ ms) ++ [sh])))) ∧ Below w.heap.size w w' := by
  have HR : Hid (∀ W, Below w.heap.size w W → Rep S W (.mk k n t fs r ls ps) ⟨fa, fc, la, lc, pa, pc⟩) := fun W h => hr.stays h
  have HPO : Hid (∀ W, Below w.heap.size w W → PowU W) := fun W h => hp.stays h
  have HMS : Hid (∀ W, Below w.heap.size w W → RowL SD W (.slice am ms.length cm) ms) := fun W h => Row.stays hms h
  have hmv := rep_mV _ hr
  have htl : totB (txtL ls) ≤ 3000000 := by
    obtain ⟨h1, h2, h3, h4⟩ := hmv
    have h5 := txtL_len ls h3
    rw [wV_eq] at hw
    simp only [V.fs, V.ls, V.ps] at hw
    omega
  have htn : (txtL ls).length = ls.length := by rw [txtL_map, List.length_map]
  have hrl : ls.length ≤ 100000 := by
    have h5 := wL_len ls
    rw [wV_eq] at hw
    simp only [V.fs, V.ls, V.ps] at hw
    omega
  have hll := totB_len (txtL ls)
  have hml := totB_len ms
  clear hr hp hms hmv
  go_enter Tryd.func16, Tryd.ntmps16
  go_wp2_with fail
  go_loopw [11, 16] (fun v i wr => ∃ m : Nat, m ≤ ls.length ∧ i = .int .i64 m ∧ OwnL 9 SD w.heap.size wr v ((txtL ls).take m) ∧ Below w.heap.size w wr) (fun _ i _ => ls.length - (intOf i).toNat)
  case atStart => exact ⟨0, Nat.zero_le _, rfl, OwnL.nil _ _, Below.refl _ _⟩
  case round =>
    obtain ⟨m, hm, rfl, how, hbe⟩ := hrel
    by_cases h1 : m < ls.length
    · obtain ⟨⟨k', n', t', fs', r', ls', ps'⟩, hq⟩ : ∃ x, ls[m]? = some x := ⟨_, List.getElem?_eq_getElem h1⟩
      obtain ⟨bf, of', fa', la', pa', fc', lc', pc', rfl, hrx, y0, y1, y2, y3, y4, y5, y6⟩ := (HR.out wr hbe).partAt hq
      have hwx : wV (.mk k' n' t' fs' r' ls' ps') ≤ 100000 := by have h1 := wL_mem ls _ (List.mem_of_getElem? hq); rw [wV_eq] at hw; simp only [V.ls] at hw h1; omega
      obtain ⟨W2, hW2⟩ : ∃ W2, W2 = wr.alloc (.cells #[.int .i64 k', .int .u64 (n' : Int), .string (strB t'), .slice fa' fs'.length fc', .string (strB r'), .slice la' ls'.length lc', .slice pa' ps'.length pc'] 27) := ⟨_, rfl⟩
      obtain ⟨gb, hgb⟩ : ∃ gb, gb = wr.heap.size := ⟨_, rfl⟩
      have hb2 : Below wr.heap.size wr W2 := by rw [hW2]; exact (Below.refl _ _).alloc (Nat.le_refl _) _
      have hcb : CellsAt W2 gb 27 #[.int .i64 k', .int .u64 (n' : Int), .string (strB t'), .slice fa' fs'.length fc', .string (strB r'), .slice la' ls'.length lc', .slice pa' ps'.length pc'] := by rw [hW2, hgb]; exact CellsAt.new wr _ _
      have hC := TxtC.lit (hih _ (List.mem_of_getElem? hq)) (hrx.stays hb2) hwx ((HPO.out wr hbe).stays hb2)
      have HC := Lib.hid hC
      have hta : (txtL ls)[m]? = some (txtV (.mk k' n' t' fs' r' ls' ps')) := by rw [txtL_map, List.getElem?_map, hq]; rfl
      have HT : Hid ((txtL ls).take (m + 1) = (txtL ls).take m ++ [txtV (.mk k' n' t' fs' r' ls' ps')]) := by
        show _ = _
        rw [List.take_add_one, hta, Option.toList_some]
      obtain ⟨XT, hXT⟩ : ∃ X, X = txtV (.mk k' n' t' fs' r' ls' ps') := ⟨_, rfl⟩
      rw [← hXT] at HC HT
      have hal : ((txtL ls).take m).length = m := by rw [List.length_take]; omega
      have HAL := Lib.hid hal
      have HOW := Lib.hid how
      have HBE2 : Hid (Below w.heap.size w W2) := hbe.trans (hb2.mono hbe.size)
      have HB2 := Lib.hid hb2
      have HCB := Lib.hid hcb
      have HW2 := Lib.hid hW2
      have HGB := Lib.hid hgb
      clear hq hal how hb2 hcb hW2 hgb hta hXT hC hwx hrx hbe
      go_upto_region 5 with fail
      rw [← HW2.out, ← HGB.out]
      have hcb := HCB.out
      have z0 := hcb.cell 0 (v := .int .i64 k') rfl
      have z1 := hcb.cell 1 (v := .int .u64 (n' : Int)) rfl
      have z2 := hcb.cell 2 (v := .string (strB t')) rfl
      have z3 := hcb.cell 3 (v := .slice fa' fs'.length fc') rfl
      have z4 := hcb.cell 4 (v := .string (strB r')) rfl
      have z5 := hcb.cell 5 (v := .slice la' ls'.length lc') rfl
      have z6 := hcb.cell 6 (v := .slice pa' ps'.length pc') rfl
      clear hcb HW2 HGB HCB y0 y1 y2 y3 y4 y5 y6
      go_wp2_with fail
      refine HC.out.mono ?_
      rintro e w3 ⟨rfl, hb3⟩
      have how3 := own_stays (own_stays HOW.out HB2.out) hb3
      have hbe3 := HBE2.out.trans (hb3.mono HBE2.out.size)
      have HBE3 := Lib.hid hbe3
      have hsz := hbe3.size
      clear HC hb3 HOW HB2 HBE2 hbe3 z0 z1 z2 z3 z4 z5 z6
      go_wp2_with (at_builtin; go_must (refine wpList_pushL SD_one Tryd.underlying30 infoSD rfl (by decide) how3 XT (by rw [HAL.out]; omega) hsz rfl _ _ rfl (by rfl) _ _ _ (by rfl) (by rfl) ?_))
      intro v3 w4 ho4 hg4 hn4
      have hb4 := below_own HBE3.out how3 hg4 hsz
      have HB4 := Lib.hid hb4
      rw [← HT.out] at ho4
      clear how3 hg4 hn4 hb4
      go_wp2_with fail
      go_roundw
      case rel => exact ⟨m + 1, h1, by go_num, ho4, HB4.out⟩
      case measure => simp only [intOf]; omega
    · rw [show (txtL ls).take m = txtL ls from List.take_of_length_le (by omega)] at how
      have HMS2 := Lib.hid (HMS.out wr hbe)
      have HBE := Lib.hid hbe
      have hsz := hbe.size
      have hjl := joi_tot 32 (txtL ls ++ ms)
      rw [totB_app] at hjl
      obtain ⟨YS, hY⟩ : ∃ YS, YS = txtL ls := ⟨_, rfl⟩
      rw [← hY] at how htl htn hjl hll
      have HY := Lib.hid hY
      have hjl2 : (joi 32 (YS ++ ms)).length ≤ 5000000 := by omega
      have hnl2 : YS.length + ms.length ≤ 1000000 := by omega
      clear hY HR HPO HMS hbe htl hll hmt hih htn hrl
      obtain ⟨a2, c2, rfl, -, -⟩ := (OwnL.row how).shape
      go_wp2_with (at_builtin; go_must (refine wpList_appendL SD_one Tryd.underlying30 infoSD rfl (by decide) how HMS2.out (by omega) hsz rfl _ _ rfl (by rfl) (by rfl) ?_))
      intro v4 w4 ho4 hg4 hn4 hx4
      have HB4 := Lib.hid (below_own HBE.out how hg4 hsz)
      obtain ⟨a4, c4, rfl, -, -⟩ := (OwnL.row ho4).shape
      have HJ := Lib.hid (joinD_any 32 (OwnL.row ho4) (by simp; omega) (by omega))
      rw [List.length_append] at HJ
      obtain ⟨J, hJ⟩ : ∃ J, J = joi 32 (YS ++ ms) := ⟨_, rfl⟩
      rw [← hJ] at HJ hjl2
      have HJ0 : Hid (J = joi 32 (txtL ls ++ ms)) := by show _ = _; rw [hJ, HY.out]
      have hA1 : ∀ W, (Op.stringOp .add ⟨#[op]⟩ (strB J)).run Tryd.prog W = .ok (.string (strB (op :: J))) W := fun W => str_add [op] J (by simp; omega) W
      have hA2 : ∀ W, (Op.stringOp .add (strB (op :: J)) ⟨#[sh]⟩).run Tryd.prog W = .ok (.string (strB (op :: (J ++ [sh])))) W := fun W => str_add (op :: J) [sh] (by simp; omega) W
      clear how hg4 hn4 hx4 ho4 hJ hjl HMS2 HBE
      go_wp2_with fail
      refine HJ.out.mono ?_
      rintro e w5 ⟨rfl, hb5⟩
      have HB5 := Lib.hid (HB4.out.trans (hb5.mono HB4.out.size))
      clear HJ hb5
      go_wp2_with fail
      go_ret
      exact ⟨congrArg (fun z => Ending.returned (Value.string (strB (op :: (z ++ [sh]))))) HJ0.out, HB5.out⟩
set_option maxRecDepth 100000 in
set_option maxHeartbeats 4000000 in
theorem blockPair_any {k : Int} {n : Nat} {t r : List UInt8} {fs : List (Int × V)} {ls : List V} {ps : List (V × V)} {fa la pa : Option Addr} {fc lc pc : Nat} {S : Nat → Prop} {w : World} (hih : ∀ p ∈ ps, TxtC p.1 ∧ TxtC p.2) (hr : Rep S w (.mk k n t fs r ls ps) ⟨fa, fc, la, lc, pa, pc⟩) (hp : PowU w) (hw : wV (.mk k n t fs r ls ps) ≤ 100000) {am : Option Addr} {cm : Nat} {ms : List Bs} (hms : RowL SD w (.slice am ms.length cm) ms) (hmt : totB ms ≤ 500000) {op sh : UInt8} :
    Calls Tryd.prog 17 #[.string ⟨#[op]⟩, .string ⟨#[sh]⟩, .slice pa ps.length pc, .func (.func 18) #[] #[], .slice am ms.length cm] w fun e w' => e = .returned (.string (strB (op :: (joi 32 (txtP ps ++ ms) ++ [sh])))) ∧ Below w.heap.size w w' := by
  have HR : Hid (∀ W, Below w.heap.size w W → Rep S W (.mk k n t fs r ls ps) ⟨fa, fc, la, lc, pa, pc⟩) := fun W h => hr.stays h
  have HPO : Hid (∀ W, Below w.heap.size w W → PowU W) := fun W h => hp.stays h
  have HMS : Hid (∀ W, Below w.heap.size w W → RowL SD W (.slice am ms.length cm) ms) := fun W h => Row.stays hms h
  have hmv := rep_mV _ hr
  have htl : totB (txtP ps) ≤ 3000000 := by
    obtain ⟨h1, h2, h3, h4⟩ := hmv
    have h5 := txtP_len ps h4
    rw [wV_eq] at hw
    simp only [V.fs, V.ls, V.ps] at hw
    omega
  have htn : (txtP ps).length = ps.length := by rw [txtP_map, List.length_map]
  have hrl : ps.length ≤ 100000 := by
    have h5 := wP_len ps
    rw [wV_eq] at hw
    simp only [V.fs, V.ls, V.ps] at hw
    omega
  have hll := totB_len (txtP ps)
  have hml := totB_len ms
  clear hr hp hms hmv
  go_enter Tryd.func17, Tryd.ntmps17
  go_wp2_with fail
  go_loopw [11, 16] (fun v i wr => ∃ m : Nat, m ≤ ps.length ∧ i = .int .i64 m ∧ OwnL 9 SD w.heap.size wr v ((txtP ps).take m) ∧ Below w.heap.size w wr) (fun _ i _ => ps.length - (intOf i).toNat)
  case atStart => exact ⟨0, Nat.zero_le _, rfl, OwnL.nil _ _, Below.refl _ _⟩
  case round =>
    obtain ⟨m, hm, rfl, how, hbe⟩ := hrel
    by_cases h1 : m < ps.length
    · obtain ⟨⟨⟨k', n', t', fs', r', ls', ps'⟩, ⟨k2, n2, t2, fs2, r2, ls2, ps2⟩⟩, hq⟩ : ∃ x, ps[m]? = some x := ⟨_, List.getElem?_eq_getElem h1⟩
      obtain ⟨bf, of', fa', la', pa', fc', lc', pc', fa2, la2, pa2, fc2, lc2, pc2, rfl, hrk, hrx, y0, y1, y2, y3, y4, y5, y6, y7, y8, y9, y10, y11, y12, y13⟩ := (HR.out wr hbe).pairAt hq
      have hwx : wV (.mk k' n' t' fs' r' ls' ps') ≤ 100000 ∧ wV (.mk k2 n2 t2 fs2 r2 ls2 ps2) ≤ 100000 := by have h1 := wP_mem ps _ (List.mem_of_getElem? hq); rw [wV_eq] at hw; simp only [V.ps] at hw h1; omega
      obtain ⟨W2, hW2⟩ : ∃ W2, W2 = wr.alloc (.cells #[.int .i64 k', .int .u64 (n' : Int), .string (strB t'), .slice fa' fs'.length fc', .string (strB r'), .slice la' ls'.length lc', .slice pa' ps'.length pc', .int .i64 k2, .int .u64 (n2 : Int), .string (strB t2), .slice fa2 fs2.length fc2, .string (strB r2), .slice la2 ls2.length lc2, .slice pa2 ps2.length pc2] 56) := ⟨_, rfl⟩
      obtain ⟨gb, hgb⟩ : ∃ gb, gb = wr.heap.size := ⟨_, rfl⟩
      have hb2 : Below wr.heap.size wr W2 := by rw [hW2]; exact (Below.refl _ _).alloc (Nat.le_refl _) _
      have hcb : CellsAt W2 gb 56 #[.int .i64 k', .int .u64 (n' : Int), .string (strB t'), .slice fa' fs'.length fc', .string (strB r'), .slice la' ls'.length lc', .slice pa' ps'.length pc', .int .i64 k2, .int .u64 (n2 : Int), .string (strB t2), .slice fa2 fs2.length fc2, .string (strB r2), .slice la2 ls2.length lc2, .slice pa2 ps2.length pc2] := by rw [hW2, hgb]; exact CellsAt.new wr _ _
      have hC := dpair_lit (hih _ (List.mem_of_getElem? hq)).1 (hih _ (List.mem_of_getElem? hq)).2 (hrk.stays hb2) (hrx.stays hb2) hwx.1 hwx.2 ((HPO.out wr hbe).stays hb2)
      have HC := Lib.hid hC
      have hta : (txtP ps)[m]? = some (txtV (.mk k' n' t' fs' r' ls' ps') ++ 58 :: txtV (.mk k2 n2 t2 fs2 r2 ls2 ps2)) := by rw [txtP_map, List.getElem?_map, hq]; rfl
      have HT : Hid ((txtP ps).take (m + 1) = (txtP ps).take m ++ [txtV (.mk k' n' t' fs' r' ls' ps') ++ 58 :: txtV (.mk k2 n2 t2 fs2 r2 ls2 ps2)]) := by
        show _ = _
        rw [List.take_add_one, hta, Option.toList_some]
      obtain ⟨XT, hXT⟩ : ∃ X, X = txtV (.mk k' n' t' fs' r' ls' ps') ++ 58 :: txtV (.mk k2 n2 t2 fs2 r2 ls2 ps2) := ⟨_, rfl⟩
      rw [← hXT] at HC HT
      have hal : ((txtP ps).take m).length = m := by rw [List.length_take]; omega
      have HAL := Lib.hid hal
      have HOW := Lib.hid how
      have HBE2 : Hid (Below w.heap.size w W2) := hbe.trans (hb2.mono hbe.size)
      have HB2 := Lib.hid hb2
      have HCB := Lib.hid hcb
      have HW2 := Lib.hid hW2
      have HGB := Lib.hid hgb
      clear hq hal how hb2 hcb hW2 hgb hta hXT hC hwx hrx hbe hrk
      go_upto_region 5 with fail
      rw [← HW2.out, ← HGB.out]
      have hcb := HCB.out
      have z0 := hcb.cell 0 (v := .int .i64 k') rfl
      have z1 := hcb.cell 1 (v := .int .u64 (n' : Int)) rfl
      have z2 := hcb.cell 2 (v := .string (strB t')) rfl
      have z3 := hcb.cell 3 (v := .slice fa' fs'.length fc') rfl
      have z4 := hcb.cell 4 (v := .string (strB r')) rfl
      have z5 := hcb.cell 5 (v := .slice la' ls'.length lc') rfl
      have z6 := hcb.cell 6 (v := .slice pa' ps'.length pc') rfl
      have z7 := hcb.cell 7 (v := .int .i64 k2) rfl
      have z8 := hcb.cell 8 (v := .int .u64 (n2 : Int)) rfl
      have z9 := hcb.cell 9 (v := .string (strB t2)) rfl
      have z10 := hcb.cell 10 (v := .slice fa2 fs2.length fc2) rfl
      have z11 := hcb.cell 11 (v := .string (strB r2)) rfl
      have z12 := hcb.cell 12 (v := .slice la2 ls2.length lc2) rfl
      have z13 := hcb.cell 13 (v := .slice pa2 ps2.length pc2) rfl
      clear hcb HW2 HGB HCB y0 y1 y2 y3 y4 y5 y6 y7 y8 y9 y10 y11 y12 y13
      go_wp2_with fail
      refine HC.out.mono ?_
      rintro e w3 ⟨rfl, hb3⟩
      have how3 := own_stays (own_stays HOW.out HB2.out) hb3
      have hbe3 := HBE2.out.trans (hb3.mono HBE2.out.size)
      have HBE3 := Lib.hid hbe3
      have hsz := hbe3.size
      clear HC hb3 HOW HB2 HBE2 hbe3 z0 z1 z2 z3 z4 z5 z6 z7 z8 z9 z10 z11 z12 z13
      go_wp2_with (at_builtin; go_must (refine wpList_pushL SD_one Tryd.underlying30 infoSD rfl (by decide) how3 XT (by rw [HAL.out]; omega) hsz rfl _ _ rfl (by rfl) _ _ _ (by rfl) (by rfl) ?_))
      intro v3 w4 ho4 hg4 hn4
      have hb4 := below_own HBE3.out how3 hg4 hsz
      have HB4 := Lib.hid hb4
      rw [← HT.out] at ho4
      clear how3 hg4 hn4 hb4
      go_wp2_with fail
      go_roundw
      case rel => exact ⟨m + 1, h1, by go_num, ho4, HB4.out⟩
      case measure => simp only [intOf]; omega
    · rw [show (txtP ps).take m = txtP ps from List.take_of_length_le (by omega)] at how
      have HMS2 := Lib.hid (HMS.out wr hbe)
      have HBE := Lib.hid hbe
      have hsz := hbe.size
      have hjl := joi_tot 32 (txtP ps ++ ms)
      rw [totB_app] at hjl
      obtain ⟨YS, hY⟩ : ∃ YS, YS = txtP ps := ⟨_, rfl⟩
      rw [← hY] at how htl htn hjl hll
      have HY := Lib.hid hY
      have hjl2 : (joi 32 (YS ++ ms)).length ≤ 5000000 := by omega
      have hnl2 : YS.length + ms.length ≤ 1000000 := by omega
      clear hY HR HPO HMS hbe htl hll hmt hih htn hrl
      obtain ⟨a2, c2, rfl, -, -⟩ := (OwnL.row how).shape
      go_wp2_with (at_builtin; go_must (refine wpList_appendL SD_one Tryd.underlying30 infoSD rfl (by decide) how HMS2.out (by omega) hsz rfl _ _ rfl (by rfl) (by rfl) ?_))
      intro v4 w4 ho4 hg4 hn4 hx4
      have HB4 := Lib.hid (below_own HBE.out how hg4 hsz)
      obtain ⟨a4, c4, rfl, -, -⟩ := (OwnL.row ho4).shape
      have HJ := Lib.hid (joinD_any 32 (OwnL.row ho4) (by simp; omega) (by omega))
      rw [List.length_append] at HJ
      obtain ⟨J, hJ⟩ : ∃ J, J = joi 32 (YS ++ ms) := ⟨_, rfl⟩
      rw [← hJ] at HJ hjl2
      have HJ0 : Hid (J = joi 32 (txtP ps ++ ms)) := by show _ = _; rw [hJ, HY.out]
      have hA1 : ∀ W, (Op.stringOp .add ⟨#[op]⟩ (strB J)).run Tryd.prog W = .ok (.string (strB (op :: J))) W := fun W => str_add [op] J (by simp; omega) W
      have hA2 : ∀ W, (Op.stringOp .add (strB (op :: J)) ⟨#[sh]⟩).run Tryd.prog W = .ok (.string (strB (op :: (J ++ [sh])))) W := fun W => str_add (op :: J) [sh] (by simp; omega) W
      clear how hg4 hn4 hx4 ho4 hJ hjl HMS2 HBE
      go_wp2_with fail
      refine HJ.out.mono ?_
      rintro e w5 ⟨rfl, hb5⟩
      have HB5 := Lib.hid (HB4.out.trans (hb5.mono HB4.out.size))
      clear HJ hb5
      go_wp2_with fail
      go_ret
      exact ⟨congrArg (fun z => Ending.returned (Value.string (strB (op :: (z ++ [sh]))))) HJ0.out, HB5.out⟩
theorem rowD_nil (w : World) : RowL SD w (.slice none ([] : List Bs).length 0) [] := .inl ⟨rfl, rfl, none, 0, rfl⟩
set_option maxRecDepth 100000 in
set_option maxHeartbeats 4000000 in
theorem txt_any : ∀ v : V, TxtC v := by
  intro v
  induction v using V.ind with
  | h v ihf ihl ihp =>
    intro a S w hr hw hp
    obtain ⟨k, n, t, fs, r, ls, ps⟩ := v
    obtain ⟨fa, fc, la, lc, pa, pc⟩ := a
    rw [vG_lit]
    simp only [V.fs, V.ls, V.ps] at ihf ihl ihp
    obtain ⟨W0, hW0⟩ : ∃ W0, W0 = w.alloc (.cells #[.int .i64 k, .int .u64 (n : Int), .string (strB t), .slice fa fs.length fc, .string (strB r), .slice la ls.length lc, .slice pa ps.length pc] 27) := ⟨_, rfl⟩
    obtain ⟨g, hg⟩ : ∃ g, g = w.heap.size := ⟨_, rfl⟩
    have hb0 : Below w.heap.size w W0 := by rw [hW0]; exact (Below.refl _ _).alloc (Nat.le_refl _) _
    have hcx : CellsAt W0 g 27 #[.int .i64 k, .int .u64 (n : Int), .string (strB t), .slice fa fs.length fc, .string (strB r), .slice la ls.length lc, .slice pa ps.length pc] := by rw [hW0, hg]; exact CellsAt.new w _ _
    have hmv := rep_mV _ hr
    have hn : n < 18446744073709551616 := hmv.1
    have hwe : t.length ≤ 100000 ∧ r.length ≤ 100000 := by rw [wV_eq] at hw; simp only [V.t, V.r] at hw; omega
    have HTX : Hid (txtV (.mk k n t fs r ls ps) = if k = 1 then Lib.decDigits n else if k = 2 then qtB t else if k = 3 then 123 :: (joi 32 (txtF fs ++ restT r) ++ [125]) else if k = 4 then 91 :: (joi 32 (txtL ls) ++ [93]) else if k = 5 then 40 :: (joi 32 (txtP ps) ++ [41]) else [45]) := by show _ = _; rw [txtV]
    have c0 := hcx.cell 0 (v := .int .i64 k) rfl
    have HB := Lib.hid hb0
    have HW := Lib.hid hW0
    have HG := Lib.hid hg
    have HCX := Lib.hid hcx
    have HF := Lib.hid (fmtU_any (hp.stays hb0) n hn)
    have HY : Hid (∀ W, Calls Tryd.prog 13 #[.string (strB t)] W fun e w' => e = .returned (.string (strB (qtB t))) ∧ Below W.heap.size W w') := fun W => dbytes_any t (by omega) W
    have HYR : Hid (∀ W, Calls Tryd.prog 13 #[.string (strB r)] W fun e w' => e = .returned (.string (strB (qtB r))) ∧ Below W.heap.size W w') := fun W => dbytes_any r (by omega) W
    have HBF : Hid (∀ W, Below W0.heap.size W0 W → ∀ {am : Option Addr} {cm : Nat} {ms : List Bs}, RowL SD W (.slice am ms.length cm) ms → totB ms ≤ 500000 → Calls Tryd.prog 14 #[.string ⟨#[123]⟩, .string ⟨#[125]⟩, .slice fa fs.length fc, .func (.func 15) #[] #[], .slice am ms.length cm] W fun e w' => e = .returned (.string (strB (123 :: (joi 32 (txtF fs ++ ms) ++ [125])))) ∧ Below W.heap.size W w') := fun W h _ _ _ h1 h2 => blockField_any ihf ((hr.stays hb0).stays h) ((hp.stays hb0).stays h) hw h1 h2
    have HBL : Hid (Calls Tryd.prog 16 #[.string ⟨#[91]⟩, .string ⟨#[93]⟩, .slice la ls.length lc, .func (.func 6) #[] #[], .slice none 0 0] W0 fun e w' => e = .returned (.string (strB (91 :: (joi 32 (txtL ls) ++ [93])))) ∧ Below W0.heap.size W0 w') := by
      have h1 := blockValue_any ihl (hr.stays hb0) (hp.stays hb0) hw (am := none) (cm := 0) (ms := []) (rowD_nil _) (by simp [totB]) (op := 91) (sh := 93)
      rw [List.append_nil] at h1
      exact h1
    have HBP : Hid (Calls Tryd.prog 17 #[.string ⟨#[40]⟩, .string ⟨#[41]⟩, .slice pa ps.length pc, .func (.func 18) #[] #[], .slice none 0 0] W0 fun e w' => e = .returned (.string (strB (40 :: (joi 32 (txtP ps) ++ [41])))) ∧ Below W0.heap.size W0 w') := by
      have h1 := blockPair_any ihp (hr.stays hb0) (hp.stays hb0) hw (am := none) (cm := 0) (ms := []) (rowD_nil _) (by simp [totB]) (op := 40) (sh := 41)
      rw [List.append_nil] at h1
      exact h1
    have hrl := hwe.2
    generalize txtV (.mk k n t fs r ls ps) = TX at HTX ⊢
    clear hr hw hp hW0 hg hb0 hcx hmv hn hwe ihf ihl ihp
    go_enter Tryd.func6, Tryd.ntmps6
    go_upto_region 1 with fail
    rw [← HW.out, ← HG.out]
    clear HW HG
    by_cases h1 : k = 1
    · subst h1
      have HZ : Hid (TX = Lib.decDigits n) := by have := HTX.out; rwa [if_pos rfl] at this
      have c1 := HCX.out.cell 1 (v := .int .u64 (n : Int)) rfl
      clear HTX HY HYR HBF HBL HBP HCX
      go_wp2_with fail
      refine HF.out.mono ?_
      rintro e w1 ⟨rfl, hb1⟩
      have HB1 := Lib.hid (HB.out.trans (hb1.mono HB.out.size))
      clear HF HB hb1 c0 c1
      go_wp2_with fail
      go_ret
      exact ⟨congrArg (fun z => Ending.returned (Value.string (strB z))) HZ.out.symm, HB1.out⟩
    have f1 : (k == 1) = false := by simpa using h1
    by_cases h2 : k = 2
    · subst h2
      have HZ : Hid (TX = qtB t) := by have := HTX.out; rwa [if_neg h1, if_pos rfl] at this
      have c2 := HCX.out.cell 2 (v := .string (strB t)) rfl
      have HYW := Lib.hid (HY.out W0)
      clear HTX HY HYR HBF HBL HBP HCX HF
      go_wp2_with fail
      refine HYW.out.mono ?_
      rintro e w1 ⟨rfl, hb1⟩
      have HB1 := Lib.hid (HB.out.trans (hb1.mono HB.out.size))
      clear HYW HB hb1 c0 c2
      go_wp2_with fail
      go_ret
      exact ⟨congrArg (fun z => Ending.returned (Value.string (strB z))) HZ.out.symm, HB1.out⟩
    have f2 : (k == 2) = false := by simpa using h2
    by_cases h3 : k = 3
    · subst h3
      have c3 := HCX.out.cell 3 (v := .slice fa fs.length fc) rfl
      have c4 := HCX.out.cell 4 (v := .string (strB r)) rfl
      by_cases h0 : r = []
      · subst h0
        rw [show strB [] = ⟨#[]⟩ from rfl] at c4
        have HZ : Hid (TX = 123 :: (joi 32 (txtF fs) ++ [125])) := by
          have := HTX.out
          rw [if_neg h1, if_neg h2, if_pos rfl, show restT [] = [] from rfl, List.append_nil] at this
          exact this
        have HBW : Hid (Calls Tryd.prog 14 #[.string ⟨#[123]⟩, .string ⟨#[125]⟩, .slice fa fs.length fc, .func (.func 15) #[] #[], .slice none 0 0] W0 fun e w' => e = .returned (.string (strB (123 :: (joi 32 (txtF fs) ++ [125])))) ∧ Below W0.heap.size W0 w') := by
          have h1 := HBF.out W0 (Below.refl _ _) (am := none) (cm := 0) (ms := []) (rowD_nil _) (by simp [totB])
          rw [List.append_nil] at h1
          exact h1
        clear HTX HY HYR HBF HBL HBP HCX HF
        go_wp2_with fail
        refine HBW.out.mono ?_
        rintro e w1 ⟨rfl, hb1⟩
        have HB1 := Lib.hid (HB.out.trans (hb1.mono HB.out.size))
        clear HBW HB hb1 c0 c3 c4
        go_wp2_with fail
        go_ret
        exact ⟨congrArg (fun z => Ending.returned (Value.string (strB z))) HZ.out.symm, HB1.out⟩
      · have e0 : (strB r).toList.isEmpty = false := by rw [ByteArray.toList_eq]; show r.isEmpty = false; cases r with
          | nil => exact absurd rfl h0
          | cons x l => rfl
        have HZ : Hid (TX = 123 :: (joi 32 (txtF fs ++ [126 :: qtB r]) ++ [125])) := by
          have := HTX.out
          rw [if_neg h1, if_neg h2, if_pos rfl, show restT r = [126 :: qtB r] from by unfold restT; rw [if_neg h0]] at this
          exact this
        have hql := qtB_len r
        have HAD : Hid (∀ W, (Op.stringOp .add ⟨#[126]⟩ (strB (qtB r))).run Tryd.prog W = .ok (.string (strB (126 :: qtB r))) W) := fun W => str_add [126] (qtB r) (by rw [hql]; simp; omega) W
        have HRW : Hid (∀ W : World, RowL SD (W.alloc (.cells #[.string (strB (126 :: qtB r))] 9)) (.slice (some ⟨W.heap.size, 0, none⟩) 1 1) [126 :: qtB r]) := fun W => Row.ofOwn (World.ownsRow_lit (base := 0) (e := 9) (size := 1) W #[.string (strB (126 :: qtB r))] 1 (Nat.zero_le _) (by unfold maxLen; omega) rfl)
        have HTT : Hid (totB [126 :: qtB r] ≤ 500000) := by show totB _ ≤ _; simp only [totB, List.length_cons, hql]; omega
        obtain ⟨Q, hQ⟩ : ∃ Q, Q = qtB r := ⟨_, rfl⟩
        rw [← hQ] at HZ HAD HRW HYR HTT
        clear hQ hql h0
        have HCS : Hid (∀ W, Below W0.heap.size W0 W → W.cell? ⟨g, 3, none⟩ = some (.slice fa fs.length fc) ∧ W.cell? ⟨g, 4, none⟩ = some (.string (strB r))) := fun W h => ⟨(HCX.out.stays h).cell 3 rfl, (HCX.out.stays h).cell 4 rfl⟩
        have HBQ : Hid (∀ W : World, Below W0.heap.size W0 W → Calls Tryd.prog 14 #[.string ⟨#[123]⟩, .string ⟨#[125]⟩, .slice fa fs.length fc, .func (.func 15) #[] #[], .slice (some ⟨W.heap.size, 0, none⟩) 1 1] (W.alloc (.cells #[.string (strB (126 :: Q))] 9)) fun e w' => e = .returned (.string (strB (123 :: (joi 32 (txtF fs ++ [126 :: Q]) ++ [125])))) ∧ Below (W.alloc (.cells #[.string (strB (126 :: Q))] 9)).heap.size (W.alloc (.cells #[.string (strB (126 :: Q))] 9)) w') := fun W h => HBF.out _ (h.alloc h.size _) (HRW.out W) HTT.out
        clear HTX HY HBL HBP HCX HF HBF HRW HTT
        go_upto_region 9 with fail
        have hd0 : Below W0.heap.size W0 W0.drew := (Below.refl _ _).drew
        have hAD := HAD.out
        go_region_held3 (fun W => W.cell? ⟨g, 3, none⟩ = some (.slice fa fs.length fc) ∧ W.cell? ⟨g, 4, none⟩ = some (.string (strB r)))
          (first | exact HCS.out _ (by assumption) | exact HCS.out _ (Below.alloc (by assumption) (Below.size (by assumption)) _))
          ((first
            | (go_at_call 13; (with_reducible refine (HYR.out _).mono ?_); rintro e w1 ⟨rfl, hb1⟩; have hd1 : Below W0.heap.size W0 w1 := hd0.trans (hb1.mono hd0.size))
            | (go_at_call 14; (with_reducible refine (HBQ.out _ hd1).mono ?_); rintro e w2 ⟨rfl, hb2⟩; have hd2 : Below W0.heap.size W0 w2 := (hd1.alloc hd1.size _).trans (hb2.mono (hd1.alloc hd1.size _).size))))
        all_goals go_wp2_with fail
        all_goals go_ret
        all_goals exact ⟨congrArg (fun z => Ending.returned (Value.string (strB z))) HZ.out.symm, HB.out.trans (hd2.mono HB.out.size)⟩
    have f3 : (k == 3) = false := by simpa using h3
    by_cases h4 : k = 4
    · subst h4
      have HZ : Hid (TX = 91 :: (joi 32 (txtL ls) ++ [93])) := by have := HTX.out; rwa [if_neg h1, if_neg h2, if_neg h3, if_pos rfl] at this
      have c5 := HCX.out.cell 5 (v := .slice la ls.length lc) rfl
      clear HTX HY HYR HBF HBP HCX HF
      go_wp2_with fail
      refine HBL.out.mono ?_
      rintro e w1 ⟨rfl, hb1⟩
      have HB1 := Lib.hid (HB.out.trans (hb1.mono HB.out.size))
      clear HBL HB hb1 c0 c5
      go_wp2_with fail
      go_ret
      exact ⟨congrArg (fun z => Ending.returned (Value.string (strB z))) HZ.out.symm, HB1.out⟩
    have f4 : (k == 4) = false := by simpa using h4
    by_cases h5 : k = 5
    · subst h5
      have HZ : Hid (TX = 40 :: (joi 32 (txtP ps) ++ [41])) := by have := HTX.out; rwa [if_neg h1, if_neg h2, if_neg h3, if_neg h4, if_pos rfl] at this
      have c6 := HCX.out.cell 6 (v := .slice pa ps.length pc) rfl
      clear HTX HY HYR HBF HBL HCX HF
      go_wp2_with fail
      refine HBP.out.mono ?_
      rintro e w1 ⟨rfl, hb1⟩
      have HB1 := Lib.hid (HB.out.trans (hb1.mono HB.out.size))
      clear HBP HB hb1 c0 c6
      go_wp2_with fail
      go_ret
      exact ⟨congrArg (fun z => Ending.returned (Value.string (strB z))) HZ.out.symm, HB1.out⟩
    · have f5 : (k == 5) = false := by simpa using h5
      have HZ : Hid (TX = [45]) := by have := HTX.out; rwa [if_neg h1, if_neg h2, if_neg h3, if_neg h4, if_neg h5] at this
      clear HTX HY HYR HBF HBL HBP HCX HF
      go_wp2_with fail
      go_ret
      exact ⟨congrArg (fun z => Ending.returned (Value.string (strB z))) HZ.out.symm, HB.out⟩
end Go.Proofs.YtcjflglpkpkflaaDoor
