/- The law's Of: a value as of the document. -/
import Derived.Test.YtcjflglpkpkflaaDoorVo
import Derived.Deep.CutBlock
import Derived.Deep.DeepCutAuto
namespace Go.Proofs.YtcjflglpkpkflaaDoor
open Go Go.RowKit
set_option linter.unusedVariables false
theorem infoRF : (Tryd.prog.info? 60).map (fun i => (i.zero, i.size, i.bytes)) = some (some (.agg #[.int .i64 0, .int .i64 0, .int .u64 0, .string ⟨#[]⟩, .slice none 0 0, .string ⟨#[]⟩, .slice none 0 0, .slice none 0 0]), 8, 128) := by kernel_rfl
theorem infoRV : (Tryd.prog.info? 37).map (fun i => (i.zero, i.size, i.bytes)) = some (some (.agg #[.int .i64 0, .int .u64 0, .string ⟨#[]⟩, .slice none 0 0, .string ⟨#[]⟩, .slice none 0 0, .slice none 0 0]), 7, 120) := by kernel_rfl
theorem infoRP : (Tryd.prog.info? 62).map (fun i => (i.zero, i.size, i.bytes)) = some (some (.agg #[.int .i64 0, .int .u64 0, .string ⟨#[]⟩, .slice none 0 0, .string ⟨#[]⟩, .slice none 0 0, .slice none 0 0, .int .i64 0, .int .u64 0, .string ⟨#[]⟩, .slice none 0 0, .string ⟨#[]⟩, .slice none 0 0, .slice none 0 0]), 14, 240) := by kernel_rfl
def OfC (v : V) : Prop := ∀ (a : A3) (S : Nat → Prop) (w : World), Rep S w v a → wV v ≤ 1000000 → Calls Tryd.prog 8 #[vG (v, a)] w (OfP v w)
theorem OfC.lit {k : Int} {n : Nat} {t r : List UInt8} {fs : List (Int × V)} {ls : List V} {ps : List (V × V)} {fa la pa : Option Addr} {fc lc pc : Nat} {S : Nat → Prop} {w : World} (h : OfC (.mk k n t fs r ls ps)) (hr : Rep S w (.mk k n t fs r ls ps) ⟨fa, fc, la, lc, pa, pc⟩) (hw : wV (.mk k n t fs r ls ps) ≤ 1000000) :
    Calls Tryd.prog 8 #[.agg #[.int .i64 k, .int .u64 (n : Int), .string (strB t), .slice fa fs.length fc, .string (strB r), .slice la ls.length lc, .slice pa ps.length pc]] w fun e w' => ∃ (fa la pa : Option Addr) (fc lc pc : Nat), e = .returned (.agg #[.int .i64 k, .int .u64 (n : Int), .string (strB t), .slice fa fs.length fc, .string (strB r), .slice la ls.length lc, .slice pa ps.length pc]) ∧ Rep (fun k => w.heap.size ≤ k) w' (.mk k n t fs r ls ps) ⟨fa, fc, la, lc, pa, pc⟩ ∧ Below w.heap.size w w' := by
  have := h _ S w hr hw
  rw [vG_lit] at this
  exact this.mono fun e w' h => OfP.lit h
theorem take_next {α : Type} {l : List α} {i : Nat} {x : α} (h : l[i]? = some x) : l.take (i + 1) = l.take i ++ [x] := by
  rw [List.take_add_one, h]; rfl
/-- what has been made is the value -/
theorem of_rep {w : World} {k : Int} {n : Nat} {t r : List UInt8} {fs : List (Int × V)} {ls : List V} {ps : List (V × V)} {f l p : Option Addr} {fc lc pc B B1 B2 B3 : Nat} {fl : List (Int × (V × A3))} {ll : List (V × A3)} {pl : List ((V × A3) × (V × A3))} {E1 E2 E3 : TypeId}
    (hk : -9223372036854775808 ≤ k ∧ k ≤ 9223372036854775807) (hn : n < 18446744073709551616) (h1 : OfR E1 8 fC RF B1 w (.slice f fs.length fc) fl) (h2 : OfR E2 7 vC RL B2 w (.slice l ls.length lc) ll) (h3 : OfR E3 14 pC RP B3 w (.slice p ps.length pc) pl)
    (e1 : fl.map fE = fs) (e2 : ll.map Prod.fst = ls) (e3 : pl.map pE = ps) (b1 : B ≤ B1) (b2 : B ≤ B2) (b3 : B ≤ B3) : Rep (fun k => B ≤ k) w (.mk k n t fs r ls ps) ⟨f, fc, l, lc, p, pc⟩ :=
  .mk _ _ fl ll pl hk hn e1.symm e2.symm e3.symm (fun p hp => (h1.2 p hp).1) h1.row h2.row h3.row (fun _ k hk => by have := (h1.1.lt k hk).1; omega) (fun _ k hk => by have := (h2.1.lt k hk).1; omega) (fun _ k hk => by have := (h3.1.lt k hk).1; omega)
    (fun p hp => (h1.2 p hp).2.mono (fun k hk => by omega)) (fun p hp => Rep.mono (h2.2 p hp) (fun k hk => by omega)) (fun p hp => (h3.2 p hp).1.mono (fun k hk => by omega)) (fun p hp => (h3.2 p hp).2.mono (fun k hk => by omega))
set_option maxRecDepth 100000 in
set_option maxHeartbeats 16000000 in
theorem of_any : ∀ (v : V), OfC v := by
  intro v
  induction v using V.ind with
  | h v ihf ihl ihp =>
    intro a S w hr hw
    obtain ⟨k, n, t, fs, r, ls, ps⟩ := v
    obtain ⟨fa, fc, la, lc, pa, pc⟩ := a
    rw [vG_lit]
    obtain ⟨hk, hn, -, -, -⟩ := hr.bds
    have HR : Hid (∀ W, Below w.heap.size w W → Rep S W (.mk k n t fs r ls ps) ⟨fa, fc, la, lc, pa, pc⟩) := fun W hb => hr.stays hb
    have IHF : Hid (∀ p ∈ fs, OfC p.2) := ihf
    have IHL : Hid (∀ x ∈ ls, OfC x) := ihl
    have IHP : Hid (∀ p ∈ ps, OfC p.1 ∧ OfC p.2) := ihp
    have hww : wF fs + wL ls + wP ps ≤ 1000000 := by rw [wV_eq] at hw; simp only [V.fs, V.ls, V.ps] at hw; omega
    have hfl := wF_len fs
    have hll := wL_len ls
    have hpl := wP_len ps
    have HWW := Lib.hid hww
    have hfl6 : fs.length ≤ 1000000 := by omega
    have hll6 : ls.length ≤ 1000000 := by omega
    have hpl6 : ps.length ≤ 1000000 := by omega
    obtain ⟨W0, hW0⟩ : ∃ W0, W0 = ((w.alloc (.cells #[.int .i64 k, .int .u64 (n : Int), .string (strB t), .slice fa fs.length fc, .string (strB r), .slice la ls.length lc, .slice pa ps.length pc] 27)).alloc (.cells #[.int .i64 0, .int .u64 0, .string ⟨#[]⟩, .slice none 0 0, .string ⟨#[]⟩, .slice none 0 0, .slice none 0 0] 37)).alloc (.cells #[.int .i64 k, .int .u64 (n : Int), .string (strB t), .slice none 0 0, .string (strB r), .slice none 0 0, .slice none 0 0] 37) := ⟨_, rfl⟩
    have HBA : Hid (Below w.heap.size w W0) := by rw [hW0]; exact (((Below.refl _ _).alloc (Nat.le_refl _) _).alloc (by simp) _).alloc (by simp; omega) _
    have hcx : CellsAt W0 w.heap.size 27 #[.int .i64 k, .int .u64 (n : Int), .string (strB t), .slice fa fs.length fc, .string (strB r), .slice la ls.length lc, .slice pa ps.length pc] := by rw [hW0]; exact (CellsAt.new w _ _).stays (((Below.refl _ _).alloc (Nat.le_refl _) _).alloc (by simp) _)
    have hcz : CellsAt W0 (w.heap.size + 1) 37 #[.int .i64 0, .int .u64 0, .string ⟨#[]⟩, .slice none 0 0, .string ⟨#[]⟩, .slice none 0 0, .slice none 0 0] := by
      have := (CellsAt.new (w.alloc (.cells #[.int .i64 k, .int .u64 (n : Int), .string (strB t), .slice fa fs.length fc, .string (strB r), .slice la ls.length lc, .slice pa ps.length pc] 27)) #[.int .i64 0, .int .u64 0, .string ⟨#[]⟩, .slice none 0 0, .string ⟨#[]⟩, .slice none 0 0, .slice none 0 0] 37).stays ((Below.refl _ _).alloc (Nat.le_refl _) (.cells #[.int .i64 k, .int .u64 (n : Int), .string (strB t), .slice none 0 0, .string (strB r), .slice none 0 0, .slice none 0 0] 37))
      rw [show (w.alloc (.cells #[.int .i64 k, .int .u64 (n : Int), .string (strB t), .slice fa fs.length fc, .string (strB r), .slice la ls.length lc, .slice pa ps.length pc] 27)).heap.size = w.heap.size + 1 by simp] at this
      rw [hW0]; exact this
    have hco : CellsAt W0 (w.heap.size + 1 + 1) 37 #[.int .i64 k, .int .u64 (n : Int), .string (strB t), .slice none 0 0, .string (strB r), .slice none 0 0, .slice none 0 0] := by
      have := CellsAt.new ((w.alloc (.cells #[.int .i64 k, .int .u64 (n : Int), .string (strB t), .slice fa fs.length fc, .string (strB r), .slice la ls.length lc, .slice pa ps.length pc] 27)).alloc (.cells #[.int .i64 0, .int .u64 0, .string ⟨#[]⟩, .slice none 0 0, .string ⟨#[]⟩, .slice none 0 0, .slice none 0 0] 37)) #[.int .i64 k, .int .u64 (n : Int), .string (strB t), .slice none 0 0, .string (strB r), .slice none 0 0, .slice none 0 0] 37
      rw [show ((w.alloc (.cells #[.int .i64 k, .int .u64 (n : Int), .string (strB t), .slice fa fs.length fc, .string (strB r), .slice la ls.length lc, .slice pa ps.length pc] 27)).alloc (.cells #[.int .i64 0, .int .u64 0, .string ⟨#[]⟩, .slice none 0 0, .string ⟨#[]⟩, .slice none 0 0, .slice none 0 0] 37)).heap.size = w.heap.size + 1 + 1 by simp] at this
      rw [hW0]; exact this
    obtain ⟨g, hg⟩ : ∃ g, g = w.heap.size := ⟨_, rfl⟩
    have hgB : W0.heap.size = g + 1 + 1 + 1 := by rw [hW0, hg]; simp
    rw [← hg] at hcx hcz hco
    have HX : Hid (∀ W, Grew [g + 1 + 1] W0 W → CellsAt W g 27 #[.int .i64 k, .int .u64 (n : Int), .string (strB t), .slice fa fs.length fc, .string (strB r), .slice la ls.length lc, .slice pa ps.length pc] ∧ CellsAt W (g + 1) 37 #[.int .i64 0, .int .u64 0, .string ⟨#[]⟩, .slice none 0 0, .string ⟨#[]⟩, .slice none 0 0, .slice none 0 0] ∧ Below w.heap.size w W ∧ g + 1 + 1 + 1 ≤ W.heap.size) := fun W hG => by
      refine ⟨hcx.grew hG (by simp only [List.mem_singleton]; omega), hcz.grew hG (by simp only [List.mem_singleton]; omega), hG.below HBA.out (fun i hi => by simp at hi; omega) HBA.out.size, ?_⟩
      have := hG.size
      omega
    have HGG := Lib.hid hg
    have HW := Lib.hid hW0
    have HGB := Lib.hid hgB
    clear ihf ihl ihp hr hw hcx hcz hg hW0 hgB hww
    go_enter Tryd.func8, Tryd.ntmps8
    go_wp2_with fail
    have hW0 := HW.out
    have hg := HGG.out
    rw [← hW0, ← hg]
    clear hW0 hg HW
    have hGr : Grew [g + 1 + 1] W0 W0 := Grew.refl _ _
    have hOF : OfR 60 8 fC RF W0.heap.size W0 (.slice none 0 0) [] := OfR.nil _ _
    have hoc := hco
    go_loopw [22] (fun i wr => ∃ (m : Nat) (q : Option Addr) (d : Nat) (xs : List (Int × (V × A3))), m ≤ fs.length ∧ i = .int .i64 m ∧ Hid (xs.map fE = fs.take m) ∧ xs.length = m ∧ Hid (OfR 60 8 fC RF W0.heap.size wr (.slice q m d) xs) ∧ Hid (CellsAt wr (g + 1 + 1) 37 #[.int .i64 k, .int .u64 (n : Int), .string (strB t), .slice q m d, .string (strB r), .slice none 0 0, .slice none 0 0]) ∧ Grew [g + 1 + 1] W0 wr) (fun i _ => fs.length - (intOf i).toNat)
    case atStart => exact ⟨0, none, 0, [], Nat.zero_le _, rfl, rfl, rfl, hOF, hoc, Grew.refl _ _⟩
    case round =>
      obtain ⟨m, q, d, xs, hm, rfl, HM, hxs, HO, HC, hG⟩ := hrel
      have hGA : Grew [g + 1 + 1] W0 wr := hG
      obtain ⟨hcx, hcz, hbW, hsz⟩ := HX.out wr hGA
      have hsB := hG.size
      by_cases h1 : m < fs.length
      · obtain ⟨⟨num, ⟨k', n', t', fs', r', ls', ps'⟩⟩, hq⟩ : ∃ p, fs[m]? = some p := ⟨_, List.getElem?_eq_getElem h1⟩
        obtain ⟨b, o, fa', la', pa', fc', lc', pc', rfl, hnum, hrx, c0, c1, c2, c3, c4, c5, c6, c7⟩ := (HR.out wr hbW).fieldAt hq
        have hwv := wF_get hq
        have hww := HWW.out
        replace hwv : wV (.mk k' n' t' fs' r' ls' ps') < wF fs := hwv
        obtain ⟨W1, hW1⟩ : ∃ W1, W1 = wr.alloc (.cells #[.int .i64 num, .int .i64 k', .int .u64 (n' : Int), .string (strB t'), .slice fa' fs'.length fc', .string (strB r'), .slice la' ls'.length lc', .slice pa' ps'.length pc'] 51) := ⟨_, rfl⟩
        have hbA : Below wr.heap.size wr W1 := by rw [hW1]; exact (Below.refl _ _).alloc (Nat.le_refl _) _
        have hcv : CellsAt W1 wr.heap.size 51 #[.int .i64 num, .int .i64 k', .int .u64 (n' : Int), .string (strB t'), .slice fa' fs'.length fc', .string (strB r'), .slice la' ls'.length lc', .slice pa' ps'.length pc'] := by rw [hW1]; exact CellsAt.new wr _ _
        have HOF : Hid (∀ W, Below W1.heap.size W1 W → Calls _ _ _ W _) := fun W hb => OfC.lit (IHF.out _ (List.mem_of_getElem? hq)) (hrx.stays (hbA.trans (hb.mono hbA.size))) (by omega)
        have HM2 : Hid (fs.take (m + 1) = fs.take m ++ [(num, .mk k' n' t' fs' r' ls' ps')]) := take_next hq
        obtain ⟨h, hh⟩ : ∃ h, h = wr.heap.size := ⟨_, rfl⟩
        rw [← hh] at hcv
        have hO1 := HO.out.below likeF hbA
        have hC1 := HC.out.stays hbA
        have hG1 := hG.add hbA
        have hsB1 : W0.heap.size ≤ W1.heap.size := hG1.size
        have HS : Hid (∀ W, Below W1.heap.size W1 W → CellsAt W h 51 #[.int .i64 num, .int .i64 k', .int .u64 (n' : Int), .string (strB t'), .slice fa' fs'.length fc', .string (strB r'), .slice la' ls'.length lc', .slice pa' ps'.length pc'] ∧ CellsAt W (g + 1 + 1) 37 #[.int .i64 k, .int .u64 (n : Int), .string (strB t), .slice q m d, .string (strB r), .slice none 0 0, .slice none 0 0] ∧ OfR 60 8 fC RF W0.heap.size W (.slice q m d) xs ∧ Grew [g + 1 + 1] W0 W ∧ W0.heap.size ≤ W.heap.size) := fun W hb => ⟨hcv.stays hb, hC1.stays hb, hO1.below likeF hb, hG1.add hb, Nat.le_trans hsB1 hb.size⟩
        have HH := Lib.hid hh
        have HW1 := Lib.hid hW1
        clear hrx hq hcx hcz hwv hbA hcv hh hW1 hO1 hC1 hG1 hsB1 hbW hww HC HO hG 
        go_upto_block 1 with fail
        go_cut [] from 24 to 36 (fun wx => ∃ (w7 : World) (q7 : Option Addr) (d7 : Nat) (fa6 la6 pa6 : Option Addr) (fc6 lc6 pc6 : Nat), wx = w7.setCell ⟨g + 1 + 1, 3, none⟩ (.slice q7 (m + 1) d7) ∧ Hid (OfR 60 8 fC RF W0.heap.size w7 (.slice q7 (m + 1) d7) (xs ++ [(num, ((.mk k' n' t' fs' r' ls' ps', ⟨fa6, fc6, la6, lc6, pa6, pc6⟩) : V × A3))]) ∧ CellsAt w7 (g + 1 + 1) 37 #[.int .i64 k, .int .u64 (n : Int), .string (strB t), .slice q m d, .string (strB r), .slice none 0 0, .slice none 0 0] ∧ Grew [g + 1 + 1] W0 w7))
        case first =>
          go_wp2_with fail
          have hh := HH.out
          have hW1 := HW1.out
          rw [← hW1, ← hh]
          clear hh hW1 HW1 c0 c1 c2 c3 c4 c5 c6 c7
          have hd0 : Below W1.heap.size W1 W1 := Below.refl _ _
          have hd1 : Below W1.heap.size W1 W1.drew := hd0.drew
          obtain ⟨hv1, ho1, -, -, -⟩ := HS.out W1 hd0
          have y0 := hv1.cell 0 (v := .int .i64 num) rfl
          have y1 := hv1.cell 1 (v := .int .i64 k') rfl
          have y2 := hv1.cell 2 (v := .int .u64 (n' : Int)) rfl
          have y3 := hv1.cell 3 (v := .string (strB t')) rfl
          have y4 := hv1.cell 4 (v := .slice fa' fs'.length fc') rfl
          have y5 := hv1.cell 5 (v := .string (strB r')) rfl
          have y6 := hv1.cell 6 (v := .slice la' ls'.length lc') rfl
          have y7 := hv1.cell 7 (v := .slice pa' ps'.length pc') rfl
          have o3 := ho1.cell 3 (v := .slice q m d) rfl
          have of := ho1.free 3
          clear hv1 ho1
          go_region_law ((first
            | (go_simp; go_at_call 8; (with_reducible refine (HOF.out _ (by first | exact hd1 | exact hd0)).mono ?_); rintro e w6 ⟨fa6, la6, pa6, fc6, lc6, pc6, rfl, hr6, hbc⟩; have hb_w6 := hd1.trans hbc; obtain ⟨hv_w6, ho_w6, hO_w6, hG_w6, hs_w6⟩ := HS.out w6 hb_w6; have z0_w6 := hv_w6.cell 0 (v := .int .i64 num) rfl; have z1_w6 := hv_w6.cell 1 (v := .int .i64 k') rfl; have z2_w6 := hv_w6.cell 2 (v := .int .u64 (n' : Int)) rfl; have z3_w6 := hv_w6.cell 3 (v := .string (strB t')) rfl; have z4_w6 := hv_w6.cell 4 (v := .slice fa' fs'.length fc') rfl; have z5_w6 := hv_w6.cell 5 (v := .string (strB r')) rfl; have z6_w6 := hv_w6.cell 6 (v := .slice la' ls'.length lc') rfl; have z7_w6 := hv_w6.cell 7 (v := .slice pa' ps'.length pc') rfl; have p_w6 := ho_w6.cell 3 (v := .slice q m d) rfl; have pf_w6 := ho_w6.free 3; have lt_w6 := ho_w6.lt; have how6 := hO_w6.1)
            | (refine step_pushS fC_len fC_one Tryd.underlying33 infoRF rfl (by decide) how6 (num, ((.mk k' n' t' fs' r' ls' ps', ⟨fa6, fc6, la6, lc6, pa6, pc6⟩) : V × A3)) (by omega) hs_w6 rfl _ _ rfl (by rfl) _ _ _ (by rfl) (by rfl) ?_; intro v7 w7 o7 g7 n7; have hoc7 := ho_w6.grown g7 (fun hh => by have := (how6.lt _ hh).1; have := HGB.out; have := hsB; skip; omega); have hp7 := hoc7.cell 3 (v := .slice q m d) rfl; have hf7 := hoc7.free 3; obtain ⟨q7, d7, hv7, -, -⟩ := o7.row.shape fC_len; rw [List.length_append, List.length_singleton, hxs] at hv7; subst hv7)))
          all_goals go_wp2_with fail
          all_goals go_meet
          all_goals
            have hOD := (HS.out W1.drew hd1).2.2.1
            have hsD := (HS.out W1.drew hd1).2.2.2.2
            have hP := OfR.push likeF hOD hbc hsD (x := (num, ((.mk k' n' t' fs' r' ls' ps', ⟨fa6, fc6, la6, lc6, pa6, pc6⟩) : V × A3))) ⟨hnum, hr6⟩ o7 g7 n7
            have hGf : Grew [g + 1 + 1] W0 w7 := hG_w6.grown g7 (fun i hi => .inr ((how6.lt i hi).1))
            exact ⟨w7, q7, d7, fa6, la6, pa6, fc6, lc6, pc6, rfl, hP, hoc7, hGf⟩
        case rest =>
          obtain ⟨w7, q7, d7, fa6, la6, pa6, fc6, lc6, pc6, rfl, HP⟩ := hcut
          obtain ⟨hO7, hc7, hG7⟩ := HP.out
          have HC8 : Hid (CellsAt (w7.setCell ⟨g + 1 + 1, 3, none⟩ (.slice q7 (m + 1) d7)) (g + 1 + 1) 37 #[.int .i64 k, .int .u64 (n : Int), .string (strB t), .slice q7 (m + 1) d7, .string (strB r), .slice none 0 0, .slice none 0 0]) := hc7.set 3 _
          have hGs : Grew [g + 1 + 1] w7 (w7.setCell ⟨g + 1 + 1, 3, none⟩ (.slice q7 (m + 1) d7)) := (Grew.refl _ _).setCell (.inl (by simp)) _
          have HG8 : Hid (Grew [g + 1 + 1] W0 (w7.setCell ⟨g + 1 + 1, 3, none⟩ (.slice q7 (m + 1) d7))) := hG7.trans hGs
          have HO8 : Hid (OfR 60 8 fC RF W0.heap.size (w7.setCell ⟨g + 1 + 1, 3, none⟩ (.slice q7 (m + 1) d7)) (.slice q7 (m + 1) d7) (xs ++ [(num, ((.mk k' n' t' fs' r' ls' ps', ⟨fa6, fc6, la6, lc6, pa6, pc6⟩) : V × A3))])) := hO7.grew likeF hGs (fun k hk => by have := HGB.out; skip; simp at hk; omega)
          clear hO7 hc7 hG7 hGs HP HS HOF 
          go_wp2_with fail
          go_roundw
          case rel => exact ⟨m + 1, q7, d7, _, h1, by go_num, by show _ = _; rw [List.map_append, HM.out, HM2.out]; rfl, by rw [List.length_append, hxs]; rfl, HO8, HC8, HG8.out⟩
          case measure => simp only [intOf]; omega
      · obtain rfl : m = fs.length := by omega
        have HM3 : Hid (xs.map fE = fs) := by have := HM.out; rwa [List.take_length] at this
        have HG1 := Lib.hid hGA
        have HOx0 := HO
        have hoc1 := HC.out
        have d5 := hcx.cell 5 (v := .slice la ls.length lc) rfl
        have d6 := hcx.cell 6 (v := .slice pa ps.length pc) rfl
        obtain ⟨q0, hq0⟩ : ∃ x, x = q := ⟨_, rfl⟩
        obtain ⟨d0, hd0⟩ : ∃ x, x = d := ⟨_, rfl⟩
        obtain ⟨xs0, hx0⟩ : ∃ x, x = xs := ⟨_, rfl⟩
        rw [← hq0, ← hd0, ← hx0] at HOx0
        rw [← hq0, ← hd0] at hoc1
        rw [← hx0] at HM3
        have HMM0 := HM3
        clear hq0 hd0 hx0 HM HM3 HO HC hm hxs hsB hcz hbW
        go_wp2_with fail
        obtain ⟨wa, rfl⟩ : ∃ wx : World, wx = wr := ⟨_, rfl⟩
        have HGs1 : Hid (Grew [g + 1 + 1] W0 wa) := hG
        clear hG hGA hcx hsz h1 d5 d6 hGr hOF hco hoc
        have hoc : CellsAt wa (g + 1 + 1) 37 #[.int .i64 k, .int .u64 (n : Int), .string (strB t), .slice q0 fs.length d0, .string (strB r), .slice none 0 0, .slice none 0 0] := hoc1
        go_loopw [41] (fun i wr => ∃ (m : Nat) (q : Option Addr) (d : Nat) (xs : List (V × A3)), m ≤ ls.length ∧ i = .int .i64 m ∧ Hid (xs.map Prod.fst = ls.take m) ∧ xs.length = m ∧ Hid (OfR 37 7 vC RL wa.heap.size wr (.slice q m d) xs) ∧ Hid (CellsAt wr (g + 1 + 1) 37 #[.int .i64 k, .int .u64 (n : Int), .string (strB t), .slice q0 fs.length d0, .string (strB r), .slice q m d, .slice none 0 0]) ∧ Grew [g + 1 + 1] wa wr) (fun i _ => ls.length - (intOf i).toNat)
        case atStart => exact ⟨0, none, 0, [], Nat.zero_le _, rfl, rfl, rfl, OfR.nil _ _, hoc, Grew.refl _ _⟩
        case round =>
          obtain ⟨m, q, d, xs, hm, rfl, HM, hxs, HO, HC, hG⟩ := hrel
          have hGA : Grew [g + 1 + 1] W0 wr := HG1.out.trans hG
          obtain ⟨hcx, hcz, hbW, hsz⟩ := HX.out wr hGA
          have hsB := hG.size
          by_cases h1 : m < ls.length
          · obtain ⟨⟨k', n', t', fs', r', ls', ps'⟩, hq⟩ : ∃ p, ls[m]? = some p := ⟨_, List.getElem?_eq_getElem h1⟩
            obtain ⟨b, o, fa', la', pa', fc', lc', pc', rfl, hrx, c0, c1, c2, c3, c4, c5, c6⟩ := (HR.out wr hbW).partAt hq
            have hwv := wL_get hq
            have hww := HWW.out
            replace hwv : wV (.mk k' n' t' fs' r' ls' ps') < wL ls := hwv
            obtain ⟨W1, hW1⟩ : ∃ W1, W1 = wr.alloc (.cells #[.int .i64 k', .int .u64 (n' : Int), .string (strB t'), .slice fa' fs'.length fc', .string (strB r'), .slice la' ls'.length lc', .slice pa' ps'.length pc'] 27) := ⟨_, rfl⟩
            have hbA : Below wr.heap.size wr W1 := by rw [hW1]; exact (Below.refl _ _).alloc (Nat.le_refl _) _
            have hcv : CellsAt W1 wr.heap.size 27 #[.int .i64 k', .int .u64 (n' : Int), .string (strB t'), .slice fa' fs'.length fc', .string (strB r'), .slice la' ls'.length lc', .slice pa' ps'.length pc'] := by rw [hW1]; exact CellsAt.new wr _ _
            have HOF : Hid (∀ W, Below W1.heap.size W1 W → Calls _ _ _ W _) := fun W hb => OfC.lit (IHL.out _ (List.mem_of_getElem? hq)) (hrx.stays (hbA.trans (hb.mono hbA.size))) (by omega)
            have HM2 : Hid (ls.take (m + 1) = ls.take m ++ [(.mk k' n' t' fs' r' ls' ps')]) := take_next hq
            obtain ⟨h, hh⟩ : ∃ h, h = wr.heap.size := ⟨_, rfl⟩
            rw [← hh] at hcv
            have hO1 := HO.out.below likeL hbA
            have hC1 := HC.out.stays hbA
            have hG1 := hG.add hbA
            have hsB1 : wa.heap.size ≤ W1.heap.size := hG1.size
            have HS : Hid (∀ W, Below W1.heap.size W1 W → CellsAt W h 27 #[.int .i64 k', .int .u64 (n' : Int), .string (strB t'), .slice fa' fs'.length fc', .string (strB r'), .slice la' ls'.length lc', .slice pa' ps'.length pc'] ∧ CellsAt W (g + 1 + 1) 37 #[.int .i64 k, .int .u64 (n : Int), .string (strB t), .slice q0 fs.length d0, .string (strB r), .slice q m d, .slice none 0 0] ∧ OfR 37 7 vC RL wa.heap.size W (.slice q m d) xs ∧ Grew [g + 1 + 1] wa W ∧ wa.heap.size ≤ W.heap.size) := fun W hb => ⟨hcv.stays hb, hC1.stays hb, hO1.below likeL hb, hG1.add hb, Nat.le_trans hsB1 hb.size⟩
            have HH := Lib.hid hh
            have HW1 := Lib.hid hW1
            clear hrx hq hcx hcz hwv hbA hcv hh hW1 hO1 hC1 hG1 hsB1 hbW hww HC HO hG 
            go_upto_block 3 with fail
            go_cut [] from 43 to 51 (fun wx => ∃ (w7 : World) (q7 : Option Addr) (d7 : Nat) (fa6 la6 pa6 : Option Addr) (fc6 lc6 pc6 : Nat), wx = w7.setCell ⟨g + 1 + 1, 5, none⟩ (.slice q7 (m + 1) d7) ∧ Hid (OfR 37 7 vC RL wa.heap.size w7 (.slice q7 (m + 1) d7) (xs ++ [((.mk k' n' t' fs' r' ls' ps', ⟨fa6, fc6, la6, lc6, pa6, pc6⟩) : V × A3)]) ∧ CellsAt w7 (g + 1 + 1) 37 #[.int .i64 k, .int .u64 (n : Int), .string (strB t), .slice q0 fs.length d0, .string (strB r), .slice q m d, .slice none 0 0] ∧ Grew [g + 1 + 1] wa w7))
            case first =>
              go_wp2_with fail
              have hh := HH.out
              have hW1 := HW1.out
              rw [← hW1, ← hh]
              clear hh hW1 HW1 c0 c1 c2 c3 c4 c5 c6
              have hd0 : Below W1.heap.size W1 W1 := Below.refl _ _
              have hd1 : Below W1.heap.size W1 W1.drew := hd0.drew
              obtain ⟨hv1, ho1, -, -, -⟩ := HS.out W1 hd0
              have y0 := hv1.cell 0 (v := .int .i64 k') rfl
              have y1 := hv1.cell 1 (v := .int .u64 (n' : Int)) rfl
              have y2 := hv1.cell 2 (v := .string (strB t')) rfl
              have y3 := hv1.cell 3 (v := .slice fa' fs'.length fc') rfl
              have y4 := hv1.cell 4 (v := .string (strB r')) rfl
              have y5 := hv1.cell 5 (v := .slice la' ls'.length lc') rfl
              have y6 := hv1.cell 6 (v := .slice pa' ps'.length pc') rfl
              have o5 := ho1.cell 5 (v := .slice q m d) rfl
              have of := ho1.free 5
              clear hv1 ho1
              go_region_law ((first
                | (go_simp; go_at_call 8; (with_reducible refine (HOF.out _ (by first | exact hd1 | exact hd0)).mono ?_); rintro e w6 ⟨fa6, la6, pa6, fc6, lc6, pc6, rfl, hr6, hbc⟩; have hb_w6 := hd1.trans hbc; obtain ⟨hv_w6, ho_w6, hO_w6, hG_w6, hs_w6⟩ := HS.out w6 hb_w6; have z0_w6 := hv_w6.cell 0 (v := .int .i64 k') rfl; have z1_w6 := hv_w6.cell 1 (v := .int .u64 (n' : Int)) rfl; have z2_w6 := hv_w6.cell 2 (v := .string (strB t')) rfl; have z3_w6 := hv_w6.cell 3 (v := .slice fa' fs'.length fc') rfl; have z4_w6 := hv_w6.cell 4 (v := .string (strB r')) rfl; have z5_w6 := hv_w6.cell 5 (v := .slice la' ls'.length lc') rfl; have z6_w6 := hv_w6.cell 6 (v := .slice pa' ps'.length pc') rfl; have p_w6 := ho_w6.cell 5 (v := .slice q m d) rfl; have pf_w6 := ho_w6.free 5; have lt_w6 := ho_w6.lt; have how6 := hO_w6.1)
                | (refine step_pushS vC_len vC_one Tryd.underlying34 infoRV rfl (by decide) how6 ((.mk k' n' t' fs' r' ls' ps', ⟨fa6, fc6, la6, lc6, pa6, pc6⟩) : V × A3) (by omega) hs_w6 rfl _ _ rfl (by rfl) _ _ _ (by rfl) (by rfl) ?_; intro v7 w7 o7 g7 n7; have hoc7 := ho_w6.grown g7 (fun hh => by have := (how6.lt _ hh).1; have := HGB.out; have := hsB; have := HG1.out.size; omega); have hp7 := hoc7.cell 5 (v := .slice q m d) rfl; have hf7 := hoc7.free 5; obtain ⟨q7, d7, hv7, -, -⟩ := o7.row.shape vC_len; rw [List.length_append, List.length_singleton, hxs] at hv7; subst hv7)))
              all_goals go_wp2_with fail
              all_goals go_meet
              all_goals
                have hOD := (HS.out W1.drew hd1).2.2.1
                have hsD := (HS.out W1.drew hd1).2.2.2.2
                have hP := OfR.push likeL hOD hbc hsD (x := ((.mk k' n' t' fs' r' ls' ps', ⟨fa6, fc6, la6, lc6, pa6, pc6⟩) : V × A3)) hr6 o7 g7 n7
                have hGf : Grew [g + 1 + 1] wa w7 := hG_w6.grown g7 (fun i hi => .inr ((how6.lt i hi).1))
                exact ⟨w7, q7, d7, fa6, la6, pa6, fc6, lc6, pc6, rfl, hP, hoc7, hGf⟩
            case rest =>
              obtain ⟨w7, q7, d7, fa6, la6, pa6, fc6, lc6, pc6, rfl, HP⟩ := hcut
              obtain ⟨hO7, hc7, hG7⟩ := HP.out
              have HC8 : Hid (CellsAt (w7.setCell ⟨g + 1 + 1, 5, none⟩ (.slice q7 (m + 1) d7)) (g + 1 + 1) 37 #[.int .i64 k, .int .u64 (n : Int), .string (strB t), .slice q0 fs.length d0, .string (strB r), .slice q7 (m + 1) d7, .slice none 0 0]) := hc7.set 5 _
              have hGs : Grew [g + 1 + 1] w7 (w7.setCell ⟨g + 1 + 1, 5, none⟩ (.slice q7 (m + 1) d7)) := (Grew.refl _ _).setCell (.inl (by simp)) _
              have HG8 : Hid (Grew [g + 1 + 1] wa (w7.setCell ⟨g + 1 + 1, 5, none⟩ (.slice q7 (m + 1) d7))) := hG7.trans hGs
              have HO8 : Hid (OfR 37 7 vC RL wa.heap.size (w7.setCell ⟨g + 1 + 1, 5, none⟩ (.slice q7 (m + 1) d7)) (.slice q7 (m + 1) d7) (xs ++ [((.mk k' n' t' fs' r' ls' ps', ⟨fa6, fc6, la6, lc6, pa6, pc6⟩) : V × A3)])) := hO7.grew likeL hGs (fun k hk => by have := HGB.out; have := HG1.out.size; simp at hk; omega)
              clear hO7 hc7 hG7 hGs HP HS HOF 
              go_wp2_with fail
              go_roundw
              case rel => exact ⟨m + 1, q7, d7, _, h1, by go_num, by show _ = _; rw [List.map_append, HM.out, HM2.out]; rfl, by rw [List.length_append, hxs]; rfl, HO8, HC8, HG8.out⟩
              case measure => simp only [intOf]; omega
          · obtain rfl : m = ls.length := by omega
            have HM3 : Hid (xs.map Prod.fst = ls) := by have := HM.out; rwa [List.take_length] at this
            have HG2 := Lib.hid hGA
            have HOx1 := HO
            have hoc2 := HC.out
            have d5 := hcx.cell 5 (v := .slice la ls.length lc) rfl
            have d6 := hcx.cell 6 (v := .slice pa ps.length pc) rfl
            obtain ⟨q1, hq1⟩ : ∃ x, x = q := ⟨_, rfl⟩
            obtain ⟨d1, hd1⟩ : ∃ x, x = d := ⟨_, rfl⟩
            obtain ⟨xs1, hx1⟩ : ∃ x, x = xs := ⟨_, rfl⟩
            rw [← hq1, ← hd1, ← hx1] at HOx1
            rw [← hq1, ← hd1] at hoc2
            rw [← hx1] at HM3
            have HMM1 := HM3
            clear hq1 hd1 hx1 HM HM3 HO HC hm hxs hsB hcz hbW
            go_wp2_with fail
            obtain ⟨wb, rfl⟩ : ∃ wx : World, wx = wr := ⟨_, rfl⟩
            have HGs2 : Hid (Grew [g + 1 + 1] wa wb) := hG
            clear hG hGA hcx hsz h1 d5 d6 hoc hoc1
            have hoc : CellsAt wb (g + 1 + 1) 37 #[.int .i64 k, .int .u64 (n : Int), .string (strB t), .slice q0 fs.length d0, .string (strB r), .slice q1 ls.length d1, .slice none 0 0] := hoc2
            go_loopw [56] (fun i wr => ∃ (m : Nat) (q : Option Addr) (d : Nat) (xs : List ((V × A3) × (V × A3))), m ≤ ps.length ∧ i = .int .i64 m ∧ Hid (xs.map pE = ps.take m) ∧ xs.length = m ∧ Hid (OfR 62 14 pC RP wb.heap.size wr (.slice q m d) xs) ∧ Hid (CellsAt wr (g + 1 + 1) 37 #[.int .i64 k, .int .u64 (n : Int), .string (strB t), .slice q0 fs.length d0, .string (strB r), .slice q1 ls.length d1, .slice q m d]) ∧ Grew [g + 1 + 1] wb wr) (fun i _ => ps.length - (intOf i).toNat)
            case atStart => exact ⟨0, none, 0, [], Nat.zero_le _, rfl, rfl, rfl, OfR.nil _ _, hoc, Grew.refl _ _⟩
            case round =>
              obtain ⟨m, q, d, xs, hm, rfl, HM, hxs, HO, HC, hG⟩ := hrel
              have hGA : Grew [g + 1 + 1] W0 wr := HG2.out.trans hG
              obtain ⟨hcx, hcz, hbW, hsz⟩ := HX.out wr hGA
              have hsB := hG.size
              by_cases h1 : m < ps.length
              · obtain ⟨⟨⟨k', n', t', fs', r', ls', ps'⟩, ⟨k2, n2, t2, fs2, r2, ls2, ps2⟩⟩, hq⟩ : ∃ p, ps[m]? = some p := ⟨_, List.getElem?_eq_getElem h1⟩
                obtain ⟨b, o, fa', la', pa', fc', lc', pc', fa2, la2, pa2, fc2, lc2, pc2, rfl, hrx, hry, c0, c1, c2, c3, c4, c5, c6, c7, c8, c9, c10, c11, c12, c13⟩ := (HR.out wr hbW).pairAt hq
                have hwv := wP_get hq
                have hww := HWW.out
                replace hwv : wV (.mk k' n' t' fs' r' ls' ps') + wV (.mk k2 n2 t2 fs2 r2 ls2 ps2) < wP ps := hwv
                obtain ⟨W1, hW1⟩ : ∃ W1, W1 = wr.alloc (.cells #[.int .i64 k', .int .u64 (n' : Int), .string (strB t'), .slice fa' fs'.length fc', .string (strB r'), .slice la' ls'.length lc', .slice pa' ps'.length pc', .int .i64 k2, .int .u64 (n2 : Int), .string (strB t2), .slice fa2 fs2.length fc2, .string (strB r2), .slice la2 ls2.length lc2, .slice pa2 ps2.length pc2] 56) := ⟨_, rfl⟩
                have hbA : Below wr.heap.size wr W1 := by rw [hW1]; exact (Below.refl _ _).alloc (Nat.le_refl _) _
                have hcv : CellsAt W1 wr.heap.size 56 #[.int .i64 k', .int .u64 (n' : Int), .string (strB t'), .slice fa' fs'.length fc', .string (strB r'), .slice la' ls'.length lc', .slice pa' ps'.length pc', .int .i64 k2, .int .u64 (n2 : Int), .string (strB t2), .slice fa2 fs2.length fc2, .string (strB r2), .slice la2 ls2.length lc2, .slice pa2 ps2.length pc2] := by rw [hW1]; exact CellsAt.new wr _ _
                have HOF : Hid (∀ W, Below W1.heap.size W1 W → Calls _ _ _ W _) := fun W hb => OfC.lit (IHP.out _ (List.mem_of_getElem? hq)).1 (hrx.stays (hbA.trans (hb.mono hbA.size))) (by omega)
                have HOG : Hid (∀ W, Below W1.heap.size W1 W → Calls _ _ _ W _) := fun W hb => OfC.lit (IHP.out _ (List.mem_of_getElem? hq)).2 (hry.stays (hbA.trans (hb.mono hbA.size))) (by omega)
                have HM2 : Hid (ps.take (m + 1) = ps.take m ++ [(.mk k' n' t' fs' r' ls' ps', .mk k2 n2 t2 fs2 r2 ls2 ps2)]) := take_next hq
                obtain ⟨h, hh⟩ : ∃ h, h = wr.heap.size := ⟨_, rfl⟩
                rw [← hh] at hcv
                have hO1 := HO.out.below likeP hbA
                have hC1 := HC.out.stays hbA
                have hG1 := hG.add hbA
                have hsB1 : wb.heap.size ≤ W1.heap.size := hG1.size
                have HS : Hid (∀ W, Below W1.heap.size W1 W → CellsAt W h 56 #[.int .i64 k', .int .u64 (n' : Int), .string (strB t'), .slice fa' fs'.length fc', .string (strB r'), .slice la' ls'.length lc', .slice pa' ps'.length pc', .int .i64 k2, .int .u64 (n2 : Int), .string (strB t2), .slice fa2 fs2.length fc2, .string (strB r2), .slice la2 ls2.length lc2, .slice pa2 ps2.length pc2] ∧ CellsAt W (g + 1 + 1) 37 #[.int .i64 k, .int .u64 (n : Int), .string (strB t), .slice q0 fs.length d0, .string (strB r), .slice q1 ls.length d1, .slice q m d] ∧ OfR 62 14 pC RP wb.heap.size W (.slice q m d) xs ∧ Grew [g + 1 + 1] wb W ∧ wb.heap.size ≤ W.heap.size) := fun W hb => ⟨hcv.stays hb, hC1.stays hb, hO1.below likeP hb, hG1.add hb, Nat.le_trans hsB1 hb.size⟩
                have HH := Lib.hid hh
                have HW1 := Lib.hid hW1
                clear hrx hq hcx hcz hwv hbA hcv hh hW1 hO1 hC1 hG1 hsB1 hbW hww HC HO hG hry
                go_upto_block 5 with fail
                go_cut [] from 58 to 71 (fun wx => ∃ (w7 : World) (q7 : Option Addr) (d7 : Nat) (fa6 la6 pa6 fa8 la8 pa8 : Option Addr) (fc6 lc6 pc6 fc8 lc8 pc8 : Nat), wx = w7.setCell ⟨g + 1 + 1, 6, none⟩ (.slice q7 (m + 1) d7) ∧ Hid (OfR 62 14 pC RP wb.heap.size w7 (.slice q7 (m + 1) d7) (xs ++ [(((.mk k' n' t' fs' r' ls' ps', ⟨fa6, fc6, la6, lc6, pa6, pc6⟩), (.mk k2 n2 t2 fs2 r2 ls2 ps2, ⟨fa8, fc8, la8, lc8, pa8, pc8⟩)) : (V × A3) × (V × A3))]) ∧ CellsAt w7 (g + 1 + 1) 37 #[.int .i64 k, .int .u64 (n : Int), .string (strB t), .slice q0 fs.length d0, .string (strB r), .slice q1 ls.length d1, .slice q m d] ∧ Grew [g + 1 + 1] wb w7))
                case first =>
                  go_wp2_with fail
                  have hh := HH.out
                  have hW1 := HW1.out
                  rw [← hW1, ← hh]
                  clear hh hW1 HW1 c0 c1 c2 c3 c4 c5 c6 c7 c8 c9 c10 c11 c12 c13
                  have hd0 : Below W1.heap.size W1 W1 := Below.refl _ _
                  have hd1 : Below W1.heap.size W1 W1.drew := hd0.drew
                  obtain ⟨hv1, ho1, -, -, -⟩ := HS.out W1 hd0
                  have y0 := hv1.cell 0 (v := .int .i64 k') rfl
                  have y1 := hv1.cell 1 (v := .int .u64 (n' : Int)) rfl
                  have y2 := hv1.cell 2 (v := .string (strB t')) rfl
                  have y3 := hv1.cell 3 (v := .slice fa' fs'.length fc') rfl
                  have y4 := hv1.cell 4 (v := .string (strB r')) rfl
                  have y5 := hv1.cell 5 (v := .slice la' ls'.length lc') rfl
                  have y6 := hv1.cell 6 (v := .slice pa' ps'.length pc') rfl
                  have y7 := hv1.cell 7 (v := .int .i64 k2) rfl
                  have y8 := hv1.cell 8 (v := .int .u64 (n2 : Int)) rfl
                  have y9 := hv1.cell 9 (v := .string (strB t2)) rfl
                  have y10 := hv1.cell 10 (v := .slice fa2 fs2.length fc2) rfl
                  have y11 := hv1.cell 11 (v := .string (strB r2)) rfl
                  have y12 := hv1.cell 12 (v := .slice la2 ls2.length lc2) rfl
                  have y13 := hv1.cell 13 (v := .slice pa2 ps2.length pc2) rfl
                  have o6 := ho1.cell 6 (v := .slice q m d) rfl
                  have of := ho1.free 6
                  clear hv1 ho1
                  go_region_law ((first
                    | (go_simp; go_at_call 8; (with_reducible refine (HOF.out _ (by first | exact hd1 | exact hd0)).mono ?_); rintro e w6 ⟨fa6, la6, pa6, fc6, lc6, pc6, rfl, hr6, hbc⟩; have hb_w6 := hd1.trans hbc; obtain ⟨hv_w6, ho_w6, hO_w6, hG_w6, hs_w6⟩ := HS.out w6 hb_w6; have z0_w6 := hv_w6.cell 0 (v := .int .i64 k') rfl; have z1_w6 := hv_w6.cell 1 (v := .int .u64 (n' : Int)) rfl; have z2_w6 := hv_w6.cell 2 (v := .string (strB t')) rfl; have z3_w6 := hv_w6.cell 3 (v := .slice fa' fs'.length fc') rfl; have z4_w6 := hv_w6.cell 4 (v := .string (strB r')) rfl; have z5_w6 := hv_w6.cell 5 (v := .slice la' ls'.length lc') rfl; have z6_w6 := hv_w6.cell 6 (v := .slice pa' ps'.length pc') rfl; have z7_w6 := hv_w6.cell 7 (v := .int .i64 k2) rfl; have z8_w6 := hv_w6.cell 8 (v := .int .u64 (n2 : Int)) rfl; have z9_w6 := hv_w6.cell 9 (v := .string (strB t2)) rfl; have z10_w6 := hv_w6.cell 10 (v := .slice fa2 fs2.length fc2) rfl; have z11_w6 := hv_w6.cell 11 (v := .string (strB r2)) rfl; have z12_w6 := hv_w6.cell 12 (v := .slice la2 ls2.length lc2) rfl; have z13_w6 := hv_w6.cell 13 (v := .slice pa2 ps2.length pc2) rfl; have p_w6 := ho_w6.cell 6 (v := .slice q m d) rfl; have pf_w6 := ho_w6.free 6; have lt_w6 := ho_w6.lt)
                    | (go_simp; go_at_call 8; (with_reducible refine (HOG.out _ (by assumption)).mono ?_); rintro e w8 ⟨fa8, la8, pa8, fc8, lc8, pc8, rfl, hr8, hbd⟩; have hb_w8 := hb_w6.trans (hbd.mono hb_w6.size); obtain ⟨hv_w8, ho_w8, hO_w8, hG_w8, hs_w8⟩ := HS.out w8 hb_w8; have z0_w8 := hv_w8.cell 0 (v := .int .i64 k') rfl; have z1_w8 := hv_w8.cell 1 (v := .int .u64 (n' : Int)) rfl; have z2_w8 := hv_w8.cell 2 (v := .string (strB t')) rfl; have z3_w8 := hv_w8.cell 3 (v := .slice fa' fs'.length fc') rfl; have z4_w8 := hv_w8.cell 4 (v := .string (strB r')) rfl; have z5_w8 := hv_w8.cell 5 (v := .slice la' ls'.length lc') rfl; have z6_w8 := hv_w8.cell 6 (v := .slice pa' ps'.length pc') rfl; have z7_w8 := hv_w8.cell 7 (v := .int .i64 k2) rfl; have z8_w8 := hv_w8.cell 8 (v := .int .u64 (n2 : Int)) rfl; have z9_w8 := hv_w8.cell 9 (v := .string (strB t2)) rfl; have z10_w8 := hv_w8.cell 10 (v := .slice fa2 fs2.length fc2) rfl; have z11_w8 := hv_w8.cell 11 (v := .string (strB r2)) rfl; have z12_w8 := hv_w8.cell 12 (v := .slice la2 ls2.length lc2) rfl; have z13_w8 := hv_w8.cell 13 (v := .slice pa2 ps2.length pc2) rfl; have p_w8 := ho_w8.cell 6 (v := .slice q m d) rfl; have pf_w8 := ho_w8.free 6; have lt_w8 := ho_w8.lt; have how8 := hO_w8.1)
                    | (refine step_pushS pC_len pC_one Tryd.underlying35 infoRP rfl (by decide) how8 (((.mk k' n' t' fs' r' ls' ps', ⟨fa6, fc6, la6, lc6, pa6, pc6⟩), (.mk k2 n2 t2 fs2 r2 ls2 ps2, ⟨fa8, fc8, la8, lc8, pa8, pc8⟩)) : (V × A3) × (V × A3)) (by omega) hs_w8 rfl _ _ rfl (by rfl) _ _ _ (by rfl) (by rfl) ?_; intro v7 w7 o7 g7 n7; have hoc7 := ho_w8.grown g7 (fun hh => by have := (how8.lt _ hh).1; have := HGB.out; have := hsB; have := HG2.out.size; omega); have hp7 := hoc7.cell 6 (v := .slice q m d) rfl; have hf7 := hoc7.free 6; obtain ⟨q7, d7, hv7, -, -⟩ := o7.row.shape pC_len; rw [List.length_append, List.length_singleton, hxs] at hv7; subst hv7)))
                  all_goals go_wp2_with fail
                  all_goals go_meet
                  all_goals
                    have hOD := (HS.out W1.drew hd1).2.2.1
                    have hsD := (HS.out W1.drew hd1).2.2.2.2
                    have hP := OfR.push likeP hOD (hbc.trans (hbd.mono hbc.size)) hsD (x := (((.mk k' n' t' fs' r' ls' ps', ⟨fa6, fc6, la6, lc6, pa6, pc6⟩), (.mk k2 n2 t2 fs2 r2 ls2 ps2, ⟨fa8, fc8, la8, lc8, pa8, pc8⟩)) : (V × A3) × (V × A3))) ⟨(hr6.stays hbd).mono (fun k hk => hk), hr8.mono (fun k hk => Nat.le_trans hbc.size hk)⟩ o7 g7 n7
                    have hGf : Grew [g + 1 + 1] wb w7 := hG_w8.grown g7 (fun i hi => .inr ((how8.lt i hi).1))
                    exact ⟨w7, q7, d7, fa6, la6, pa6, fa8, la8, pa8, fc6, lc6, pc6, fc8, lc8, pc8, rfl, hP, hoc7, hGf⟩
                case rest =>
                  obtain ⟨w7, q7, d7, fa6, la6, pa6, fa8, la8, pa8, fc6, lc6, pc6, fc8, lc8, pc8, rfl, HP⟩ := hcut
                  obtain ⟨hO7, hc7, hG7⟩ := HP.out
                  have HC8 : Hid (CellsAt (w7.setCell ⟨g + 1 + 1, 6, none⟩ (.slice q7 (m + 1) d7)) (g + 1 + 1) 37 #[.int .i64 k, .int .u64 (n : Int), .string (strB t), .slice q0 fs.length d0, .string (strB r), .slice q1 ls.length d1, .slice q7 (m + 1) d7]) := hc7.set 6 _
                  have hGs : Grew [g + 1 + 1] w7 (w7.setCell ⟨g + 1 + 1, 6, none⟩ (.slice q7 (m + 1) d7)) := (Grew.refl _ _).setCell (.inl (by simp)) _
                  have HG8 : Hid (Grew [g + 1 + 1] wb (w7.setCell ⟨g + 1 + 1, 6, none⟩ (.slice q7 (m + 1) d7))) := hG7.trans hGs
                  have HO8 : Hid (OfR 62 14 pC RP wb.heap.size (w7.setCell ⟨g + 1 + 1, 6, none⟩ (.slice q7 (m + 1) d7)) (.slice q7 (m + 1) d7) (xs ++ [(((.mk k' n' t' fs' r' ls' ps', ⟨fa6, fc6, la6, lc6, pa6, pc6⟩), (.mk k2 n2 t2 fs2 r2 ls2 ps2, ⟨fa8, fc8, la8, lc8, pa8, pc8⟩)) : (V × A3) × (V × A3))])) := hO7.grew likeP hGs (fun k hk => by have := HGB.out; have := HG2.out.size; simp at hk; omega)
                  clear hO7 hc7 hG7 hGs HP HS HOF HOG
                  go_wp2_with fail
                  go_roundw
                  case rel => exact ⟨m + 1, q7, d7, _, h1, by go_num, by show _ = _; rw [List.map_append, HM.out, HM2.out]; rfl, by rw [List.length_append, hxs]; rfl, HO8, HC8, HG8.out⟩
                  case measure => simp only [intOf]; omega
              · obtain rfl : m = ps.length := by omega
                have HM3 : Hid (xs.map pE = ps) := by have := HM.out; rwa [List.take_length] at this
                have HG3 := Lib.hid hGA
                have HOx2 := HO
                have hoc3 := HC.out
                have d5 := hcx.cell 5 (v := .slice la ls.length lc) rfl
                have d6 := hcx.cell 6 (v := .slice pa ps.length pc) rfl
                obtain ⟨q2, hq2⟩ : ∃ x, x = q := ⟨_, rfl⟩
                obtain ⟨d2, hd2⟩ : ∃ x, x = d := ⟨_, rfl⟩
                obtain ⟨xs2, hx2⟩ : ∃ x, x = xs := ⟨_, rfl⟩
                rw [← hq2, ← hd2, ← hx2] at HOx2
                rw [← hq2, ← hd2] at hoc3
                rw [← hx2] at HM3
                have HMM2 := HM3
                clear hq2 hd2 hx2 HM HM3 HO HC hm hxs hsB hcz hbW
                have h1 := HOx0.out.grew likeF (HGs2.out.trans hG) (fun k hk => by have := HGB.out; simp at hk; omega)
                have h2 := HOx1.out.grew likeL hG (fun k hk => by have := HGB.out; have := HGs1.out.size; simp at hk; omega)
                have HREP := Lib.hid (of_rep (t := t) (r := r) (B := W0.heap.size) hk hn h1 h2 HOx2.out HMM0.out HMM1.out HMM2.out (Nat.le_refl _) HGs1.out.size (Nat.le_trans HGs1.out.size HGs2.out.size))
                obtain ⟨-, hcz, hbW, -⟩ := HX.out wr HG3.out
                have HBW := Lib.hid hbW
                have z0 := hcz.cell 0 (v := .int .i64 0) rfl
                have f0 := hcz.free 0
                have e0 := hoc3.cell 0 (v := .int .i64 k) rfl
                have z1 := hcz.cell 1 (v := .int .u64 0) rfl
                have f1 := hcz.free 1
                have e1 := hoc3.cell 1 (v := .int .u64 (n : Int)) rfl
                have z2 := hcz.cell 2 (v := .string ⟨#[]⟩) rfl
                have f2 := hcz.free 2
                have e2 := hoc3.cell 2 (v := .string (strB t)) rfl
                have z3 := hcz.cell 3 (v := .slice none 0 0) rfl
                have f3 := hcz.free 3
                have e3 := hoc3.cell 3 (v := .slice q0 fs.length d0) rfl
                have z4 := hcz.cell 4 (v := .string ⟨#[]⟩) rfl
                have f4 := hcz.free 4
                have e4 := hoc3.cell 4 (v := .string (strB r)) rfl
                have z5 := hcz.cell 5 (v := .slice none 0 0) rfl
                have f5 := hcz.free 5
                have e5 := hoc3.cell 5 (v := .slice q1 ls.length d1) rfl
                have z6 := hcz.cell 6 (v := .slice none 0 0) rfl
                have f6 := hcz.free 6
                have e6 := hoc3.cell 6 (v := .slice q2 ps.length d2) rfl
                clear h1 h2 hbW hcz hoc3 hcx hG hGA hsz d5 d6 HOx0 HOx1 HOx2
                go_wp2_with fail
                refine bodyPost_ret (v := .agg #[.int .i64 k, .int .u64 (n : Int), .string (strB t), .slice q0 fs.length d0, .string (strB r), .slice q1 ls.length d1, .slice q2 ps.length d2]) (by simp [results, Tryd.results8, go_sem, z0, z1, z2, z3, z4, z5, z6]) rfl ?_
                have hgw := HGG.out
                have hgb := HGB.out
                have hb7 := below_set7 (g := g + 1) HBW.out (by omega) (.int .i64 k) (.int .u64 (n : Int)) (.string (strB t)) (.slice q0 fs.length d0) (.string (strB r)) (.slice q1 ls.length d1) (.slice q2 ps.length d2)
                have hg7 := grew_set7 (g := g + 1) (Grew.refl [g + 1] wr) (by simp) (.int .i64 k) (.int .u64 (n : Int)) (.string (strB t)) (.slice q0 fs.length d0) (.string (strB r)) (.slice q1 ls.length d1) (.slice q2 ps.length d2)
                exact ⟨⟨q0, d0, q1, d1, q2, d2⟩, rfl, (HREP.out.grew hg7 (fun k hk hm => by simp at hm; omega)).mono (fun k hk => by omega), hb7⟩
end Go.Proofs.YtcjflglpkpkflaaDoor
