/- Digests: a value's text, as the document tells it. -/
import Derived.Test.YtcjflglpkpkflaaDoorDgR
import Derived.Test.YtcjflglpkpkflaaDoorDgV
namespace Go.Proofs.YtcjflglpkpkflaaDoor
open Go Go.RowKit
set_option linter.unusedVariables false
/-- what the document's Value tells -/
def RTxtC (v : V) : Prop := ∀ (a : A3) (S : Nat → Prop) (w : World), Rep S w v a → wV v ≤ 100000 → Calls Tryd.prog 7 #[vG (v, a)] w fun e w' => e = .returned (.string (strB (txtV v))) ∧ Below w.heap.size w w'
theorem RTxtC.lit {k : Int} {n : Nat} {t r : List UInt8} {fs : List (Int × V)} {ls : List V} {ps : List (V × V)} {fa la pa : Option Addr} {fc lc pc : Nat} {S : Nat → Prop} {w : World} (h : RTxtC (.mk k n t fs r ls ps)) (hr : Rep S w (.mk k n t fs r ls ps) ⟨fa, fc, la, lc, pa, pc⟩) (hw : wV (.mk k n t fs r ls ps) ≤ 100000) :
    Calls Tryd.prog 7 #[.agg #[.int .i64 k, .int .u64 (n : Int), .string (strB t), .slice fa fs.length fc, .string (strB r), .slice la ls.length lc, .slice pa ps.length pc]] w fun e w' => e = .returned (.string (strB (txtV (.mk k n t fs r ls ps)))) ∧ Below w.heap.size w w' := by
  have := h _ S w hr hw
  rw [vG_lit] at this
  exact this
theorem catB_take {l : List Bs} {m : Nat} {x : Bs} (h : l[m]? = some x) : catB (l.take (m + 1)) = catB (l.take m) ++ 32 :: x := by
  rw [List.take_add_one, h, Option.toList_some, catB_app, catB_cons]
  simp [catB]
theorem totB_take (l : List Bs) (m : Nat) : totB (l.take m) ≤ totB l := by
  have h := congrArg totB (List.take_append_drop m l)
  rw [totB_app] at h
  omega
set_option maxRecDepth 100000 in
set_option maxHeartbeats 8000000 in
theorem rtxt_any : ∀ v : V, RTxtC v := by
  intro v
  induction v using V.ind with
  | h v ihf ihl ihp =>
    intro a S w hr hw
    obtain ⟨k, n, t, fs, r, ls, ps⟩ := v
    obtain ⟨fa, fc, la, lc, pa, pc⟩ := a
    rw [vG_lit]
    simp only [V.fs, V.ls, V.ps] at ihf ihl ihp
    obtain ⟨lf, ll, lp⟩ : fs.length ≤ 1000000 ∧ ls.length ≤ 1000000 ∧ ps.length ≤ 1000000 := by
      have h1 := wF_len fs
      have h2 := wL_len ls
      have h3 := wP_len ps
      rw [wV_eq] at hw
      simp only [V.fs, V.ls, V.ps] at hw
      omega
    obtain ⟨W0, hW0⟩ : ∃ W0, W0 = w.alloc (.cells #[.int .i64 k, .int .u64 (n : Int), .string (strB t), .slice fa fs.length fc, .string (strB r), .slice la ls.length lc, .slice pa ps.length pc] 37) := ⟨_, rfl⟩
    obtain ⟨g, hg⟩ : ∃ g, g = w.heap.size := ⟨_, rfl⟩
    have hb0 : Below w.heap.size w W0 := by rw [hW0]; exact (Below.refl _ _).alloc (Nat.le_refl _) _
    have hcx : CellsAt W0 g 37 #[.int .i64 k, .int .u64 (n : Int), .string (strB t), .slice fa fs.length fc, .string (strB r), .slice la ls.length lc, .slice pa ps.length pc] := by rw [hW0, hg]; exact CellsAt.new w _ _
    have hmv := rep_mV _ hr
    have hn : n < 18446744073709551616 := hmv.1
    have hwe : t.length ≤ 100000 ∧ r.length ≤ 100000 := by rw [wV_eq] at hw; simp only [V.t, V.r] at hw; omega
    have htot : totB (txtF fs) ≤ 3000000 ∧ totB (txtL ls) ≤ 3000000 ∧ totB (txtP ps) ≤ 3000000 := by
      obtain ⟨h1, h2, h3, h4⟩ := hmv
      have h5 := txtF_len fs h2
      have h6 := txtL_len ls h3
      have h7 := txtP_len ps h4
      rw [wV_eq] at hw
      simp only [V.fs, V.ls, V.ps] at hw
      omega
    have HTX : Hid (txtV (.mk k n t fs r ls ps) = if k = 1 then Lib.decDigits n else if k = 2 then qtB t else if k = 3 then 123 :: (joi 32 (txtF fs ++ restT r) ++ [125]) else if k = 4 then 91 :: (joi 32 (txtL ls) ++ [93]) else if k = 5 then 40 :: (joi 32 (txtP ps) ++ [41]) else [45]) := by show _ = _; rw [txtV]
    have c0 := hcx.cell 0 (v := .int .i64 k) rfl
    have HB := Lib.hid hb0
    have HW := Lib.hid hW0
    have HG := Lib.hid hg
    have HCX := Lib.hid hcx
    have HWV := Lib.hid hw
    have HR : Hid (∀ W, Below W0.heap.size W0 W → Rep S W (.mk k n t fs r ls ps) ⟨fa, fc, la, lc, pa, pc⟩) := fun W h => (hr.stays hb0).stays h
    have HF := Lib.hid (rfg_any (n + 1) n (Nat.lt_succ_self _) hn W0)
    have HY := Lib.hid (rbytes_any t (by omega) W0)
    have HRL : Hid (r.length ≤ 100000) := hwe.2
    have HTO := Lib.hid htot
    generalize txtV (.mk k n t fs r ls ps) = TX at HTX ⊢
    clear hr hw hW0 hg hb0 hcx hmv hn hwe htot
    go_enter Tryd.func7, Tryd.ntmps7
    go_upto_region 2 with fail
    rw [← HW.out, ← HG.out]
    clear HW HG
    by_cases h1 : k = 1
    · subst h1
      have HZ : Hid (TX = Lib.decDigits n) := by have := HTX.out; rwa [if_pos rfl] at this
      have c1 := HCX.out.cell 1 (v := .int .u64 (n : Int)) rfl
      clear HTX HY HCX HR ihf ihl ihp
      go_wp2_with fail
      refine HF.out.mono ?_
      rintro e w1 ⟨rfl, hb1⟩
      have HB1 := Lib.hid (HB.out.trans (hb1.mono HB.out.size))
      clear HF HB hb1 c0 c1
      go_wp2_with fail
      go_ret
      exact ⟨congrArg (fun z => Ending.returned (Value.string (strB z))) HZ.out.symm, HB1.out⟩
    have f1 : (k == 1) = false := by simpa using h1
    by_cases h2 : k = 2
    · subst h2
      have HZ : Hid (TX = qtB t) := by have := HTX.out; rwa [if_neg h1, if_pos rfl] at this
      have c2 := HCX.out.cell 2 (v := .string (strB t)) rfl
      clear HTX HF HCX HR ihf ihl ihp
      go_wp2_with fail
      refine HY.out.mono ?_
      rintro e w1 ⟨rfl, hb1⟩
      have HB1 := Lib.hid (HB.out.trans (hb1.mono HB.out.size))
      clear HY HB hb1 c0 c2
      go_wp2_with fail
      go_ret
      exact ⟨congrArg (fun z => Ending.returned (Value.string (strB z))) HZ.out.symm, HB1.out⟩
    have f2 : (k == 2) = false := by simpa using h2
    by_cases h3 : k = 3
    · subst h3
      have HZ : Hid (TX = 123 :: (joi 32 (txtF fs ++ restT r) ++ [125])) := by have := HTX.out; rwa [if_neg h1, if_neg h2, if_pos rfl] at this
      have HTL : Hid (totB (txtF fs) ≤ 3000000) := HTO.out.1
      have x3 := HCX.out.cell 3 (v := .slice fa fs.length fc) rfl
      clear HTX HF HY HTO ihl ihp h1 h2
      go_wp2_with fail
      clear c0 f1 f2
      go_loopw [3, 27] (fun s i wr => ∃ m : Nat, m ≤ fs.length ∧ i = .int .i64 m ∧ s = .string (strB (catB ((txtF fs).take m))) ∧ Hid (Below W0.heap.size W0 wr)) (fun _ i _ => fs.length - (intOf i).toNat)
      case atStart => exact ⟨0, Nat.zero_le _, rfl, rfl, Below.refl _ _⟩
      case round =>
        clear x3
        obtain ⟨m, hm, rfl, rfl, HBE⟩ := hrel
        by_cases hlt : m < fs.length
        · obtain ⟨⟨num, ⟨k', n', t', fs', r', ls', ps'⟩⟩, hq⟩ : ∃ x, fs[m]? = some x := ⟨_, List.getElem?_eq_getElem hlt⟩
          obtain ⟨bf, of', fa', la', pa', fc', lc', pc', rfl, hnum, hrx, y0, y1, y2, y3, y4, y5, y6, y7⟩ := (HR.out wr HBE.out).fieldAt hq
          have hwx : wV (.mk k' n' t' fs' r' ls' ps') ≤ 100000 := by have hwv := HWV.out; have h1 := wF_mem fs _ (List.mem_of_getElem? hq); rw [wV_eq] at hwv; simp only [V.fs] at hwv h1; omega
          have hih := ihf _ (List.mem_of_getElem? hq)
          have hih : RTxtC (.mk k' n' t' fs' r' ls' ps') := hih
          obtain ⟨W2, hW2⟩ : ∃ W2, W2 = wr.alloc (.cells #[.int .i64 num, .int .i64 k', .int .u64 (n' : Int), .string (strB t'), .slice fa' fs'.length fc', .string (strB r'), .slice la' ls'.length lc', .slice pa' ps'.length pc'] 60) := ⟨_, rfl⟩
          obtain ⟨gb, hgb⟩ : ∃ gb, gb = wr.heap.size := ⟨_, rfl⟩
          have hb2 : Below wr.heap.size wr W2 := by rw [hW2]; exact (Below.refl _ _).alloc (Nat.le_refl _) _
          have hcb : CellsAt W2 gb 60 #[.int .i64 num, .int .i64 k', .int .u64 (n' : Int), .string (strB t'), .slice fa' fs'.length fc', .string (strB r'), .slice la' ls'.length lc', .slice pa' ps'.length pc'] := by rw [hW2, hgb]; exact CellsAt.new wr _ _
          have l1 := decZ_len hnum
          have l2 := txt_short (rep_mV _ hrx) hwx
          have hta : (txtF fs)[m]? = some (decZ num ++ 58 :: txtV (.mk k' n' t' fs' r' ls' ps')) := by rw [txtF_map, List.getElem?_map, hq]; rfl
          have htk := catB_take hta
          have hcl : (catB ((txtF fs).take m)).length ≤ 3000000 := by rw [catB_len]; have := totB_take (txtF fs) m; have := HTL.out; omega
          have HF : Hid (∀ W, Below W2.heap.size W2 W → Calls Tryd.prog 21 #[.int .i64 num] W fun e w' => e = .returned (.string (strB (decZ num))) ∧ Below W.heap.size W w') := fun W h => rfigZ_any num hnum W
          have HP : Hid (∀ W, Below W2.heap.size W2 W → Calls Tryd.prog 7 #[.agg #[.int .i64 k', .int .u64 (n' : Int), .string (strB t'), .slice fa' fs'.length fc', .string (strB r'), .slice la' ls'.length lc', .slice pa' ps'.length pc']] W fun e w' => e = .returned (.string (strB (txtV (.mk k' n' t' fs' r' ls' ps')))) ∧ Below W.heap.size W w') := fun W h => RTxtC.lit hih ((hrx.stays hb2).stays h) hwx
          obtain ⟨XA, hXA⟩ : ∃ X, X = decZ num := ⟨_, rfl⟩
          obtain ⟨XB, hXB⟩ : ∃ X, X = txtV (.mk k' n' t' fs' r' ls' ps') := ⟨_, rfl⟩
          rw [← hXA] at l1 HF htk
          rw [← hXB] at l2 HP htk
          obtain ⟨CC, hCC⟩ : ∃ X, X = catB ((txtF fs).take m) := ⟨_, rfl⟩
          rw [← hCC] at hcl htk
          rw [← hCC]
          have HTK := Lib.hid htk
          have HS : Hid (∀ W, Below W2.heap.size W2 W → W.cell? ⟨gb, 0, none⟩ = some (.int .i64 num) ∧ W.cell? ⟨gb, 1, none⟩ = some (.int .i64 k') ∧ W.cell? ⟨gb, 2, none⟩ = some (.int .u64 (n' : Int)) ∧ W.cell? ⟨gb, 3, none⟩ = some (.string (strB t')) ∧ W.cell? ⟨gb, 4, none⟩ = some (.slice fa' fs'.length fc') ∧ W.cell? ⟨gb, 5, none⟩ = some (.string (strB r')) ∧ W.cell? ⟨gb, 6, none⟩ = some (.slice la' ls'.length lc') ∧ W.cell? ⟨gb, 7, none⟩ = some (.slice pa' ps'.length pc') ∧ (Op.stringOp .add ⟨#[32]⟩ (strB XA)).run Tryd.prog W = .ok (.string (strB (32 :: XA))) W ∧ (Op.stringOp .add (strB (32 :: XA)) ⟨#[58]⟩).run Tryd.prog W = .ok (.string (strB (32 :: (XA ++ [58])))) W ∧ (Op.stringOp .add (strB (32 :: (XA ++ [58]))) (strB XB)).run Tryd.prog W = .ok (.string (strB (32 :: (XA ++ 58 :: XB)))) W ∧ (Op.stringOp .add (strB CC) (strB (32 :: (XA ++ 58 :: XB)))).run Tryd.prog W = .ok (.string (strB (CC ++ 32 :: (XA ++ 58 :: XB)))) W) := fun W h => by
            refine ⟨(hcb.stays h).cell 0 rfl, (hcb.stays h).cell 1 rfl, (hcb.stays h).cell 2 rfl, (hcb.stays h).cell 3 rfl, (hcb.stays h).cell 4 rfl, (hcb.stays h).cell 5 rfl, (hcb.stays h).cell 6 rfl, (hcb.stays h).cell 7 rfl, str_add [32] XA (by simp; omega) W, str_add (32 :: XA) [58] (by simp; omega) W, ?_, str_add CC _ (by simp; omega) W⟩
            rw [str_add (32 :: (XA ++ [58])) XB (by simp; omega) W]
            simp
          have hd0 : Below W2.heap.size W2 W2.drew := (Below.refl _ _).drew
          have HB2 : Hid (Below W0.heap.size W0 W2) := HBE.out.trans (hb2.mono HBE.out.size)
          have HW2 := Lib.hid hW2
          have HGB := Lib.hid hgb
          clear hq hwx hih hb2 hcb hW2 hgb hta htk hcl hCC hXB l2 hrx hXA l1 hnum
          go_upto_region 11 with fail
          rw [← HW2.out, ← HGB.out]
          clear HW2 HGB y0 y1 y2 y3 y4 y5 y6 y7
          refine wp_region_quiet_in (C := fun W => Below W2.heap.size W2 W) (by kernel_rfl) (by kernel_rfl) hd0 ?_
          clear hd0
          repeat
            (first
               | go_big_quiet_skip
               | (go_big_quiet_want
                  refine quiet_intro ?_ (fun wq hwq => ?_) ?_
                  rotate_left
                  focus
                    (obtain ⟨c0, c1, c2, c3, c4, c5, c6, c7, s1, s2, s3, s4⟩ := HS.out _ hwq
                     go_simp
                     try first
                       | with_reducible rfl
                       | (exact hwq)
                       | ((with_reducible refine (HF.out _ hwq).mono ?_); rintro e wA ⟨rfl, hbA⟩; refine ⟨?_, hwq.trans (hbA.mono hwq.size)⟩; with_reducible rfl)
                       | ((with_reducible refine (HP.out _ hwq).mono ?_); rintro e wA ⟨rfl, hbA⟩; refine ⟨?_, hwq.trans (hbA.mono hwq.size)⟩; with_reducible rfl))
                  go_simp
                  go_big_quiet_on))
          refine wpQuiet_nil ?_
          intro w3 hb3
          have HB3 : Hid (Below W0.heap.size W0 w3) := HB2.out.trans (hb3.mono HB2.out.size)
          clear HF HP HS hb3 HB2
          go_wp2_with fail
          go_roundw
          case rel => exact ⟨m + 1, hlt, by go_num, by rw [HTK.out], HB3.out⟩
          case measure => simp only [intOf]; omega
        · rw [show (txtF fs).take m = txtF fs from List.take_of_length_le (by rw [txtF_map, List.length_map]; omega)]
          obtain ⟨CF, hCF⟩ : ∃ X, X = catB (txtF fs) := ⟨_, rfl⟩
          rw [← hCF]
          have hcf : CF.length ≤ 3000000 := by rw [hCF, catB_len]; exact HTL.out
          have x4 := (HCX.out.stays HBE.out).cell 4 (v := .string (strB r)) rfl
          by_cases h0 : r = []
          · subst h0
            rw [show strB [] = ⟨#[]⟩ from rfl] at x4
            obtain ⟨J, hJe⟩ : ∃ X, X = joi 32 (txtF fs ++ restT []) := ⟨_, rfl⟩
            obtain ⟨CT, hCT⟩ : ∃ X, X = CF := ⟨_, rfl⟩
            have hcl : CT.length ≤ 3000000 := by rw [hCT]; exact hcf
            have hJ : CT.drop 1 = J := by rw [hCT, hCF, catB_drop, hJe, show restT [] = [] from rfl, List.append_nil]
            have hjl : J.length ≤ 3000000 := by rw [← hJ, List.length_drop]; omega
            rw [← hCT]
            rw [← hJe] at HZ
            clear hCT hJe hcf hCF
            have HCU := Lib.hid (rcut_any CT (by omega) wr)
            rw [hJ] at HCU
            have hA1 : ∀ W, (Op.stringOp .add ⟨#[123]⟩ (strB J)).run Tryd.prog W = .ok (.string (strB (123 :: J))) W := fun W => str_add [123] J (by simp; omega) W
            have hA2 : ∀ W, (Op.stringOp .add (strB (123 :: J)) ⟨#[125]⟩).run Tryd.prog W = .ok (.string (strB (123 :: (J ++ [125])))) W := fun W => str_add (123 :: J) [125] (by simp; omega) W
            clear hcl hjl hJ
            go_wp2_with fail
            refine HCU.out.mono ?_
            rintro e w5 ⟨rfl, hb5⟩
            have HB5 : Hid (Below w.heap.size w w5) := HB.out.trans ((HBE.out.trans (hb5.mono HBE.out.size)).mono HB.out.size)
            clear HCU hb5
            go_wp2_with fail
            go_ret
            exact ⟨congrArg (fun z => Ending.returned (Value.string (strB z))) HZ.out.symm, HB5.out⟩
          · have hr0 : 0 < r.length := List.length_pos_iff.2 h0
            have hr1 : (0 : Int) < (r.length : Int) := by omega
            have hrs := HRL.out
            have HBR := Lib.hid (rbytes_any r (by omega) wr)
            have hql := qtB_len r
            obtain ⟨J, hJe⟩ : ∃ X, X = joi 32 (txtF fs ++ restT r) := ⟨_, rfl⟩
            obtain ⟨CT, hCT⟩ : ∃ X, X = CF ++ 32 :: 126 :: qtB r := ⟨_, rfl⟩
            have hcl : CT.length ≤ 4000000 := by rw [hCT]; simp only [List.length_append, List.length_cons, hql]; omega
            have hJ : CT.drop 1 = J := by rw [hCT, hCF, hJe, ← catB_drop, catB_app, show restT r = [126 :: qtB r] from by unfold restT; rw [if_neg h0], catB_cons]; simp [catB]
            have hjl : J.length ≤ 4000000 := by rw [← hJ, List.length_drop]; omega
            rw [← hJe] at HZ
            obtain ⟨Q, hQ⟩ : ∃ Q, Q = qtB r := ⟨_, rfl⟩
            rw [← hQ] at HBR hCT hql
            have s1 : ∀ W, (Op.stringOp .add ⟨#[32, 126]⟩ (strB Q)).run Tryd.prog W = .ok (.string (strB (32 :: 126 :: Q))) W := fun W => str_add [32, 126] Q (by rw [hql]; simp; omega) W
            have s2 : ∀ W, (Op.stringOp .add (strB CF) (strB (32 :: 126 :: Q))).run Tryd.prog W = .ok (.string (strB CT)) W := fun W => by rw [hCT]; exact str_add CF _ (by simp only [List.length_cons, hql]; omega) W
            clear hCT hJe hcf hCF hQ hql hrs h0
            go_wp2_with fail
            refine HBR.out.mono ?_
            rintro e w4 ⟨rfl, hb4⟩
            have hbe4 := HBE.out.trans (hb4.mono HBE.out.size)
            have HBE4 := Lib.hid hbe4
            clear HBR hb4 hbe4 x4
            have HCU := Lib.hid (rcut_any CT (by omega) w4)
            rw [hJ] at HCU
            have hA1 : ∀ W, (Op.stringOp .add ⟨#[123]⟩ (strB J)).run Tryd.prog W = .ok (.string (strB (123 :: J))) W := fun W => str_add [123] J (by simp; omega) W
            have hA2 : ∀ W, (Op.stringOp .add (strB (123 :: J)) ⟨#[125]⟩).run Tryd.prog W = .ok (.string (strB (123 :: (J ++ [125])))) W := fun W => str_add (123 :: J) [125] (by simp; omega) W
            clear hcl hjl hJ
            go_wp2_with fail
            refine HCU.out.mono ?_
            rintro e w5 ⟨rfl, hb5⟩
            have HB5 : Hid (Below w.heap.size w w5) := HB.out.trans ((HBE4.out.trans (hb5.mono HBE4.out.size)).mono HB.out.size)
            clear HCU hb5
            go_wp2_with fail
            go_ret
            exact ⟨congrArg (fun z => Ending.returned (Value.string (strB z))) HZ.out.symm, HB5.out⟩
    have f3 : (k == 3) = false := by simpa using h3
    by_cases h4 : k = 4
    · subst h4
      have HZ : Hid (TX = 91 :: (joi 32 (txtL ls) ++ [93])) := by have := HTX.out; rwa [if_neg h1, if_neg h2, if_neg h3, if_pos rfl] at this
      have HTL : Hid (totB (txtL ls) ≤ 3000000) := HTO.out.2.1
      have x5 := HCX.out.cell 5 (v := .slice la ls.length lc) rfl
      clear HTX HF HY HTO ihf ihp h1 h2 h3
      go_wp2_with fail
      clear c0 f1 f2 f3
      go_loopw [3, 62] (fun s i wr => ∃ m : Nat, m ≤ ls.length ∧ i = .int .i64 m ∧ s = .string (strB (catB ((txtL ls).take m))) ∧ Hid (Below W0.heap.size W0 wr)) (fun _ i _ => ls.length - (intOf i).toNat)
      case atStart => exact ⟨0, Nat.zero_le _, rfl, rfl, Below.refl _ _⟩
      case round =>
        clear x5
        obtain ⟨m, hm, rfl, rfl, HBE⟩ := hrel
        by_cases hlt : m < ls.length
        · obtain ⟨⟨k', n', t', fs', r', ls', ps'⟩, hq⟩ : ∃ x, ls[m]? = some x := ⟨_, List.getElem?_eq_getElem hlt⟩
          obtain ⟨bf, of', fa', la', pa', fc', lc', pc', rfl, hrx, y0, y1, y2, y3, y4, y5, y6⟩ := (HR.out wr HBE.out).partAt hq
          have hwx : wV (.mk k' n' t' fs' r' ls' ps') ≤ 100000 := by have hwv := HWV.out; have h1 := wL_mem ls _ (List.mem_of_getElem? hq); rw [wV_eq] at hwv; simp only [V.ls] at hwv h1; omega
          have hih := ihl _ (List.mem_of_getElem? hq)
          have hih : RTxtC (.mk k' n' t' fs' r' ls' ps') := hih
          obtain ⟨W2, hW2⟩ : ∃ W2, W2 = wr.alloc (.cells #[.int .i64 k', .int .u64 (n' : Int), .string (strB t'), .slice fa' fs'.length fc', .string (strB r'), .slice la' ls'.length lc', .slice pa' ps'.length pc'] 37) := ⟨_, rfl⟩
          obtain ⟨gb, hgb⟩ : ∃ gb, gb = wr.heap.size := ⟨_, rfl⟩
          have hb2 : Below wr.heap.size wr W2 := by rw [hW2]; exact (Below.refl _ _).alloc (Nat.le_refl _) _
          have hcb : CellsAt W2 gb 37 #[.int .i64 k', .int .u64 (n' : Int), .string (strB t'), .slice fa' fs'.length fc', .string (strB r'), .slice la' ls'.length lc', .slice pa' ps'.length pc'] := by rw [hW2, hgb]; exact CellsAt.new wr _ _
          have l2 := txt_short (rep_mV _ hrx) hwx
          have hta : (txtL ls)[m]? = some (txtV (.mk k' n' t' fs' r' ls' ps')) := by rw [txtL_map, List.getElem?_map, hq]; rfl
          have htk := catB_take hta
          have hcl : (catB ((txtL ls).take m)).length ≤ 3000000 := by rw [catB_len]; have := totB_take (txtL ls) m; have := HTL.out; omega
          have HP := Lib.hid (RTxtC.lit hih (hrx.stays hb2) hwx)
          obtain ⟨XB, hXB⟩ : ∃ X, X = txtV (.mk k' n' t' fs' r' ls' ps') := ⟨_, rfl⟩
          rw [← hXB] at l2 HP htk
          obtain ⟨CC, hCC⟩ : ∃ X, X = catB ((txtL ls).take m) := ⟨_, rfl⟩
          rw [← hCC] at hcl htk
          rw [← hCC]
          have HTK := Lib.hid htk
          have s1 : ∀ W, (Op.stringOp .add ⟨#[32]⟩ (strB XB)).run Tryd.prog W = .ok (.string (strB (32 :: XB))) W := fun W => str_add [32] XB (by simp; omega) W
          have s2 : ∀ W, (Op.stringOp .add (strB CC) (strB (32 :: XB))).run Tryd.prog W = .ok (.string (strB (CC ++ 32 :: XB))) W := fun W => str_add CC _ (by simp; omega) W
          have HCB := Lib.hid hcb
          have HB2 : Hid (Below W0.heap.size W0 W2) := HBE.out.trans (hb2.mono HBE.out.size)
          have HW2 := Lib.hid hW2
          have HGB := Lib.hid hgb
          clear hq hwx hih hb2 hcb hW2 hgb hta htk hcl hCC hXB l2 hrx
          go_upto_region 20 with fail
          rw [← HW2.out, ← HGB.out]
          clear HW2 HGB y0 y1 y2 y3 y4 y5 y6
          have hcb := HCB.out
          have z0 := hcb.cell 0 (v := .int .i64 k') rfl
          have z1 := hcb.cell 1 (v := .int .u64 (n' : Int)) rfl
          have z2 := hcb.cell 2 (v := .string (strB t')) rfl
          have z3 := hcb.cell 3 (v := .slice fa' fs'.length fc') rfl
          have z4 := hcb.cell 4 (v := .string (strB r')) rfl
          have z5 := hcb.cell 5 (v := .slice la' ls'.length lc') rfl
          have z6 := hcb.cell 6 (v := .slice pa' ps'.length pc') rfl
          clear hcb HCB
          go_wp2_with fail
          refine HP.out.mono ?_
          rintro e w3 ⟨rfl, hb3⟩
          have HB3 : Hid (Below W0.heap.size W0 w3) := HB2.out.trans (hb3.mono HB2.out.size)
          clear HP hb3 HB2 z0 z1 z2 z3 z4 z5 z6
          go_wp2_with fail
          go_roundw
          case rel => exact ⟨m + 1, hlt, by go_num, by rw [HTK.out], HB3.out⟩
          case measure => simp only [intOf]; omega
        · rw [show (txtL ls).take m = txtL ls from List.take_of_length_le (by rw [txtL_map, List.length_map]; omega)]
          obtain ⟨CT, hCT⟩ : ∃ X, X = catB (txtL ls) := ⟨_, rfl⟩
          rw [← hCT]
          have hcl : CT.length ≤ 3000000 := by rw [hCT, catB_len]; exact HTL.out
          obtain ⟨J, hJe⟩ : ∃ X, X = joi 32 (txtL ls) := ⟨_, rfl⟩
          have hJ : CT.drop 1 = J := by rw [hCT, hJe, catB_drop]
          have hjl : J.length ≤ 3000000 := by rw [← hJ, List.length_drop]; omega
          rw [← hJe] at HZ
          clear hCT hJe
          have HCU := Lib.hid (rcut_any CT (by omega) wr)
          rw [hJ] at HCU
          have hA1 : ∀ W, (Op.stringOp .add ⟨#[91]⟩ (strB J)).run Tryd.prog W = .ok (.string (strB (91 :: J))) W := fun W => str_add [91] J (by simp; omega) W
          have hA2 : ∀ W, (Op.stringOp .add (strB (91 :: J)) ⟨#[93]⟩).run Tryd.prog W = .ok (.string (strB (91 :: (J ++ [93])))) W := fun W => str_add (91 :: J) [93] (by simp; omega) W
          clear hcl hjl hJ
          go_wp2_with fail
          refine HCU.out.mono ?_
          rintro e w5 ⟨rfl, hb5⟩
          have HB5 : Hid (Below w.heap.size w w5) := HB.out.trans ((HBE.out.trans (hb5.mono HBE.out.size)).mono HB.out.size)
          clear HCU hb5
          go_wp2_with fail
          go_ret
          exact ⟨congrArg (fun z => Ending.returned (Value.string (strB z))) HZ.out.symm, HB5.out⟩
    have f4 : (k == 4) = false := by simpa using h4
    by_cases h5 : k = 5
    · subst h5
      have HZ : Hid (TX = 40 :: (joi 32 (txtP ps) ++ [41])) := by have := HTX.out; rwa [if_neg h1, if_neg h2, if_neg h3, if_neg h4, if_pos rfl] at this
      have HTL : Hid (totB (txtP ps) ≤ 3000000) := HTO.out.2.2
      have x6 := HCX.out.cell 6 (v := .slice pa ps.length pc) rfl
      clear HTX HF HY HTO ihf ihl h1 h2 h3 h4
      go_wp2_with fail
      clear c0 f1 f2 f3 f4
      go_loopw [3, 81] (fun s i wr => ∃ m : Nat, m ≤ ps.length ∧ i = .int .i64 m ∧ s = .string (strB (catB ((txtP ps).take m))) ∧ Hid (Below W0.heap.size W0 wr)) (fun _ i _ => ps.length - (intOf i).toNat)
      case atStart => exact ⟨0, Nat.zero_le _, rfl, rfl, Below.refl _ _⟩
      case round =>
        clear x6
        obtain ⟨m, hm, rfl, rfl, HBE⟩ := hrel
        by_cases hlt : m < ps.length
        · obtain ⟨⟨⟨k', n', t', fs', r', ls', ps'⟩, ⟨k2, n2, t2, fs2, r2, ls2, ps2⟩⟩, hq⟩ : ∃ x, ps[m]? = some x := ⟨_, List.getElem?_eq_getElem hlt⟩
          obtain ⟨bf, of', fa', la', pa', fc', lc', pc', fa2, la2, pa2, fc2, lc2, pc2, rfl, hrk, hrx, y0, y1, y2, y3, y4, y5, y6, y7, y8, y9, y10, y11, y12, y13⟩ := (HR.out wr HBE.out).pairAt hq
          have hwx : wV (.mk k' n' t' fs' r' ls' ps') ≤ 100000 ∧ wV (.mk k2 n2 t2 fs2 r2 ls2 ps2) ≤ 100000 := by have hwv := HWV.out; have h1 := wP_mem ps _ (List.mem_of_getElem? hq); rw [wV_eq] at hwv; simp only [V.ps] at hwv h1; omega
          have hih := ihp _ (List.mem_of_getElem? hq)
          have hih : RTxtC (.mk k' n' t' fs' r' ls' ps') ∧ RTxtC (.mk k2 n2 t2 fs2 r2 ls2 ps2) := hih
          obtain ⟨W2, hW2⟩ : ∃ W2, W2 = wr.alloc (.cells #[.int .i64 k', .int .u64 (n' : Int), .string (strB t'), .slice fa' fs'.length fc', .string (strB r'), .slice la' ls'.length lc', .slice pa' ps'.length pc', .int .i64 k2, .int .u64 (n2 : Int), .string (strB t2), .slice fa2 fs2.length fc2, .string (strB r2), .slice la2 ls2.length lc2, .slice pa2 ps2.length pc2] 62) := ⟨_, rfl⟩
          obtain ⟨gb, hgb⟩ : ∃ gb, gb = wr.heap.size := ⟨_, rfl⟩
          have hb2 : Below wr.heap.size wr W2 := by rw [hW2]; exact (Below.refl _ _).alloc (Nat.le_refl _) _
          have hcb : CellsAt W2 gb 62 #[.int .i64 k', .int .u64 (n' : Int), .string (strB t'), .slice fa' fs'.length fc', .string (strB r'), .slice la' ls'.length lc', .slice pa' ps'.length pc', .int .i64 k2, .int .u64 (n2 : Int), .string (strB t2), .slice fa2 fs2.length fc2, .string (strB r2), .slice la2 ls2.length lc2, .slice pa2 ps2.length pc2] := by rw [hW2, hgb]; exact CellsAt.new wr _ _
          have l1 := txt_short (rep_mV _ hrk) hwx.1
          have l2 := txt_short (rep_mV _ hrx) hwx.2
          have hta : (txtP ps)[m]? = some (txtV (.mk k' n' t' fs' r' ls' ps') ++ 58 :: txtV (.mk k2 n2 t2 fs2 r2 ls2 ps2)) := by rw [txtP_map, List.getElem?_map, hq]; rfl
          have htk := catB_take hta
          have hcl : (catB ((txtP ps).take m)).length ≤ 3000000 := by rw [catB_len]; have := totB_take (txtP ps) m; have := HTL.out; omega
          have HF : Hid (∀ W, Below W2.heap.size W2 W → Calls Tryd.prog 7 #[.agg #[.int .i64 k', .int .u64 (n' : Int), .string (strB t'), .slice fa' fs'.length fc', .string (strB r'), .slice la' ls'.length lc', .slice pa' ps'.length pc']] W fun e w' => e = .returned (.string (strB (txtV (.mk k' n' t' fs' r' ls' ps')))) ∧ Below W.heap.size W w') := fun W h => RTxtC.lit hih.1 ((hrk.stays hb2).stays h) hwx.1
          have HP : Hid (∀ W, Below W2.heap.size W2 W → Calls Tryd.prog 7 #[.agg #[.int .i64 k2, .int .u64 (n2 : Int), .string (strB t2), .slice fa2 fs2.length fc2, .string (strB r2), .slice la2 ls2.length lc2, .slice pa2 ps2.length pc2]] W fun e w' => e = .returned (.string (strB (txtV (.mk k2 n2 t2 fs2 r2 ls2 ps2)))) ∧ Below W.heap.size W w') := fun W h => RTxtC.lit hih.2 ((hrx.stays hb2).stays h) hwx.2
          obtain ⟨XA, hXA⟩ : ∃ X, X = txtV (.mk k' n' t' fs' r' ls' ps') := ⟨_, rfl⟩
          obtain ⟨XB, hXB⟩ : ∃ X, X = txtV (.mk k2 n2 t2 fs2 r2 ls2 ps2) := ⟨_, rfl⟩
          rw [← hXA] at l1 HF htk
          rw [← hXB] at l2 HP htk
          obtain ⟨CC, hCC⟩ : ∃ X, X = catB ((txtP ps).take m) := ⟨_, rfl⟩
          rw [← hCC] at hcl htk
          rw [← hCC]
          have HTK := Lib.hid htk
          have HS : Hid (∀ W, Below W2.heap.size W2 W → W.cell? ⟨gb, 0, none⟩ = some (.int .i64 k') ∧ W.cell? ⟨gb, 1, none⟩ = some (.int .u64 (n' : Int)) ∧ W.cell? ⟨gb, 2, none⟩ = some (.string (strB t')) ∧ W.cell? ⟨gb, 3, none⟩ = some (.slice fa' fs'.length fc') ∧ W.cell? ⟨gb, 4, none⟩ = some (.string (strB r')) ∧ W.cell? ⟨gb, 5, none⟩ = some (.slice la' ls'.length lc') ∧ W.cell? ⟨gb, 6, none⟩ = some (.slice pa' ps'.length pc') ∧ W.cell? ⟨gb, 7, none⟩ = some (.int .i64 k2) ∧ W.cell? ⟨gb, 8, none⟩ = some (.int .u64 (n2 : Int)) ∧ W.cell? ⟨gb, 9, none⟩ = some (.string (strB t2)) ∧ W.cell? ⟨gb, 10, none⟩ = some (.slice fa2 fs2.length fc2) ∧ W.cell? ⟨gb, 11, none⟩ = some (.string (strB r2)) ∧ W.cell? ⟨gb, 12, none⟩ = some (.slice la2 ls2.length lc2) ∧ W.cell? ⟨gb, 13, none⟩ = some (.slice pa2 ps2.length pc2) ∧ (Op.stringOp .add ⟨#[32]⟩ (strB XA)).run Tryd.prog W = .ok (.string (strB (32 :: XA))) W ∧ (Op.stringOp .add (strB (32 :: XA)) ⟨#[58]⟩).run Tryd.prog W = .ok (.string (strB (32 :: (XA ++ [58])))) W ∧ (Op.stringOp .add (strB (32 :: (XA ++ [58]))) (strB XB)).run Tryd.prog W = .ok (.string (strB (32 :: (XA ++ 58 :: XB)))) W ∧ (Op.stringOp .add (strB CC) (strB (32 :: (XA ++ 58 :: XB)))).run Tryd.prog W = .ok (.string (strB (CC ++ 32 :: (XA ++ 58 :: XB)))) W) := fun W h => by
            refine ⟨(hcb.stays h).cell 0 rfl, (hcb.stays h).cell 1 rfl, (hcb.stays h).cell 2 rfl, (hcb.stays h).cell 3 rfl, (hcb.stays h).cell 4 rfl, (hcb.stays h).cell 5 rfl, (hcb.stays h).cell 6 rfl, (hcb.stays h).cell 7 rfl, (hcb.stays h).cell 8 rfl, (hcb.stays h).cell 9 rfl, (hcb.stays h).cell 10 rfl, (hcb.stays h).cell 11 rfl, (hcb.stays h).cell 12 rfl, (hcb.stays h).cell 13 rfl, str_add [32] XA (by simp; omega) W, str_add (32 :: XA) [58] (by simp; omega) W, ?_, str_add CC _ (by simp; omega) W⟩
            rw [str_add (32 :: (XA ++ [58])) XB (by simp; omega) W]
            simp
          have hd0 : Below W2.heap.size W2 W2.drew := (Below.refl _ _).drew
          have HB2 : Hid (Below W0.heap.size W0 W2) := HBE.out.trans (hb2.mono HBE.out.size)
          have HW2 := Lib.hid hW2
          have HGB := Lib.hid hgb
          clear hq hwx hih hb2 hcb hW2 hgb hta htk hcl hCC hXB l2 hrx hXA l1 hrk
          go_upto_region 27 with fail
          rw [← HW2.out, ← HGB.out]
          clear HW2 HGB y0 y1 y2 y3 y4 y5 y6 y7 y8 y9 y10 y11 y12 y13
          refine wp_region_quiet_in (C := fun W => Below W2.heap.size W2 W) (by kernel_rfl) (by kernel_rfl) hd0 ?_
          clear hd0
          repeat
            (first
               | go_big_quiet_skip
               | (go_big_quiet_want
                  refine quiet_intro ?_ (fun wq hwq => ?_) ?_
                  rotate_left
                  focus
                    (obtain ⟨c0, c1, c2, c3, c4, c5, c6, c7, c8, c9, c10, c11, c12, c13, s1, s2, s3, s4⟩ := HS.out _ hwq
                     go_simp
                     try first
                       | with_reducible rfl
                       | (exact hwq)
                       | ((with_reducible refine (HF.out _ hwq).mono ?_); rintro e wA ⟨rfl, hbA⟩; refine ⟨?_, hwq.trans (hbA.mono hwq.size)⟩; with_reducible rfl)
                       | ((with_reducible refine (HP.out _ hwq).mono ?_); rintro e wA ⟨rfl, hbA⟩; refine ⟨?_, hwq.trans (hbA.mono hwq.size)⟩; with_reducible rfl))
                  go_simp
                  go_big_quiet_on))
          refine wpQuiet_nil ?_
          intro w3 hb3
          have HB3 : Hid (Below W0.heap.size W0 w3) := HB2.out.trans (hb3.mono HB2.out.size)
          clear HF HP HS hb3 HB2
          go_wp2_with fail
          go_roundw
          case rel => exact ⟨m + 1, hlt, by go_num, by rw [HTK.out], HB3.out⟩
          case measure => simp only [intOf]; omega
        · rw [show (txtP ps).take m = txtP ps from List.take_of_length_le (by rw [txtP_map, List.length_map]; omega)]
          obtain ⟨CT, hCT⟩ : ∃ X, X = catB (txtP ps) := ⟨_, rfl⟩
          rw [← hCT]
          have hcl : CT.length ≤ 3000000 := by rw [hCT, catB_len]; exact HTL.out
          obtain ⟨J, hJe⟩ : ∃ X, X = joi 32 (txtP ps) := ⟨_, rfl⟩
          have hJ : CT.drop 1 = J := by rw [hCT, hJe, catB_drop]
          have hjl : J.length ≤ 3000000 := by rw [← hJ, List.length_drop]; omega
          rw [← hJe] at HZ
          clear hCT hJe
          have HCU := Lib.hid (rcut_any CT (by omega) wr)
          rw [hJ] at HCU
          have hA1 : ∀ W, (Op.stringOp .add ⟨#[40]⟩ (strB J)).run Tryd.prog W = .ok (.string (strB (40 :: J))) W := fun W => str_add [40] J (by simp; omega) W
          have hA2 : ∀ W, (Op.stringOp .add (strB (40 :: J)) ⟨#[41]⟩).run Tryd.prog W = .ok (.string (strB (40 :: (J ++ [41])))) W := fun W => str_add (40 :: J) [41] (by simp; omega) W
          clear hcl hjl hJ
          go_wp2_with fail
          refine HCU.out.mono ?_
          rintro e w5 ⟨rfl, hb5⟩
          have HB5 : Hid (Below w.heap.size w w5) := HB.out.trans ((HBE.out.trans (hb5.mono HBE.out.size)).mono HB.out.size)
          clear HCU hb5
          go_wp2_with fail
          go_ret
          exact ⟨congrArg (fun z => Ending.returned (Value.string (strB z))) HZ.out.symm, HB5.out⟩
    · have f5 : (k == 5) = false := by simpa using h5
      have HZ : Hid (TX = [45]) := by have := HTX.out; rwa [if_neg h1, if_neg h2, if_neg h3, if_neg h4, if_neg h5] at this
      clear HTX HY HF HCX HR ihf ihl ihp
      go_wp2_with fail
      go_ret
      exact ⟨congrArg (fun z => Ending.returned (Value.string (strB z))) HZ.out.symm, HB.out⟩
end Go.Proofs.YtcjflglpkpkflaaDoor
