/- The walk of SuperChooses: which block counts on every disk. -/
import Derived.Test.YtgehbabcpmkgaaaDoorDsB
import Derived.Test.YtgehbabcpmkgaaaDoorDsC
import Derived.Test.YtgehbabcpmkgaaaDoorDkI
import Derived.Test.YtgehbabcpmkgaaaDoorDkL
import Derived.Test.YtgehbabcpmkgaaaDoorDkQ
import Derived.Test.YtgehbabcpmkgaaaDoorDkY
import Derived.Test.YtgehbabcpmkgaaaDoorOpenJ
import Derived.Test.YtgehbabcpmkgaaaDoorAlive33
import Derived.Deep.CutBlock
import Derived.Deep.DeepCutAuto
namespace Go.Proofs.YtgehbabcpmkgaaaDoor
open Go Go.RowKit
set_option linter.unusedVariables false
theorem rowS_one {α : Type} {f : α → List Value} {w W : World} {cs : Array Value} {E : TypeId} {x : α} {g : Nat} (hW : CellsAt W g E cs) (h : cs.toList = f x) : RowS f W (.slice (some ⟨g, 0, none⟩) 1 1) [x] := by
  refine .inr ⟨g, 0, 1, rfl, Nat.le_refl _, by unfold maxLen; decide, hW.lt, fun j u hu => ?_⟩
  rw [Nat.zero_add, hW.cell j (v := u) ?_]
  rw [show ([x] : List α).flatMap f = f x from by simp, ← h] at hu
  simpa using hu
set_option maxRecDepth 100000 in
set_option maxHeartbeats 8000000 in
theorem walkSuperChooses (w : World) (vi : Value) (ps : List (Value × List UInt8)) (hri : RowL Prod.fst w vi ps) (hpi : ∀ p ∈ ps, RowB w p.1 p.2) (vl : Value) (ls : List Sp) (hrl : RowS spC w vl ls) (hgood : ∀ x ∈ ls, spG w x) (ea : Nat → Addr) (he : ErrsAll ea w) :
    Calls Tryd.prog 12 #[.agg #[vi], vl] w fun e w' => e = .returned (.bool true) ∧ Below w.heap.size w w' := by
  obtain ⟨a, c, rfl, -, -⟩ := hri.shape
  obtain ⟨al, cl, rfl, -, hil⟩ := RowS.shape hrl spC_len
  have hbA : Below w.heap.size w (w.alloc (.cells #[.slice a ps.length c] 85)) := (Below.refl _ _).alloc (Nat.le_refl _) _
  have hcI := CellsAt.new w #[.slice a ps.length c] 85
  obtain ⟨W0, hW0⟩ : ∃ W, W = w.alloc (.cells #[.slice a ps.length c] 85) := ⟨_, rfl⟩
  have HW0 := Lib.hid hW0
  rw [← hW0] at hbA hcI
  have hA := alive33 W0
  rw [hW0] at hA
  have HA := Lib.hid hA
  have HE : Hid (∀ w', Below w.heap.size w w' → ErrsAll ea w') := fun w' hb => he.stays hb
  have HRI : Hid (∀ w', Below w.heap.size w w' → RowL Prod.fst w' (.slice a ps.length c) ps) := fun w' hb => hri.stays hb
  have HPI : Hid (∀ w', Below w.heap.size w w' → ∀ p ∈ ps, RowB w' p.1 p.2) := fun w' hb p hq => (hpi p hq).stays hb
  have HRL : Hid (∀ w', Below w.heap.size w w' → RowS spC w' (.slice al ls.length cl) ls) := fun w' hb => hrl.stays hb
  have HG : Hid (∀ x ∈ ls, spG w x) := hgood
  have hpl : ps.length ≤ 9223372036854775807 := by rcases hri with ⟨h1, _⟩ | ⟨_, _, _, hv, h1, h2, _⟩ <;> unfold maxLen at * <;> omega
  have hll : ls.length ≤ 9223372036854775807 := by rcases hrl with ⟨h1, _⟩ | ⟨_, _, _, hv, h1, h2, _⟩ <;> unfold maxLen at * <;> omega
  clear he hri hpi hrl hil hgood hW0 hA
  go_enter Tryd.func12, Tryd.ntmps12
  go_wp2_with fail
  refine HA.out.mono ?_
  rintro e w1 ⟨rfl, hb1⟩
  rw [← HW0.out] at hb1
  have hbe1 : Below w.heap.size w w1 := hbA.trans (hb1.mono hbA.size)
  have hcI1 := hcI.stays hb1
  have q0 := hcI1.cell 0 (v := .slice a ps.length c) rfl
  have hlt1 : w.heap.size < w1.heap.size := hcI1.lt
  have hM := make_any ea _ ps w1 (HRI.out _ hbe1) (HPI.out _ hbe1) (HE.out _ hbe1).e1 (HE.out _ hbe1).e3 (HE.out _ hbe1).e17
  have HM := Lib.hid hM
  have HIM : Hid (∀ W, Below w1.heap.size w1 W → Below w.heap.size w W) := fun W hW => hbe1.trans (hW.mono hbe1.size)
  have HEE : Hid (∀ W, Below w1.heap.size w1 W → ErrsAll ea W) := fun W hW => HE.out W (HIM.out W hW)
  clear HA hM hcI hcI1 hb1 hbA HW0
  go_wp2_with fail
  refine HM.out.mono ?_
  clear HM q0
  rintro e w2 (⟨rfl, hb2⟩ | ⟨g, gd, gm, h, D0, rfl, hk2, hr2, hf2, hl2, hw2, hn1, hn2, g1, g2, g3, g4, hb2⟩)
  · have hbe2 := HIM.out w2 hb2
    clear hb2 hbe1
    go_wp2_with fail
    go_ret
    exact ⟨rfl, hbe2⟩
  · clear hbe1
    have HGP : Hid (w1.heap.size ≤ g ∧ w1.heap.size ≤ gd ∧ w1.heap.size ≤ gm ∧ w1.heap.size ≤ h) := ⟨by omega, by omega, by omega, by omega⟩
    by_cases hl10 : 10 < ls.length
    · have hbe2 := HIM.out w2 hb2
      clear hb2 hk2 hr2
      go_wp2_with fail
      go_ret
      exact ⟨rfl, hbe2⟩
    · go_wp2_with fail
      go_loopw [36] (fun i wr => ∃ (k : Nat) (D : Dm), k ≤ ls.length ∧ i = .int .i64 k ∧ Dk wr g gd gm D ∧ Rd2 wr w1.heap.size h (100 + 2 * k) D ∧ D.writes ≤ 40 + k ∧ Below w1.heap.size w1 wr) (fun i _ => ls.length - (intOf i).toNat)
      case atStart => exact ⟨0, D0, Nat.zero_le _, rfl, hk2, hr2, hw2, hb2⟩
      case round =>
        clear hk2 hr2 hb2 hf2 hl2 hw2
        obtain ⟨k, D, hk, rfl, hkd, hrd, hDw, hbe⟩ := hrel
        have hbw := HIM.out wr hbe
        by_cases hlt : k < ls.length
        · obtain ⟨⟨s, pf, gg, gb, hh, hv, pc, pv, bs⟩, hp⟩ : ∃ p, ls[k]? = some p := ⟨_, List.getElem?_eq_getElem hlt⟩
          obtain ⟨hs, hf, hgg, hgb, hhh, hhv, grow⟩ := HG.out _ (List.mem_of_getElem? hp)
          replace hs : -9223372036854775808 ≤ s ∧ s ≤ 9223372036854775807 := hs
          replace hf : -9223372036854775808 ≤ pf ∧ pf ≤ 9223372036854775807 := hf
          replace hgg : gg < 4294967296 := hgg
          replace hgb : gb < 4294967296 := hgb
          replace hhh : -9223372036854775808 ≤ hh ∧ hh ≤ 9223372036854775807 := hhh
          replace hhv : -9223372036854775808 ≤ hv ∧ hv ≤ 9223372036854775807 := hhv
          replace grow : RowB w pv bs := grow
          obtain ⟨va, vc, rfl, hvl, -⟩ := grow.gen.shape
          have HROW : Hid (∀ w', Below w1.heap.size w1 w' → RowB w' (.slice va bs.length vc) bs) := fun w' hb => grow.stays (HIM.out w' hb)
          obtain ⟨_, _, hve, -, hin⟩ := (HRL.out wr hbw).shape spC_len
          cases hve
          obtain ⟨bb, oo, rfl, hc⟩ := hin k _ hp
          have d0 : wr.cell? ⟨bb, oo + (k * 8 + 0), none⟩ = some (.int .i64 s) := hc 0 _ rfl
          have d1 : wr.cell? ⟨bb, oo + (k * 8 + 1), none⟩ = some (.int .i64 pf) := hc 1 _ rfl
          have d2 : wr.cell? ⟨bb, oo + (k * 8 + 2), none⟩ = some (.int .u32 gg) := hc 2 _ rfl
          have d3 : wr.cell? ⟨bb, oo + (k * 8 + 3), none⟩ = some (.int .u32 gb) := hc 3 _ rfl
          have d4 : wr.cell? ⟨bb, oo + (k * 8 + 4), none⟩ = some (.int .i64 hh) := hc 4 _ rfl
          have d5 : wr.cell? ⟨bb, oo + (k * 8 + 5), none⟩ = some (.int .i64 hv) := hc 5 _ rfl
          have d6 : wr.cell? ⟨bb, oo + (k * 8 + 6), none⟩ = some (.bool pc) := hc 6 _ rfl
          have d7 : wr.cell? ⟨bb, oo + (k * 8 + 7), none⟩ = some (.slice va bs.length vc) := hc 7 _ rfl
          rw [Nat.add_zero] at d0
          rw [← Nat.add_assoc] at d1 d2 d3 d4 d5 d6 d7
          unfold maxLen at hvl
          obtain ⟨hs1, hs2⟩ := hs
          obtain ⟨hf1, hf2⟩ := hf
          have HBD : Hid ((gg ≤ 4294967295 ∧ gb ≤ 4294967295) ∧ (-9223372036854775808 ≤ hh ∧ hh ≤ 9223372036854775807) ∧ (-9223372036854775808 ≤ hv ∧ hv ≤ 9223372036854775807)) := ⟨⟨by omega, by omega⟩, hhh, hhv⟩
          clear hc hin hp grow hgg hgb hhh hhv
          by_cases h9 : 100 < bs.length
          · clear hkd hrd
            go_wp2_with fail
            go_ret
            exact ⟨rfl, hbw.alloc (by have := hbw.size; omega) _⟩
          · obtain ⟨W1, hW1⟩ : ∃ W, W = wr.alloc (.cells #[.int .i64 s, .int .i64 pf, .int .u32 gg, .int .u32 gb, .int .i64 hh, .int .i64 hv, .bool pc, .slice va bs.length vc] 140) := ⟨_, rfl⟩
            have hbP : Below wr.heap.size wr W1 := by rw [hW1]; exact (Below.refl _ _).alloc (Nat.le_refl _) _
            have hcP : CellsAt W1 wr.heap.size 140 #[.int .i64 s, .int .i64 pf, .int .u32 gg, .int .u32 gb, .int .i64 hh, .int .i64 hv, .bool pc, .slice va bs.length vc] := by rw [hW1]; exact CellsAt.new wr _ _
            obtain ⟨P, hP⟩ : ∃ P, P = wr.heap.size := ⟨_, rfl⟩
            have hk1 := hkd.stays hbP
            have hr1 := hrd.stays hbP
            have hbe1 : Below w1.heap.size w1 W1 := hbe.trans (hbP.mono hbe.size)
            have hgP : g < P := by rw [hP]; exact hkd.lt.1
            have hgdP : gd < P := by rw [hP]; exact hkd.lt.2.1
            have hgmP : gm < P := by rw [hP]; exact hkd.lt.2.2
            have hhP : h < P := by rw [hP]; exact hrd.lt
            rw [← hP] at hcP
            have hF := fuse_any hk1 (n := pf) hf1 hf2
            rw [hW1] at hF
            have HF := Lib.hid hF
            have HW1 := Lib.hid hW1
            have HP := Lib.hid hP
            have HK1 := Lib.hid hk1
            have HR1 := Lib.hid hr1
            have HBE1 := Lib.hid hbe1
            have HCP := Lib.hid hcP
            have hne : ¬ P = h := by omega
            have hne' : ¬ h = P := by omega
            have HNP : Hid (¬ P ∈ [g, gd, gm, h]) := by show ¬ _; simp; omega
            clear hkd hrd hbe hW1 hP hbP hk1 hr1 hbe1 hF hbw hcP
            obtain ⟨fv, hfv⟩ : ∃ fv, fv = max pf (-1) := ⟨_, rfl⟩
            have HFV := Lib.hid hfv
            clear hgP hgdP hgmP hhP
            by_cases hpf : -1 < pf
            · have hmax : max pf (-1) = pf := by omega
              have HMX := Lib.hid hmax
              clear hfv HFV hmax
              go_wp2_with fail
              have hmax := HMX.out
              refine HF.out.mono ?_
              rintro e w3 ⟨rfl, hk3, hg3⟩
              rw [← HW1.out] at hg3
              rw [← HP.out]
              have hG3 := Grew.ofGrown hg3
              have hr3 := HR1.out.past HK1.out (hG3.mono (by simp))
              have hbe3 : Below w1.heap.size w1 w3 := hG3.below HBE1.out (by simp; exact HGP.out.1) HBE1.out.size
              have hcP3 := HCP.out.grew hG3 (by have := HNP.out; simp at this ⊢; omega)
              obtain ⟨c33, f33⟩ := hr3.c3
              have hG4 : Grew [h] w3 (w3.setCell ⟨h, 3, none⟩ (.int .i64 pf)) := (Grew.refl [h] w3).setCell (p := ⟨h, 3, none⟩) (.inl (by simp)) _
              have hr4 := hr3.setFuse pf
              rw [hmax] at hr4
              clear hmax
              have hk4 := hk3.past hr3 hG4
              have hbe4 := hG4.below hbe3 (by simp; exact HGP.out.2.2.2) hbe3.size
              have p31 := hcP3.cell 1 (v := .int .i64 pf) rfl
              have hcP4 := hcP3.grew hG4 (by have := HNP.out; simp at this ⊢; omega)
              obtain ⟨W4, hW4⟩ : ∃ W, W = w3.setCell ⟨h, 3, none⟩ (.int .i64 pf) := ⟨_, rfl⟩
              have HW4 := Lib.hid hW4
              rw [← hW4] at hr4 hk4 hbe4 hcP4
              clear hW4 hG4 hr3 hk3 hbe3 hcP3 hg3 hG3 HF HR1 HK1 HBE1 HCP
              go_upto_region 13 with (fail)
              rw [← HW4.out]
              clear HW4 c33 f33 p31
              have hok4 := hk4.ok
              have hw4 : (fuseM D pf).writes ≤ 40 + k := by rw [fuseM_writes]; exact hDw
              generalize fuseM D pf = D1 at hk4 hr4 hok4 hw4
              have hdr : Below W4.heap.size W4 W4.drew := (Below.refl _ _).drew
              have hbe4d := hbe4.trans (hdr.mono hbe4.size)
              have hSW := swrite_any ea (hk4.stays hdr) s hs1 hs2 gg gb hh hv HBD.out.1.1 HBD.out.1.2 HBD.out.2.1.1 HBD.out.2.1.2 HBD.out.2.2.1 HBD.out.2.2.2 (by omega) (fun W hW => (HEE.out W (hW.below hbe4d (by intro i hi; have := HGP.out; simp at hi; omega) hbe4d.size)).sup)
              have HR4 : Hid (∀ W, Grew [g, gd, gm] W4 W → Rd2 W w1.heap.size h (100 + 2 * k) D1) := fun W hW => hr4.past hk4 hW
              have HK4 := Lib.hid hk4
              have HRW : Hid (∀ W, Grew [g, gd, gm] W4 W → Calls Tryd.prog 68 #[.pointer (some ⟨h, 0, none⟩), .int .i64 s, .agg #[.int .u32 gg, .int .u32 gb, .int .i64 hh, .int .i64 hv]] W fun e w' => e = .returned (.int .i64 (swK D1 s gg gb hh hv)) ∧ Rd2 w' w1.heap.size h (100 + 2 * k + 1) (swM D1 s gg gb hh hv) ∧ Grew [h] W w') := fun W hW =>
                rswrite_any (HR4.out W hW) hok4 (by have := hbe4.size; have := hW.size; omega) (by omega) s hs1 hs2 gg gb hh hv HBD.out.1.1 HBD.out.1.2 HBD.out.2.1.1 HBD.out.2.1.2 HBD.out.2.2.1 HBD.out.2.2.2 (by omega)
              have hok5 := swM_ok hok4 s gg gb hh hv
              have hw5 := (swM_len D1 s gg gb hh hv).2
              have hK := swK_le D1 s gg gb hh hv
              obtain ⟨D2, hD2⟩ : ∃ D2, D2 = swM D1 s gg gb hh hv := ⟨_, rfl⟩
              obtain ⟨K, hKe⟩ : ∃ K, K = swK D1 s gg gb hh hv := ⟨_, rfl⟩
              rw [← hD2, ← hKe] at hSW
              simp only [← hD2, ← hKe] at HRW
              rw [← hD2] at hok5 hw5
              rw [← hKe] at hK
              have HOK5 : Hid (D2.Ok ∧ D2.writes ≤ 40 + (k + 1)) := ⟨hok5, by omega⟩
              have HSW := Lib.hid hSW
              have HB4 : Hid (∀ W, Grew [g, gd, gm, h] W4 W → Below w1.heap.size w1 W) := fun W hW => hW.below hbe4 (by intro i hi; have := HGP.out; simp at hi; omega) hbe4.size
              have HC4 : Hid (∀ W, Grew [g, gd, gm, h] W4 W → CellsAt W P 140 #[.int .i64 s, .int .i64 pf, .int .u32 gg, .int .u32 gb, .int .i64 hh, .int .i64 hv, .bool pc, .slice va bs.length vc]) := fun W hW => hcP4.grew hW HNP.out
              have HN : Hid (∀ W, Grew [g, gd, gm, h] W4 W → Calls Tryd.prog 19 #[EV ea K] W fun e w' => e = .returned (.int .i64 K) ∧ Below W.heap.size W w') := fun W hW => num_any ea K hK W (HEE.out W (HB4.out W hW))
              have HS : Hid (∀ W, Grew [g, gd, gm, h] W4 W → Grew [g, gd, gm, h] W4 W ∧ W.cell? ⟨P, 0, none⟩ = some (.int .i64 s) ∧ W.cell? ⟨P, 2, none⟩ = some (.int .u32 gg) ∧ W.cell? ⟨P, 3, none⟩ = some (.int .u32 gb) ∧ W.cell? ⟨P, 4, none⟩ = some (.int .i64 hh) ∧ W.cell? ⟨P, 5, none⟩ = some (.int .i64 hv)) := fun W hW =>
                have hx := HC4.out W hW
                ⟨hW, hx.cell 0 (v := .int .i64 s) rfl, hx.cell 2 (v := .int .u32 gg) rfl, hx.cell 3 (v := .int .u32 gb) rfl, hx.cell 4 (v := .int .i64 hh) rfl, hx.cell 5 (v := .int .i64 hv) rfl⟩
              have hG40 : Grew [g, gd, gm, h] W4 W4 := Grew.refl _ _
              have hG4d : Grew [g, gd, gm, h] W4 W4.drew := hG40.drew
              have hQ4d : Grew [g, gd, gm] W4 W4.drew := (Grew.refl _ _).drew
              have bK : ((K : Int) == K) = true := by simp
              have bK' : ((K : Int) != K) = false := by simp
              clear hk4 hr4 hok4 hw4 hdr hbe4d hSW hcP4 hok5 hw5 hK hD2 hKe hbe4 hDw
              go_region_held3 (fun w' => Grew [g, gd, gm, h] W4 w' ∧ w'.cell? ⟨P, 0, none⟩ = some (.int .i64 s) ∧ w'.cell? ⟨P, 2, none⟩ = some (.int .u32 gg) ∧ w'.cell? ⟨P, 3, none⟩ = some (.int .u32 gb) ∧ w'.cell? ⟨P, 4, none⟩ = some (.int .i64 hh) ∧ w'.cell? ⟨P, 5, none⟩ = some (.int .i64 hv))
                (exact HS.out _ (by assumption))
                ((first
                  | (go_at_call 54; (with_reducible refine HSW.out.mono ?_); rintro e w5 ⟨rfl, hk5, hg5⟩; have hQ5 := hQ4d.trans hg5; have hG5 := hG4d.trans (hg5.mono (by simp)))
                  | (go_at_call 19; (with_reducible refine (HN.out _ (by assumption)).mono ?_); rintro e w6 ⟨rfl, hb6⟩; have hQ6 := hQ5.add hb6; have hG6 := hG5.add hb6)
                  | (go_at_call 68; (with_reducible refine (HRW.out _ (by assumption)).mono ?_); rintro e w7 ⟨rfl, hr7, hg7⟩; have hG7 := hG6.trans (hg7.mono (by simp)))))
              have hk6 := hk5.stays hb6
              have hk7 := hk6.past (HR4.out _ hQ6) hg7
              have hbe7 := HB4.out w7 hG7
              have hcP7 := HC4.out w7 hG7
              have p70 := hcP7.cell 0 (v := .int .i64 s) rfl
              have p76 := hcP7.cell 6 (v := .bool pc) rfl
              have p77 := hcP7.cell 7 (v := .slice va bs.length vc) rfl
              have HBE7 := Lib.hid hbe7
              have HK7 := Lib.hid hk7
              have HR7 := Lib.hid hr7
              have HG7 := Lib.hid hG7
              clear hk5 hg5 hQ5 hG5 hb6 hQ6 hG6 hr7 hg7 hk6 hk7 hbe7 hcP7 hG40 hG4d hQ4d HSW HN HS HRW HR4 HK4 hG7
              cases pc with
              | true =>
                obtain ⟨W7, hW7⟩ : ∃ W, W = w7.alloc (.cells #[.int .i64 s, .slice va bs.length vc] 109) := ⟨_, rfl⟩
                have hbA7 : Below w7.heap.size w7 W7 := by rw [hW7]; exact (Below.refl _ _).alloc (Nat.le_refl _) _
                have hcT : CellsAt W7 w7.heap.size 109 #[.int .i64 s, .slice va bs.length vc] := by rw [hW7]; exact CellsAt.new w7 _ _
                have hk7 := HK7.out
                have hbeA := HBE7.out.trans (hbA7.mono HBE7.out.size)
                have hltk := hk7.lt
                have hC := crash_any (hk7.stays hbA7) (.slice none 0 0) [] (.slice (some ⟨w7.heap.size, 0, none⟩) 1 1) [⟨s, .slice va bs.length vc, bs⟩] (fun W hW => by
                  refine ⟨.inl ⟨rfl, rfl, none, 0, rfl⟩, ?_, fun t ht => ?_⟩
                  · exact rowS_one (w := W) (hcT.grew hW (by simp; omega)) rfl
                  · obtain rfl : t = ⟨s, .slice va bs.length vc, bs⟩ := by simpa using ht
                    exact HROW.out W (hW.below hbeA (by intro i hi; have := HGP.out; simp at hi; omega) hbeA.size)) (fun k hk => by cases hk) (fun t ht => by
                  obtain rfl : t = ⟨s, .slice va bs.length vc, bs⟩ := by simpa using ht
                  refine ⟨⟨hs1, hs2⟩, ?_⟩
                  show bs.length ≤ 1000000
                  omega)
                have hr7 := HR7.out.stays hbA7
                have hkk7 := hk7.stays hbA7
                have HCK : Hid (∀ W, Grew [g, gd, gm] W7 W → Rd2 W w1.heap.size h (100 + 2 * k + 1) D2) := fun W hW => hr7.past hkk7 hW
                have hG77 := HG7.out.add hbA7
                rw [hW7] at hC
                have HC := Lib.hid hC
                have HW7 := Lib.hid hW7
                have HG77 := Lib.hid hG77
                have HBA := Lib.hid hbeA
                clear hW7 hbA7 hcT hk7 hbeA hltk hC hr7 hkk7 hG77
                go_wp2_with fail
                refine HC.out.mono ?_
                rintro e w8 ⟨rfl, hk8, hg8⟩
                rw [← HW7.out] at hg8
                have hr8 := HCK.out w8 hg8
                replace hk8 : Dk w8 g gd gm (crashM D2 [] [(s, bs)]) := hk8
                have hG8 := HG77.out.trans (hg8.mono (by simp))
                have hbe8 := HB4.out w8 hG8
                have hcP8 := HC4.out w8 hG8
                have p80 := hcP8.cell 0 (v := .int .i64 s) rfl
                have p87 := hcP8.cell 7 (v := .slice va bs.length vc) rfl
                have s8 := convert_str (HROW.out w8 hbe8)
                obtain ⟨W8, hW8⟩ : ∃ W, W = w8.alloc (.cells #[.int .i64 s, .string (strB bs)] 144) := ⟨_, rfl⟩
                have hbA8 : Below w8.heap.size w8 W8 := by rw [hW8]; exact (Below.refl _ _).alloc (Nat.le_refl _) _
                have hcU : CellsAt W8 w8.heap.size 144 #[.int .i64 s, .string (strB bs)] := by rw [hW8]; exact CellsAt.new w8 _ _
                have hbeB := hbe8.trans (hbA8.mono hbe8.size)
                have hRC := rcrash_any (N' := 100 + 2 * (k + 1)) (hr8.stays hbA8) HOK5.out.1 hbeB.size (.slice none 0 0) [] (.inl ⟨rfl, rfl, none, 0, rfl⟩) (.slice (some ⟨w8.heap.size, 0, none⟩) 1 1) [(s, bs)] (rowS_one (w := W8) hcU rfl) (fun k hk => by cases hk) (fun t ht => by
                  obtain rfl : t = (s, bs) := by simpa using ht
                  refine ⟨⟨hs1, hs2⟩, ?_⟩
                  show bs.length ≤ 1000000
                  omega) (by simp; omega) (by omega)
                have hrr8 := hr8.stays hbA8
                have HK8 : Hid (∀ W, Grew [h] W8 W → Dk W g gd gm (crashM D2 [] [(s, bs)])) := fun W hW => (hk8.stays hbA8).past hrr8 hW
                have HB8 : Hid (∀ W, Grew [h] W8 W → Below w1.heap.size w1 W) := fun W hW => hW.below hbeB (by intro i hi; have := HGP.out; simp at hi; omega) hbeB.size
                rw [hW8] at hRC
                have HRC := Lib.hid hRC
                have HW8 := Lib.hid hW8
                clear hW8 hbA8 hcU hbeB hRC hrr8 hr8 hk8 hg8 hG8 hbe8 hcP8 HC HW7 HG77 HBA HCK p70 p76 p77 HK7 HR7 HG7 HBE7
                go_wp2_with fail
                refine HRC.out.mono ?_
                rintro e w9 ⟨rfl, hr9, hg9⟩
                rw [← HW8.out] at hg9
                have hk9 := HK8.out w9 hg9
                have hbe9 := HB8.out w9 hg9
                have HW9 : Hid ((crashM D2 [] [(s, bs)]).writes ≤ 40 + (k + 1)) := HOK5.out.2
                generalize crashM D2 [] [(s, bs)] = D3 at hk9 hr9 HW9
                clear HK8 HB8 HRC HW8 hg9 p80 p87 s8 HB4 HC4
                have hCh := schoose_any ea hk9 (fun W hW => (HEE.out W (hbe9.trans (hW.mono hbe9.size))).sup)
                have hRCh := fun (W : World) (hW : Below w9.heap.size w9 W) => rschoose_any (hr9.stays hW) hk9.ok
                unfold Chose blkV at hCh
                unfold RChose rblkV at hRCh
                have hKL := chK_le D3
                obtain ⟨b4, h4⟩ : ∃ n, n = chB D3 4 := ⟨_, rfl⟩
                obtain ⟨b8, h8⟩ : ∃ n, n = chB D3 8 := ⟨_, rfl⟩
                obtain ⟨b12, h12⟩ : ∃ n, n = chB D3 12 := ⟨_, rfl⟩
                obtain ⟨b16, h16⟩ : ∃ n, n = chB D3 16 := ⟨_, rfl⟩
                obtain ⟨cs, hcs⟩ : ∃ n, n = chS D3 := ⟨_, rfl⟩
                obtain ⟨ck, hck⟩ : ∃ n, n = chK D3 := ⟨_, rfl⟩
                rw [← h4, ← h8, ← h12, ← h16, ← hcs, ← hck] at hCh
                simp only [← h4, ← h8, ← h12, ← h16, ← hcs, ← hck] at hRCh
                rw [← hck] at hKL
                have HCH := Lib.hid hCh
                have HRCH := Lib.hid hRCh
                have HNK : Hid (∀ W, Below w1.heap.size w1 W → Calls Tryd.prog 19 #[EV ea ck] W fun e w' => e = .returned (.int .i64 ck) ∧ Below W.heap.size W w') := fun W hW => num_any ea ck hKL W (HEE.out W hW)
                have HK9 := Lib.hid hk9
                have HR9 := Lib.hid hr9
                have HBE9 := Lib.hid hbe9
                have e4 : ((b4 : Int) == b4) = true := by simp
                have e8 : ((b8 : Int) == b8) = true := by simp
                have e12 : ((b12 : Int) == b12) = true := by simp
                have e16 : ((b16 : Int) == b16) = true := by simp
                have ecs : (cs == cs) = true := by simp
                have ecs' : (cs != cs) = false := by simp
                have eck : ((ck : Int) == ck) = true := by simp
                have eck' : ((ck : Int) != ck) = false := by simp
                clear hCh hRCh hKL h4 h8 h12 h16 hcs hck hk9 hr9 hbe9
                go_wp2_with fail
                refine HCH.out.mono ?_
                rintro e wa ⟨rfl, hba⟩
                obtain ⟨Wa, hWa⟩ : ∃ W, W = wa.alloc (.cells #[.int .u32 b4, .int .u32 b8, .int .i64 b12, .int .i64 b16] 51) := ⟨_, rfl⟩
                have hbAa : Below wa.heap.size wa Wa := by rw [hWa]; exact (Below.refl _ _).alloc (Nat.le_refl _) _
                have hcA : CellsAt Wa wa.heap.size 51 #[.int .u32 b4, .int .u32 b8, .int .i64 b12, .int .i64 b16] := by rw [hWa]; exact CellsAt.new wa _ _
                have hba' := hba.trans (hbAa.mono hba.size)
                have hR := HRCH.out Wa hba'
                rw [hWa] at hR
                have HR := Lib.hid hR
                have HWa := Lib.hid hWa
                clear hba hWa hbAa hR HCH HRCH
                go_wp2_with fail
                refine HR.out.mono ?_
                rintro e wb ⟨rfl, hbb⟩
                rw [← HWa.out] at hbb
                have hcB := hcA.stays hbb
                have hbb' := hba'.trans (hbb.mono hba'.size)
                have a0 := hcB.cell 0 (v := .int .u32 b4) rfl
                have a1 := hcB.cell 1 (v := .int .u32 b8) rfl
                have a2 := hcB.cell 2 (v := .int .i64 b12) rfl
                have a3 := hcB.cell 3 (v := .int .i64 b16) rfl
                have hltB := hcB.lt
                have hbeb := HBE9.out.trans (hbb'.mono HBE9.out.size)
                have HBB := Lib.hid hbb'
                have HBEB := Lib.hid hbeb
                clear hba' hcA hbb hcB hbb' HR HWa hbeb
                go_wp2_with fail
                refine (HNK.out _ (HBEB.out.alloc HBEB.out.size _)).mono ?_
                rintro e wc ⟨rfl, hbc⟩
                have hbA : Below w9.heap.size w9 wc := (HBB.out.alloc HBB.out.size _).trans (hbc.mono (by have := HBB.out.size; simp; omega))
                have hkc := HK9.out.stays hbA
                have hrc := HR9.out.stays hbA
                have hbec := HBE9.out.trans (hbA.mono HBE9.out.size)
                clear a0 a1 a2 a3 hltB hbc hbA HNK
                go_wp2_with fail
                go_roundw
                case rel => exact ⟨k + 1, _, by omega, by go_num, hkc, hrc, HW9.out, hbec⟩
                case measure => simp [intOf]; omega
              | false =>
                have hk9 := HK7.out
                have hr9 := HR7.out.mono (N' := 100 + 2 * (k + 1)) (by omega) (by omega)
                have hbe9 := HBE7.out
                have HW9 : Hid (D2.writes ≤ 40 + (k + 1)) := HOK5.out.2
                obtain ⟨D3, w9, hk9, hr9, hbe9, HW9, e3, e9⟩ : ∃ (D3 : Dm) (w9 : World), Dk w9 g gd gm D3 ∧ Rd2 w9 w1.heap.size h (100 + 2 * (k + 1)) D3 ∧ Below w1.heap.size w1 w9 ∧ Hid (D3.writes ≤ 40 + (k + 1)) ∧ D3 = D2 ∧ w9 = w7 := ⟨_, _, hk9, hr9, hbe9, HW9, rfl, rfl⟩
                subst e3 e9
                clear HK7 HR7 HG7 HBE7 HB4 HC4 p70 p77
                have hCh := schoose_any ea hk9 (fun W hW => (HEE.out W (hbe9.trans (hW.mono hbe9.size))).sup)
                have hRCh := fun (W : World) (hW : Below w9.heap.size w9 W) => rschoose_any (hr9.stays hW) hk9.ok
                unfold Chose blkV at hCh
                unfold RChose rblkV at hRCh
                have hKL := chK_le D3
                obtain ⟨b4, h4⟩ : ∃ n, n = chB D3 4 := ⟨_, rfl⟩
                obtain ⟨b8, h8⟩ : ∃ n, n = chB D3 8 := ⟨_, rfl⟩
                obtain ⟨b12, h12⟩ : ∃ n, n = chB D3 12 := ⟨_, rfl⟩
                obtain ⟨b16, h16⟩ : ∃ n, n = chB D3 16 := ⟨_, rfl⟩
                obtain ⟨cs, hcs⟩ : ∃ n, n = chS D3 := ⟨_, rfl⟩
                obtain ⟨ck, hck⟩ : ∃ n, n = chK D3 := ⟨_, rfl⟩
                rw [← h4, ← h8, ← h12, ← h16, ← hcs, ← hck] at hCh
                simp only [← h4, ← h8, ← h12, ← h16, ← hcs, ← hck] at hRCh
                rw [← hck] at hKL
                have HCH := Lib.hid hCh
                have HRCH := Lib.hid hRCh
                have HNK : Hid (∀ W, Below w1.heap.size w1 W → Calls Tryd.prog 19 #[EV ea ck] W fun e w' => e = .returned (.int .i64 ck) ∧ Below W.heap.size W w') := fun W hW => num_any ea ck hKL W (HEE.out W hW)
                have HK9 := Lib.hid hk9
                have HR9 := Lib.hid hr9
                have HBE9 := Lib.hid hbe9
                have e4 : ((b4 : Int) == b4) = true := by simp
                have e8 : ((b8 : Int) == b8) = true := by simp
                have e12 : ((b12 : Int) == b12) = true := by simp
                have e16 : ((b16 : Int) == b16) = true := by simp
                have ecs : (cs == cs) = true := by simp
                have ecs' : (cs != cs) = false := by simp
                have eck : ((ck : Int) == ck) = true := by simp
                have eck' : ((ck : Int) != ck) = false := by simp
                clear hCh hRCh hKL h4 h8 h12 h16 hcs hck hk9 hr9 hbe9
                go_wp2_with fail
                refine HCH.out.mono ?_
                rintro e wa ⟨rfl, hba⟩
                obtain ⟨Wa, hWa⟩ : ∃ W, W = wa.alloc (.cells #[.int .u32 b4, .int .u32 b8, .int .i64 b12, .int .i64 b16] 51) := ⟨_, rfl⟩
                have hbAa : Below wa.heap.size wa Wa := by rw [hWa]; exact (Below.refl _ _).alloc (Nat.le_refl _) _
                have hcA : CellsAt Wa wa.heap.size 51 #[.int .u32 b4, .int .u32 b8, .int .i64 b12, .int .i64 b16] := by rw [hWa]; exact CellsAt.new wa _ _
                have hba' := hba.trans (hbAa.mono hba.size)
                have hR := HRCH.out Wa hba'
                rw [hWa] at hR
                have HR := Lib.hid hR
                have HWa := Lib.hid hWa
                clear hba hWa hbAa hR HCH HRCH
                go_wp2_with fail
                refine HR.out.mono ?_
                rintro e wb ⟨rfl, hbb⟩
                rw [← HWa.out] at hbb
                have hcB := hcA.stays hbb
                have hbb' := hba'.trans (hbb.mono hba'.size)
                have a0 := hcB.cell 0 (v := .int .u32 b4) rfl
                have a1 := hcB.cell 1 (v := .int .u32 b8) rfl
                have a2 := hcB.cell 2 (v := .int .i64 b12) rfl
                have a3 := hcB.cell 3 (v := .int .i64 b16) rfl
                have hltB := hcB.lt
                have hbeb := HBE9.out.trans (hbb'.mono HBE9.out.size)
                have HBB := Lib.hid hbb'
                have HBEB := Lib.hid hbeb
                clear hba' hcA hbb hcB hbb' HR HWa hbeb
                go_wp2_with fail
                refine (HNK.out _ (HBEB.out.alloc HBEB.out.size _)).mono ?_
                rintro e wc ⟨rfl, hbc⟩
                have hbA : Below w9.heap.size w9 wc := (HBB.out.alloc HBB.out.size _).trans (hbc.mono (by have := HBB.out.size; simp; omega))
                have hkc := HK9.out.stays hbA
                have hrc := HR9.out.stays hbA
                have hbec := HBE9.out.trans (hbA.mono HBE9.out.size)
                clear a0 a1 a2 a3 hltB hbc hbA HNK
                go_wp2_with fail
                go_roundw
                case rel => exact ⟨k + 1, _, by omega, by go_num, hkc, hrc, HW9.out, hbec⟩
                case measure => simp [intOf]; omega
            · by_cases hpf2 : pf < -1
              · have hmax : max pf (-1) = -1 := by omega
                have HMX := Lib.hid hmax
                clear hfv HFV hmax
                go_wp2_with fail
                have hmax := HMX.out
                refine HF.out.mono ?_
                rintro e w3 ⟨rfl, hk3, hg3⟩
                rw [← HW1.out] at hg3
                rw [← HP.out]
                have hG3 := Grew.ofGrown hg3
                have hr3 := HR1.out.past HK1.out (hG3.mono (by simp))
                have hbe3 : Below w1.heap.size w1 w3 := hG3.below HBE1.out (by simp; exact HGP.out.1) HBE1.out.size
                have hcP3 := HCP.out.grew hG3 (by have := HNP.out; simp at this ⊢; omega)
                obtain ⟨c33, f33⟩ := hr3.c3
                have hG4 : Grew [h] w3 (w3.setCell ⟨h, 3, none⟩ (.int .i64 (-1))) := (Grew.refl [h] w3).setCell (p := ⟨h, 3, none⟩) (.inl (by simp)) _
                have hr4 := hr3.setFuse pf
                rw [hmax] at hr4
                clear hmax
                have hk4 := hk3.past hr3 hG4
                have hbe4 := hG4.below hbe3 (by simp; exact HGP.out.2.2.2) hbe3.size
                have p31 := hcP3.cell 1 (v := .int .i64 pf) rfl
                have hcP4 := hcP3.grew hG4 (by have := HNP.out; simp at this ⊢; omega)
                obtain ⟨W4, hW4⟩ : ∃ W, W = w3.setCell ⟨h, 3, none⟩ (.int .i64 (-1)) := ⟨_, rfl⟩
                have HW4 := Lib.hid hW4
                rw [← hW4] at hr4 hk4 hbe4 hcP4
                clear hW4 hG4 hr3 hk3 hbe3 hcP3 hg3 hG3 HF HR1 HK1 HBE1 HCP
                go_upto_region 13 with (fail)
                rw [← HW4.out]
                clear HW4 c33 f33 p31
                have hok4 := hk4.ok
                have hw4 : (fuseM D pf).writes ≤ 40 + k := by rw [fuseM_writes]; exact hDw
                generalize fuseM D pf = D1 at hk4 hr4 hok4 hw4
                have hdr : Below W4.heap.size W4 W4.drew := (Below.refl _ _).drew
                have hbe4d := hbe4.trans (hdr.mono hbe4.size)
                have hSW := swrite_any ea (hk4.stays hdr) s hs1 hs2 gg gb hh hv HBD.out.1.1 HBD.out.1.2 HBD.out.2.1.1 HBD.out.2.1.2 HBD.out.2.2.1 HBD.out.2.2.2 (by omega) (fun W hW => (HEE.out W (hW.below hbe4d (by intro i hi; have := HGP.out; simp at hi; omega) hbe4d.size)).sup)
                have HR4 : Hid (∀ W, Grew [g, gd, gm] W4 W → Rd2 W w1.heap.size h (100 + 2 * k) D1) := fun W hW => hr4.past hk4 hW
                have HK4 := Lib.hid hk4
                have HRW : Hid (∀ W, Grew [g, gd, gm] W4 W → Calls Tryd.prog 68 #[.pointer (some ⟨h, 0, none⟩), .int .i64 s, .agg #[.int .u32 gg, .int .u32 gb, .int .i64 hh, .int .i64 hv]] W fun e w' => e = .returned (.int .i64 (swK D1 s gg gb hh hv)) ∧ Rd2 w' w1.heap.size h (100 + 2 * k + 1) (swM D1 s gg gb hh hv) ∧ Grew [h] W w') := fun W hW =>
                  rswrite_any (HR4.out W hW) hok4 (by have := hbe4.size; have := hW.size; omega) (by omega) s hs1 hs2 gg gb hh hv HBD.out.1.1 HBD.out.1.2 HBD.out.2.1.1 HBD.out.2.1.2 HBD.out.2.2.1 HBD.out.2.2.2 (by omega)
                have hok5 := swM_ok hok4 s gg gb hh hv
                have hw5 := (swM_len D1 s gg gb hh hv).2
                have hK := swK_le D1 s gg gb hh hv
                obtain ⟨D2, hD2⟩ : ∃ D2, D2 = swM D1 s gg gb hh hv := ⟨_, rfl⟩
                obtain ⟨K, hKe⟩ : ∃ K, K = swK D1 s gg gb hh hv := ⟨_, rfl⟩
                rw [← hD2, ← hKe] at hSW
                simp only [← hD2, ← hKe] at HRW
                rw [← hD2] at hok5 hw5
                rw [← hKe] at hK
                have HOK5 : Hid (D2.Ok ∧ D2.writes ≤ 40 + (k + 1)) := ⟨hok5, by omega⟩
                have HSW := Lib.hid hSW
                have HB4 : Hid (∀ W, Grew [g, gd, gm, h] W4 W → Below w1.heap.size w1 W) := fun W hW => hW.below hbe4 (by intro i hi; have := HGP.out; simp at hi; omega) hbe4.size
                have HC4 : Hid (∀ W, Grew [g, gd, gm, h] W4 W → CellsAt W P 140 #[.int .i64 s, .int .i64 pf, .int .u32 gg, .int .u32 gb, .int .i64 hh, .int .i64 hv, .bool pc, .slice va bs.length vc]) := fun W hW => hcP4.grew hW HNP.out
                have HN : Hid (∀ W, Grew [g, gd, gm, h] W4 W → Calls Tryd.prog 19 #[EV ea K] W fun e w' => e = .returned (.int .i64 K) ∧ Below W.heap.size W w') := fun W hW => num_any ea K hK W (HEE.out W (HB4.out W hW))
                have HS : Hid (∀ W, Grew [g, gd, gm, h] W4 W → Grew [g, gd, gm, h] W4 W ∧ W.cell? ⟨P, 0, none⟩ = some (.int .i64 s) ∧ W.cell? ⟨P, 2, none⟩ = some (.int .u32 gg) ∧ W.cell? ⟨P, 3, none⟩ = some (.int .u32 gb) ∧ W.cell? ⟨P, 4, none⟩ = some (.int .i64 hh) ∧ W.cell? ⟨P, 5, none⟩ = some (.int .i64 hv)) := fun W hW =>
                  have hx := HC4.out W hW
                  ⟨hW, hx.cell 0 (v := .int .i64 s) rfl, hx.cell 2 (v := .int .u32 gg) rfl, hx.cell 3 (v := .int .u32 gb) rfl, hx.cell 4 (v := .int .i64 hh) rfl, hx.cell 5 (v := .int .i64 hv) rfl⟩
                have hG40 : Grew [g, gd, gm, h] W4 W4 := Grew.refl _ _
                have hG4d : Grew [g, gd, gm, h] W4 W4.drew := hG40.drew
                have hQ4d : Grew [g, gd, gm] W4 W4.drew := (Grew.refl _ _).drew
                have bK : ((K : Int) == K) = true := by simp
                have bK' : ((K : Int) != K) = false := by simp
                clear hk4 hr4 hok4 hw4 hdr hbe4d hSW hcP4 hok5 hw5 hK hD2 hKe hbe4 hDw
                go_region_held3 (fun w' => Grew [g, gd, gm, h] W4 w' ∧ w'.cell? ⟨P, 0, none⟩ = some (.int .i64 s) ∧ w'.cell? ⟨P, 2, none⟩ = some (.int .u32 gg) ∧ w'.cell? ⟨P, 3, none⟩ = some (.int .u32 gb) ∧ w'.cell? ⟨P, 4, none⟩ = some (.int .i64 hh) ∧ w'.cell? ⟨P, 5, none⟩ = some (.int .i64 hv))
                  (exact HS.out _ (by assumption))
                  ((first
                    | (go_at_call 54; (with_reducible refine HSW.out.mono ?_); rintro e w5 ⟨rfl, hk5, hg5⟩; have hQ5 := hQ4d.trans hg5; have hG5 := hG4d.trans (hg5.mono (by simp)))
                    | (go_at_call 19; (with_reducible refine (HN.out _ (by assumption)).mono ?_); rintro e w6 ⟨rfl, hb6⟩; have hQ6 := hQ5.add hb6; have hG6 := hG5.add hb6)
                    | (go_at_call 68; (with_reducible refine (HRW.out _ (by assumption)).mono ?_); rintro e w7 ⟨rfl, hr7, hg7⟩; have hG7 := hG6.trans (hg7.mono (by simp)))))
                have hk6 := hk5.stays hb6
                have hk7 := hk6.past (HR4.out _ hQ6) hg7
                have hbe7 := HB4.out w7 hG7
                have hcP7 := HC4.out w7 hG7
                have p70 := hcP7.cell 0 (v := .int .i64 s) rfl
                have p76 := hcP7.cell 6 (v := .bool pc) rfl
                have p77 := hcP7.cell 7 (v := .slice va bs.length vc) rfl
                have HBE7 := Lib.hid hbe7
                have HK7 := Lib.hid hk7
                have HR7 := Lib.hid hr7
                have HG7 := Lib.hid hG7
                clear hk5 hg5 hQ5 hG5 hb6 hQ6 hG6 hr7 hg7 hk6 hk7 hbe7 hcP7 hG40 hG4d hQ4d HSW HN HS HRW HR4 HK4 hG7
                cases pc with
                | true =>
                  obtain ⟨W7, hW7⟩ : ∃ W, W = w7.alloc (.cells #[.int .i64 s, .slice va bs.length vc] 109) := ⟨_, rfl⟩
                  have hbA7 : Below w7.heap.size w7 W7 := by rw [hW7]; exact (Below.refl _ _).alloc (Nat.le_refl _) _
                  have hcT : CellsAt W7 w7.heap.size 109 #[.int .i64 s, .slice va bs.length vc] := by rw [hW7]; exact CellsAt.new w7 _ _
                  have hk7 := HK7.out
                  have hbeA := HBE7.out.trans (hbA7.mono HBE7.out.size)
                  have hltk := hk7.lt
                  have hC := crash_any (hk7.stays hbA7) (.slice none 0 0) [] (.slice (some ⟨w7.heap.size, 0, none⟩) 1 1) [⟨s, .slice va bs.length vc, bs⟩] (fun W hW => by
                    refine ⟨.inl ⟨rfl, rfl, none, 0, rfl⟩, ?_, fun t ht => ?_⟩
                    · exact rowS_one (w := W) (hcT.grew hW (by simp; omega)) rfl
                    · obtain rfl : t = ⟨s, .slice va bs.length vc, bs⟩ := by simpa using ht
                      exact HROW.out W (hW.below hbeA (by intro i hi; have := HGP.out; simp at hi; omega) hbeA.size)) (fun k hk => by cases hk) (fun t ht => by
                    obtain rfl : t = ⟨s, .slice va bs.length vc, bs⟩ := by simpa using ht
                    refine ⟨⟨hs1, hs2⟩, ?_⟩
                    show bs.length ≤ 1000000
                    omega)
                  have hr7 := HR7.out.stays hbA7
                  have hkk7 := hk7.stays hbA7
                  have HCK : Hid (∀ W, Grew [g, gd, gm] W7 W → Rd2 W w1.heap.size h (100 + 2 * k + 1) D2) := fun W hW => hr7.past hkk7 hW
                  have hG77 := HG7.out.add hbA7
                  rw [hW7] at hC
                  have HC := Lib.hid hC
                  have HW7 := Lib.hid hW7
                  have HG77 := Lib.hid hG77
                  have HBA := Lib.hid hbeA
                  clear hW7 hbA7 hcT hk7 hbeA hltk hC hr7 hkk7 hG77
                  go_wp2_with fail
                  refine HC.out.mono ?_
                  rintro e w8 ⟨rfl, hk8, hg8⟩
                  rw [← HW7.out] at hg8
                  have hr8 := HCK.out w8 hg8
                  replace hk8 : Dk w8 g gd gm (crashM D2 [] [(s, bs)]) := hk8
                  have hG8 := HG77.out.trans (hg8.mono (by simp))
                  have hbe8 := HB4.out w8 hG8
                  have hcP8 := HC4.out w8 hG8
                  have p80 := hcP8.cell 0 (v := .int .i64 s) rfl
                  have p87 := hcP8.cell 7 (v := .slice va bs.length vc) rfl
                  have s8 := convert_str (HROW.out w8 hbe8)
                  obtain ⟨W8, hW8⟩ : ∃ W, W = w8.alloc (.cells #[.int .i64 s, .string (strB bs)] 144) := ⟨_, rfl⟩
                  have hbA8 : Below w8.heap.size w8 W8 := by rw [hW8]; exact (Below.refl _ _).alloc (Nat.le_refl _) _
                  have hcU : CellsAt W8 w8.heap.size 144 #[.int .i64 s, .string (strB bs)] := by rw [hW8]; exact CellsAt.new w8 _ _
                  have hbeB := hbe8.trans (hbA8.mono hbe8.size)
                  have hRC := rcrash_any (N' := 100 + 2 * (k + 1)) (hr8.stays hbA8) HOK5.out.1 hbeB.size (.slice none 0 0) [] (.inl ⟨rfl, rfl, none, 0, rfl⟩) (.slice (some ⟨w8.heap.size, 0, none⟩) 1 1) [(s, bs)] (rowS_one (w := W8) hcU rfl) (fun k hk => by cases hk) (fun t ht => by
                    obtain rfl : t = (s, bs) := by simpa using ht
                    refine ⟨⟨hs1, hs2⟩, ?_⟩
                    show bs.length ≤ 1000000
                    omega) (by simp; omega) (by omega)
                  have hrr8 := hr8.stays hbA8
                  have HK8 : Hid (∀ W, Grew [h] W8 W → Dk W g gd gm (crashM D2 [] [(s, bs)])) := fun W hW => (hk8.stays hbA8).past hrr8 hW
                  have HB8 : Hid (∀ W, Grew [h] W8 W → Below w1.heap.size w1 W) := fun W hW => hW.below hbeB (by intro i hi; have := HGP.out; simp at hi; omega) hbeB.size
                  rw [hW8] at hRC
                  have HRC := Lib.hid hRC
                  have HW8 := Lib.hid hW8
                  clear hW8 hbA8 hcU hbeB hRC hrr8 hr8 hk8 hg8 hG8 hbe8 hcP8 HC HW7 HG77 HBA HCK p70 p76 p77 HK7 HR7 HG7 HBE7
                  go_wp2_with fail
                  refine HRC.out.mono ?_
                  rintro e w9 ⟨rfl, hr9, hg9⟩
                  rw [← HW8.out] at hg9
                  have hk9 := HK8.out w9 hg9
                  have hbe9 := HB8.out w9 hg9
                  have HW9 : Hid ((crashM D2 [] [(s, bs)]).writes ≤ 40 + (k + 1)) := HOK5.out.2
                  generalize crashM D2 [] [(s, bs)] = D3 at hk9 hr9 HW9
                  clear HK8 HB8 HRC HW8 hg9 p80 p87 s8 HB4 HC4
                  have hCh := schoose_any ea hk9 (fun W hW => (HEE.out W (hbe9.trans (hW.mono hbe9.size))).sup)
                  have hRCh := fun (W : World) (hW : Below w9.heap.size w9 W) => rschoose_any (hr9.stays hW) hk9.ok
                  unfold Chose blkV at hCh
                  unfold RChose rblkV at hRCh
                  have hKL := chK_le D3
                  obtain ⟨b4, h4⟩ : ∃ n, n = chB D3 4 := ⟨_, rfl⟩
                  obtain ⟨b8, h8⟩ : ∃ n, n = chB D3 8 := ⟨_, rfl⟩
                  obtain ⟨b12, h12⟩ : ∃ n, n = chB D3 12 := ⟨_, rfl⟩
                  obtain ⟨b16, h16⟩ : ∃ n, n = chB D3 16 := ⟨_, rfl⟩
                  obtain ⟨cs, hcs⟩ : ∃ n, n = chS D3 := ⟨_, rfl⟩
                  obtain ⟨ck, hck⟩ : ∃ n, n = chK D3 := ⟨_, rfl⟩
                  rw [← h4, ← h8, ← h12, ← h16, ← hcs, ← hck] at hCh
                  simp only [← h4, ← h8, ← h12, ← h16, ← hcs, ← hck] at hRCh
                  rw [← hck] at hKL
                  have HCH := Lib.hid hCh
                  have HRCH := Lib.hid hRCh
                  have HNK : Hid (∀ W, Below w1.heap.size w1 W → Calls Tryd.prog 19 #[EV ea ck] W fun e w' => e = .returned (.int .i64 ck) ∧ Below W.heap.size W w') := fun W hW => num_any ea ck hKL W (HEE.out W hW)
                  have HK9 := Lib.hid hk9
                  have HR9 := Lib.hid hr9
                  have HBE9 := Lib.hid hbe9
                  have e4 : ((b4 : Int) == b4) = true := by simp
                  have e8 : ((b8 : Int) == b8) = true := by simp
                  have e12 : ((b12 : Int) == b12) = true := by simp
                  have e16 : ((b16 : Int) == b16) = true := by simp
                  have ecs : (cs == cs) = true := by simp
                  have ecs' : (cs != cs) = false := by simp
                  have eck : ((ck : Int) == ck) = true := by simp
                  have eck' : ((ck : Int) != ck) = false := by simp
                  clear hCh hRCh hKL h4 h8 h12 h16 hcs hck hk9 hr9 hbe9
                  go_wp2_with fail
                  refine HCH.out.mono ?_
                  rintro e wa ⟨rfl, hba⟩
                  obtain ⟨Wa, hWa⟩ : ∃ W, W = wa.alloc (.cells #[.int .u32 b4, .int .u32 b8, .int .i64 b12, .int .i64 b16] 51) := ⟨_, rfl⟩
                  have hbAa : Below wa.heap.size wa Wa := by rw [hWa]; exact (Below.refl _ _).alloc (Nat.le_refl _) _
                  have hcA : CellsAt Wa wa.heap.size 51 #[.int .u32 b4, .int .u32 b8, .int .i64 b12, .int .i64 b16] := by rw [hWa]; exact CellsAt.new wa _ _
                  have hba' := hba.trans (hbAa.mono hba.size)
                  have hR := HRCH.out Wa hba'
                  rw [hWa] at hR
                  have HR := Lib.hid hR
                  have HWa := Lib.hid hWa
                  clear hba hWa hbAa hR HCH HRCH
                  go_wp2_with fail
                  refine HR.out.mono ?_
                  rintro e wb ⟨rfl, hbb⟩
                  rw [← HWa.out] at hbb
                  have hcB := hcA.stays hbb
                  have hbb' := hba'.trans (hbb.mono hba'.size)
                  have a0 := hcB.cell 0 (v := .int .u32 b4) rfl
                  have a1 := hcB.cell 1 (v := .int .u32 b8) rfl
                  have a2 := hcB.cell 2 (v := .int .i64 b12) rfl
                  have a3 := hcB.cell 3 (v := .int .i64 b16) rfl
                  have hltB := hcB.lt
                  have hbeb := HBE9.out.trans (hbb'.mono HBE9.out.size)
                  have HBB := Lib.hid hbb'
                  have HBEB := Lib.hid hbeb
                  clear hba' hcA hbb hcB hbb' HR HWa hbeb
                  go_wp2_with fail
                  refine (HNK.out _ (HBEB.out.alloc HBEB.out.size _)).mono ?_
                  rintro e wc ⟨rfl, hbc⟩
                  have hbA : Below w9.heap.size w9 wc := (HBB.out.alloc HBB.out.size _).trans (hbc.mono (by have := HBB.out.size; simp; omega))
                  have hkc := HK9.out.stays hbA
                  have hrc := HR9.out.stays hbA
                  have hbec := HBE9.out.trans (hbA.mono HBE9.out.size)
                  clear a0 a1 a2 a3 hltB hbc hbA HNK
                  go_wp2_with fail
                  go_roundw
                  case rel => exact ⟨k + 1, _, by omega, by go_num, hkc, hrc, HW9.out, hbec⟩
                  case measure => simp [intOf]; omega
                | false =>
                  have hk9 := HK7.out
                  have hr9 := HR7.out.mono (N' := 100 + 2 * (k + 1)) (by omega) (by omega)
                  have hbe9 := HBE7.out
                  have HW9 : Hid (D2.writes ≤ 40 + (k + 1)) := HOK5.out.2
                  obtain ⟨D3, w9, hk9, hr9, hbe9, HW9, e3, e9⟩ : ∃ (D3 : Dm) (w9 : World), Dk w9 g gd gm D3 ∧ Rd2 w9 w1.heap.size h (100 + 2 * (k + 1)) D3 ∧ Below w1.heap.size w1 w9 ∧ Hid (D3.writes ≤ 40 + (k + 1)) ∧ D3 = D2 ∧ w9 = w7 := ⟨_, _, hk9, hr9, hbe9, HW9, rfl, rfl⟩
                  subst e3 e9
                  clear HK7 HR7 HG7 HBE7 HB4 HC4 p70 p77
                  have hCh := schoose_any ea hk9 (fun W hW => (HEE.out W (hbe9.trans (hW.mono hbe9.size))).sup)
                  have hRCh := fun (W : World) (hW : Below w9.heap.size w9 W) => rschoose_any (hr9.stays hW) hk9.ok
                  unfold Chose blkV at hCh
                  unfold RChose rblkV at hRCh
                  have hKL := chK_le D3
                  obtain ⟨b4, h4⟩ : ∃ n, n = chB D3 4 := ⟨_, rfl⟩
                  obtain ⟨b8, h8⟩ : ∃ n, n = chB D3 8 := ⟨_, rfl⟩
                  obtain ⟨b12, h12⟩ : ∃ n, n = chB D3 12 := ⟨_, rfl⟩
                  obtain ⟨b16, h16⟩ : ∃ n, n = chB D3 16 := ⟨_, rfl⟩
                  obtain ⟨cs, hcs⟩ : ∃ n, n = chS D3 := ⟨_, rfl⟩
                  obtain ⟨ck, hck⟩ : ∃ n, n = chK D3 := ⟨_, rfl⟩
                  rw [← h4, ← h8, ← h12, ← h16, ← hcs, ← hck] at hCh
                  simp only [← h4, ← h8, ← h12, ← h16, ← hcs, ← hck] at hRCh
                  rw [← hck] at hKL
                  have HCH := Lib.hid hCh
                  have HRCH := Lib.hid hRCh
                  have HNK : Hid (∀ W, Below w1.heap.size w1 W → Calls Tryd.prog 19 #[EV ea ck] W fun e w' => e = .returned (.int .i64 ck) ∧ Below W.heap.size W w') := fun W hW => num_any ea ck hKL W (HEE.out W hW)
                  have HK9 := Lib.hid hk9
                  have HR9 := Lib.hid hr9
                  have HBE9 := Lib.hid hbe9
                  have e4 : ((b4 : Int) == b4) = true := by simp
                  have e8 : ((b8 : Int) == b8) = true := by simp
                  have e12 : ((b12 : Int) == b12) = true := by simp
                  have e16 : ((b16 : Int) == b16) = true := by simp
                  have ecs : (cs == cs) = true := by simp
                  have ecs' : (cs != cs) = false := by simp
                  have eck : ((ck : Int) == ck) = true := by simp
                  have eck' : ((ck : Int) != ck) = false := by simp
                  clear hCh hRCh hKL h4 h8 h12 h16 hcs hck hk9 hr9 hbe9
                  go_wp2_with fail
                  refine HCH.out.mono ?_
                  rintro e wa ⟨rfl, hba⟩
                  obtain ⟨Wa, hWa⟩ : ∃ W, W = wa.alloc (.cells #[.int .u32 b4, .int .u32 b8, .int .i64 b12, .int .i64 b16] 51) := ⟨_, rfl⟩
                  have hbAa : Below wa.heap.size wa Wa := by rw [hWa]; exact (Below.refl _ _).alloc (Nat.le_refl _) _
                  have hcA : CellsAt Wa wa.heap.size 51 #[.int .u32 b4, .int .u32 b8, .int .i64 b12, .int .i64 b16] := by rw [hWa]; exact CellsAt.new wa _ _
                  have hba' := hba.trans (hbAa.mono hba.size)
                  have hR := HRCH.out Wa hba'
                  rw [hWa] at hR
                  have HR := Lib.hid hR
                  have HWa := Lib.hid hWa
                  clear hba hWa hbAa hR HCH HRCH
                  go_wp2_with fail
                  refine HR.out.mono ?_
                  rintro e wb ⟨rfl, hbb⟩
                  rw [← HWa.out] at hbb
                  have hcB := hcA.stays hbb
                  have hbb' := hba'.trans (hbb.mono hba'.size)
                  have a0 := hcB.cell 0 (v := .int .u32 b4) rfl
                  have a1 := hcB.cell 1 (v := .int .u32 b8) rfl
                  have a2 := hcB.cell 2 (v := .int .i64 b12) rfl
                  have a3 := hcB.cell 3 (v := .int .i64 b16) rfl
                  have hltB := hcB.lt
                  have hbeb := HBE9.out.trans (hbb'.mono HBE9.out.size)
                  have HBB := Lib.hid hbb'
                  have HBEB := Lib.hid hbeb
                  clear hba' hcA hbb hcB hbb' HR HWa hbeb
                  go_wp2_with fail
                  refine (HNK.out _ (HBEB.out.alloc HBEB.out.size _)).mono ?_
                  rintro e wc ⟨rfl, hbc⟩
                  have hbA : Below w9.heap.size w9 wc := (HBB.out.alloc HBB.out.size _).trans (hbc.mono (by have := HBB.out.size; simp; omega))
                  have hkc := HK9.out.stays hbA
                  have hrc := HR9.out.stays hbA
                  have hbec := HBE9.out.trans (hbA.mono HBE9.out.size)
                  clear a0 a1 a2 a3 hltB hbc hbA HNK
                  go_wp2_with fail
                  go_roundw
                  case rel => exact ⟨k + 1, _, by omega, by go_num, hkc, hrc, HW9.out, hbec⟩
                  case measure => simp [intOf]; omega
              · obtain rfl : pf = -1 := by omega
                have hmax : max (-1 : Int) (-1) = -1 := by omega
                have HMX := Lib.hid hmax
                clear hfv HFV hmax
                go_wp2_with fail
                have hmax := HMX.out
                refine HF.out.mono ?_
                rintro e w3 ⟨rfl, hk3, hg3⟩
                rw [← HW1.out] at hg3
                rw [← HP.out]
                have hG3 := Grew.ofGrown hg3
                have hr3 := HR1.out.past HK1.out (hG3.mono (by simp))
                have hbe3 : Below w1.heap.size w1 w3 := hG3.below HBE1.out (by simp; exact HGP.out.1) HBE1.out.size
                have hcP3 := HCP.out.grew hG3 (by have := HNP.out; simp at this ⊢; omega)
                obtain ⟨c33, f33⟩ := hr3.c3
                have hG4 : Grew [h] w3 (w3.setCell ⟨h, 3, none⟩ (.int .i64 (-1))) := (Grew.refl [h] w3).setCell (p := ⟨h, 3, none⟩) (.inl (by simp)) _
                have hr4 := hr3.setFuse (-1)
                rw [hmax] at hr4
                clear hmax
                have hk4 := hk3.past hr3 hG4
                have hbe4 := hG4.below hbe3 (by simp; exact HGP.out.2.2.2) hbe3.size
                have p31 := hcP3.cell 1 (v := .int .i64 (-1)) rfl
                have hcP4 := hcP3.grew hG4 (by have := HNP.out; simp at this ⊢; omega)
                obtain ⟨W4, hW4⟩ : ∃ W, W = w3.setCell ⟨h, 3, none⟩ (.int .i64 (-1)) := ⟨_, rfl⟩
                have HW4 := Lib.hid hW4
                rw [← hW4] at hr4 hk4 hbe4 hcP4
                clear hW4 hG4 hr3 hk3 hbe3 hcP3 hg3 hG3 HF HR1 HK1 HBE1 HCP
                go_upto_region 13 with (fail)
                rw [← HW4.out]
                clear HW4 c33 f33 p31
                have hok4 := hk4.ok
                have hw4 : (fuseM D (-1)).writes ≤ 40 + k := by rw [fuseM_writes]; exact hDw
                generalize fuseM D (-1) = D1 at hk4 hr4 hok4 hw4
                have hdr : Below W4.heap.size W4 W4.drew := (Below.refl _ _).drew
                have hbe4d := hbe4.trans (hdr.mono hbe4.size)
                have hSW := swrite_any ea (hk4.stays hdr) s hs1 hs2 gg gb hh hv HBD.out.1.1 HBD.out.1.2 HBD.out.2.1.1 HBD.out.2.1.2 HBD.out.2.2.1 HBD.out.2.2.2 (by omega) (fun W hW => (HEE.out W (hW.below hbe4d (by intro i hi; have := HGP.out; simp at hi; omega) hbe4d.size)).sup)
                have HR4 : Hid (∀ W, Grew [g, gd, gm] W4 W → Rd2 W w1.heap.size h (100 + 2 * k) D1) := fun W hW => hr4.past hk4 hW
                have HK4 := Lib.hid hk4
                have HRW : Hid (∀ W, Grew [g, gd, gm] W4 W → Calls Tryd.prog 68 #[.pointer (some ⟨h, 0, none⟩), .int .i64 s, .agg #[.int .u32 gg, .int .u32 gb, .int .i64 hh, .int .i64 hv]] W fun e w' => e = .returned (.int .i64 (swK D1 s gg gb hh hv)) ∧ Rd2 w' w1.heap.size h (100 + 2 * k + 1) (swM D1 s gg gb hh hv) ∧ Grew [h] W w') := fun W hW =>
                  rswrite_any (HR4.out W hW) hok4 (by have := hbe4.size; have := hW.size; omega) (by omega) s hs1 hs2 gg gb hh hv HBD.out.1.1 HBD.out.1.2 HBD.out.2.1.1 HBD.out.2.1.2 HBD.out.2.2.1 HBD.out.2.2.2 (by omega)
                have hok5 := swM_ok hok4 s gg gb hh hv
                have hw5 := (swM_len D1 s gg gb hh hv).2
                have hK := swK_le D1 s gg gb hh hv
                obtain ⟨D2, hD2⟩ : ∃ D2, D2 = swM D1 s gg gb hh hv := ⟨_, rfl⟩
                obtain ⟨K, hKe⟩ : ∃ K, K = swK D1 s gg gb hh hv := ⟨_, rfl⟩
                rw [← hD2, ← hKe] at hSW
                simp only [← hD2, ← hKe] at HRW
                rw [← hD2] at hok5 hw5
                rw [← hKe] at hK
                have HOK5 : Hid (D2.Ok ∧ D2.writes ≤ 40 + (k + 1)) := ⟨hok5, by omega⟩
                have HSW := Lib.hid hSW
                have HB4 : Hid (∀ W, Grew [g, gd, gm, h] W4 W → Below w1.heap.size w1 W) := fun W hW => hW.below hbe4 (by intro i hi; have := HGP.out; simp at hi; omega) hbe4.size
                have HC4 : Hid (∀ W, Grew [g, gd, gm, h] W4 W → CellsAt W P 140 #[.int .i64 s, .int .i64 (-1), .int .u32 gg, .int .u32 gb, .int .i64 hh, .int .i64 hv, .bool pc, .slice va bs.length vc]) := fun W hW => hcP4.grew hW HNP.out
                have HN : Hid (∀ W, Grew [g, gd, gm, h] W4 W → Calls Tryd.prog 19 #[EV ea K] W fun e w' => e = .returned (.int .i64 K) ∧ Below W.heap.size W w') := fun W hW => num_any ea K hK W (HEE.out W (HB4.out W hW))
                have HS : Hid (∀ W, Grew [g, gd, gm, h] W4 W → Grew [g, gd, gm, h] W4 W ∧ W.cell? ⟨P, 0, none⟩ = some (.int .i64 s) ∧ W.cell? ⟨P, 2, none⟩ = some (.int .u32 gg) ∧ W.cell? ⟨P, 3, none⟩ = some (.int .u32 gb) ∧ W.cell? ⟨P, 4, none⟩ = some (.int .i64 hh) ∧ W.cell? ⟨P, 5, none⟩ = some (.int .i64 hv)) := fun W hW =>
                  have hx := HC4.out W hW
                  ⟨hW, hx.cell 0 (v := .int .i64 s) rfl, hx.cell 2 (v := .int .u32 gg) rfl, hx.cell 3 (v := .int .u32 gb) rfl, hx.cell 4 (v := .int .i64 hh) rfl, hx.cell 5 (v := .int .i64 hv) rfl⟩
                have hG40 : Grew [g, gd, gm, h] W4 W4 := Grew.refl _ _
                have hG4d : Grew [g, gd, gm, h] W4 W4.drew := hG40.drew
                have hQ4d : Grew [g, gd, gm] W4 W4.drew := (Grew.refl _ _).drew
                have bK : ((K : Int) == K) = true := by simp
                have bK' : ((K : Int) != K) = false := by simp
                clear hk4 hr4 hok4 hw4 hdr hbe4d hSW hcP4 hok5 hw5 hK hD2 hKe hbe4 hDw
                go_region_held3 (fun w' => Grew [g, gd, gm, h] W4 w' ∧ w'.cell? ⟨P, 0, none⟩ = some (.int .i64 s) ∧ w'.cell? ⟨P, 2, none⟩ = some (.int .u32 gg) ∧ w'.cell? ⟨P, 3, none⟩ = some (.int .u32 gb) ∧ w'.cell? ⟨P, 4, none⟩ = some (.int .i64 hh) ∧ w'.cell? ⟨P, 5, none⟩ = some (.int .i64 hv))
                  (exact HS.out _ (by assumption))
                  ((first
                    | (go_at_call 54; (with_reducible refine HSW.out.mono ?_); rintro e w5 ⟨rfl, hk5, hg5⟩; have hQ5 := hQ4d.trans hg5; have hG5 := hG4d.trans (hg5.mono (by simp)))
                    | (go_at_call 19; (with_reducible refine (HN.out _ (by assumption)).mono ?_); rintro e w6 ⟨rfl, hb6⟩; have hQ6 := hQ5.add hb6; have hG6 := hG5.add hb6)
                    | (go_at_call 68; (with_reducible refine (HRW.out _ (by assumption)).mono ?_); rintro e w7 ⟨rfl, hr7, hg7⟩; have hG7 := hG6.trans (hg7.mono (by simp)))))
                have hk6 := hk5.stays hb6
                have hk7 := hk6.past (HR4.out _ hQ6) hg7
                have hbe7 := HB4.out w7 hG7
                have hcP7 := HC4.out w7 hG7
                have p70 := hcP7.cell 0 (v := .int .i64 s) rfl
                have p76 := hcP7.cell 6 (v := .bool pc) rfl
                have p77 := hcP7.cell 7 (v := .slice va bs.length vc) rfl
                have HBE7 := Lib.hid hbe7
                have HK7 := Lib.hid hk7
                have HR7 := Lib.hid hr7
                have HG7 := Lib.hid hG7
                clear hk5 hg5 hQ5 hG5 hb6 hQ6 hG6 hr7 hg7 hk6 hk7 hbe7 hcP7 hG40 hG4d hQ4d HSW HN HS HRW HR4 HK4 hG7
                cases pc with
                | true =>
                  obtain ⟨W7, hW7⟩ : ∃ W, W = w7.alloc (.cells #[.int .i64 s, .slice va bs.length vc] 109) := ⟨_, rfl⟩
                  have hbA7 : Below w7.heap.size w7 W7 := by rw [hW7]; exact (Below.refl _ _).alloc (Nat.le_refl _) _
                  have hcT : CellsAt W7 w7.heap.size 109 #[.int .i64 s, .slice va bs.length vc] := by rw [hW7]; exact CellsAt.new w7 _ _
                  have hk7 := HK7.out
                  have hbeA := HBE7.out.trans (hbA7.mono HBE7.out.size)
                  have hltk := hk7.lt
                  have hC := crash_any (hk7.stays hbA7) (.slice none 0 0) [] (.slice (some ⟨w7.heap.size, 0, none⟩) 1 1) [⟨s, .slice va bs.length vc, bs⟩] (fun W hW => by
                    refine ⟨.inl ⟨rfl, rfl, none, 0, rfl⟩, ?_, fun t ht => ?_⟩
                    · exact rowS_one (w := W) (hcT.grew hW (by simp; omega)) rfl
                    · obtain rfl : t = ⟨s, .slice va bs.length vc, bs⟩ := by simpa using ht
                      exact HROW.out W (hW.below hbeA (by intro i hi; have := HGP.out; simp at hi; omega) hbeA.size)) (fun k hk => by cases hk) (fun t ht => by
                    obtain rfl : t = ⟨s, .slice va bs.length vc, bs⟩ := by simpa using ht
                    refine ⟨⟨hs1, hs2⟩, ?_⟩
                    show bs.length ≤ 1000000
                    omega)
                  have hr7 := HR7.out.stays hbA7
                  have hkk7 := hk7.stays hbA7
                  have HCK : Hid (∀ W, Grew [g, gd, gm] W7 W → Rd2 W w1.heap.size h (100 + 2 * k + 1) D2) := fun W hW => hr7.past hkk7 hW
                  have hG77 := HG7.out.add hbA7
                  rw [hW7] at hC
                  have HC := Lib.hid hC
                  have HW7 := Lib.hid hW7
                  have HG77 := Lib.hid hG77
                  have HBA := Lib.hid hbeA
                  clear hW7 hbA7 hcT hk7 hbeA hltk hC hr7 hkk7 hG77
                  go_wp2_with fail
                  refine HC.out.mono ?_
                  rintro e w8 ⟨rfl, hk8, hg8⟩
                  rw [← HW7.out] at hg8
                  have hr8 := HCK.out w8 hg8
                  replace hk8 : Dk w8 g gd gm (crashM D2 [] [(s, bs)]) := hk8
                  have hG8 := HG77.out.trans (hg8.mono (by simp))
                  have hbe8 := HB4.out w8 hG8
                  have hcP8 := HC4.out w8 hG8
                  have p80 := hcP8.cell 0 (v := .int .i64 s) rfl
                  have p87 := hcP8.cell 7 (v := .slice va bs.length vc) rfl
                  have s8 := convert_str (HROW.out w8 hbe8)
                  obtain ⟨W8, hW8⟩ : ∃ W, W = w8.alloc (.cells #[.int .i64 s, .string (strB bs)] 144) := ⟨_, rfl⟩
                  have hbA8 : Below w8.heap.size w8 W8 := by rw [hW8]; exact (Below.refl _ _).alloc (Nat.le_refl _) _
                  have hcU : CellsAt W8 w8.heap.size 144 #[.int .i64 s, .string (strB bs)] := by rw [hW8]; exact CellsAt.new w8 _ _
                  have hbeB := hbe8.trans (hbA8.mono hbe8.size)
                  have hRC := rcrash_any (N' := 100 + 2 * (k + 1)) (hr8.stays hbA8) HOK5.out.1 hbeB.size (.slice none 0 0) [] (.inl ⟨rfl, rfl, none, 0, rfl⟩) (.slice (some ⟨w8.heap.size, 0, none⟩) 1 1) [(s, bs)] (rowS_one (w := W8) hcU rfl) (fun k hk => by cases hk) (fun t ht => by
                    obtain rfl : t = (s, bs) := by simpa using ht
                    refine ⟨⟨hs1, hs2⟩, ?_⟩
                    show bs.length ≤ 1000000
                    omega) (by simp; omega) (by omega)
                  have hrr8 := hr8.stays hbA8
                  have HK8 : Hid (∀ W, Grew [h] W8 W → Dk W g gd gm (crashM D2 [] [(s, bs)])) := fun W hW => (hk8.stays hbA8).past hrr8 hW
                  have HB8 : Hid (∀ W, Grew [h] W8 W → Below w1.heap.size w1 W) := fun W hW => hW.below hbeB (by intro i hi; have := HGP.out; simp at hi; omega) hbeB.size
                  rw [hW8] at hRC
                  have HRC := Lib.hid hRC
                  have HW8 := Lib.hid hW8
                  clear hW8 hbA8 hcU hbeB hRC hrr8 hr8 hk8 hg8 hG8 hbe8 hcP8 HC HW7 HG77 HBA HCK p70 p76 p77 HK7 HR7 HG7 HBE7
                  go_wp2_with fail
                  refine HRC.out.mono ?_
                  rintro e w9 ⟨rfl, hr9, hg9⟩
                  rw [← HW8.out] at hg9
                  have hk9 := HK8.out w9 hg9
                  have hbe9 := HB8.out w9 hg9
                  have HW9 : Hid ((crashM D2 [] [(s, bs)]).writes ≤ 40 + (k + 1)) := HOK5.out.2
                  generalize crashM D2 [] [(s, bs)] = D3 at hk9 hr9 HW9
                  clear HK8 HB8 HRC HW8 hg9 p80 p87 s8 HB4 HC4
                  have hCh := schoose_any ea hk9 (fun W hW => (HEE.out W (hbe9.trans (hW.mono hbe9.size))).sup)
                  have hRCh := fun (W : World) (hW : Below w9.heap.size w9 W) => rschoose_any (hr9.stays hW) hk9.ok
                  unfold Chose blkV at hCh
                  unfold RChose rblkV at hRCh
                  have hKL := chK_le D3
                  obtain ⟨b4, h4⟩ : ∃ n, n = chB D3 4 := ⟨_, rfl⟩
                  obtain ⟨b8, h8⟩ : ∃ n, n = chB D3 8 := ⟨_, rfl⟩
                  obtain ⟨b12, h12⟩ : ∃ n, n = chB D3 12 := ⟨_, rfl⟩
                  obtain ⟨b16, h16⟩ : ∃ n, n = chB D3 16 := ⟨_, rfl⟩
                  obtain ⟨cs, hcs⟩ : ∃ n, n = chS D3 := ⟨_, rfl⟩
                  obtain ⟨ck, hck⟩ : ∃ n, n = chK D3 := ⟨_, rfl⟩
                  rw [← h4, ← h8, ← h12, ← h16, ← hcs, ← hck] at hCh
                  simp only [← h4, ← h8, ← h12, ← h16, ← hcs, ← hck] at hRCh
                  rw [← hck] at hKL
                  have HCH := Lib.hid hCh
                  have HRCH := Lib.hid hRCh
                  have HNK : Hid (∀ W, Below w1.heap.size w1 W → Calls Tryd.prog 19 #[EV ea ck] W fun e w' => e = .returned (.int .i64 ck) ∧ Below W.heap.size W w') := fun W hW => num_any ea ck hKL W (HEE.out W hW)
                  have HK9 := Lib.hid hk9
                  have HR9 := Lib.hid hr9
                  have HBE9 := Lib.hid hbe9
                  have e4 : ((b4 : Int) == b4) = true := by simp
                  have e8 : ((b8 : Int) == b8) = true := by simp
                  have e12 : ((b12 : Int) == b12) = true := by simp
                  have e16 : ((b16 : Int) == b16) = true := by simp
                  have ecs : (cs == cs) = true := by simp
                  have ecs' : (cs != cs) = false := by simp
                  have eck : ((ck : Int) == ck) = true := by simp
                  have eck' : ((ck : Int) != ck) = false := by simp
                  clear hCh hRCh hKL h4 h8 h12 h16 hcs hck hk9 hr9 hbe9
                  go_wp2_with fail
                  refine HCH.out.mono ?_
                  rintro e wa ⟨rfl, hba⟩
                  obtain ⟨Wa, hWa⟩ : ∃ W, W = wa.alloc (.cells #[.int .u32 b4, .int .u32 b8, .int .i64 b12, .int .i64 b16] 51) := ⟨_, rfl⟩
                  have hbAa : Below wa.heap.size wa Wa := by rw [hWa]; exact (Below.refl _ _).alloc (Nat.le_refl _) _
                  have hcA : CellsAt Wa wa.heap.size 51 #[.int .u32 b4, .int .u32 b8, .int .i64 b12, .int .i64 b16] := by rw [hWa]; exact CellsAt.new wa _ _
                  have hba' := hba.trans (hbAa.mono hba.size)
                  have hR := HRCH.out Wa hba'
                  rw [hWa] at hR
                  have HR := Lib.hid hR
                  have HWa := Lib.hid hWa
                  clear hba hWa hbAa hR HCH HRCH
                  go_wp2_with fail
                  refine HR.out.mono ?_
                  rintro e wb ⟨rfl, hbb⟩
                  rw [← HWa.out] at hbb
                  have hcB := hcA.stays hbb
                  have hbb' := hba'.trans (hbb.mono hba'.size)
                  have a0 := hcB.cell 0 (v := .int .u32 b4) rfl
                  have a1 := hcB.cell 1 (v := .int .u32 b8) rfl
                  have a2 := hcB.cell 2 (v := .int .i64 b12) rfl
                  have a3 := hcB.cell 3 (v := .int .i64 b16) rfl
                  have hltB := hcB.lt
                  have hbeb := HBE9.out.trans (hbb'.mono HBE9.out.size)
                  have HBB := Lib.hid hbb'
                  have HBEB := Lib.hid hbeb
                  clear hba' hcA hbb hcB hbb' HR HWa hbeb
                  go_wp2_with fail
                  refine (HNK.out _ (HBEB.out.alloc HBEB.out.size _)).mono ?_
                  rintro e wc ⟨rfl, hbc⟩
                  have hbA : Below w9.heap.size w9 wc := (HBB.out.alloc HBB.out.size _).trans (hbc.mono (by have := HBB.out.size; simp; omega))
                  have hkc := HK9.out.stays hbA
                  have hrc := HR9.out.stays hbA
                  have hbec := HBE9.out.trans (hbA.mono HBE9.out.size)
                  clear a0 a1 a2 a3 hltB hbc hbA HNK
                  go_wp2_with fail
                  go_roundw
                  case rel => exact ⟨k + 1, _, by omega, by go_num, hkc, hrc, HW9.out, hbec⟩
                  case measure => simp [intOf]; omega
                | false =>
                  have hk9 := HK7.out
                  have hr9 := HR7.out.mono (N' := 100 + 2 * (k + 1)) (by omega) (by omega)
                  have hbe9 := HBE7.out
                  have HW9 : Hid (D2.writes ≤ 40 + (k + 1)) := HOK5.out.2
                  obtain ⟨D3, w9, hk9, hr9, hbe9, HW9, e3, e9⟩ : ∃ (D3 : Dm) (w9 : World), Dk w9 g gd gm D3 ∧ Rd2 w9 w1.heap.size h (100 + 2 * (k + 1)) D3 ∧ Below w1.heap.size w1 w9 ∧ Hid (D3.writes ≤ 40 + (k + 1)) ∧ D3 = D2 ∧ w9 = w7 := ⟨_, _, hk9, hr9, hbe9, HW9, rfl, rfl⟩
                  subst e3 e9
                  clear HK7 HR7 HG7 HBE7 HB4 HC4 p70 p77
                  have hCh := schoose_any ea hk9 (fun W hW => (HEE.out W (hbe9.trans (hW.mono hbe9.size))).sup)
                  have hRCh := fun (W : World) (hW : Below w9.heap.size w9 W) => rschoose_any (hr9.stays hW) hk9.ok
                  unfold Chose blkV at hCh
                  unfold RChose rblkV at hRCh
                  have hKL := chK_le D3
                  obtain ⟨b4, h4⟩ : ∃ n, n = chB D3 4 := ⟨_, rfl⟩
                  obtain ⟨b8, h8⟩ : ∃ n, n = chB D3 8 := ⟨_, rfl⟩
                  obtain ⟨b12, h12⟩ : ∃ n, n = chB D3 12 := ⟨_, rfl⟩
                  obtain ⟨b16, h16⟩ : ∃ n, n = chB D3 16 := ⟨_, rfl⟩
                  obtain ⟨cs, hcs⟩ : ∃ n, n = chS D3 := ⟨_, rfl⟩
                  obtain ⟨ck, hck⟩ : ∃ n, n = chK D3 := ⟨_, rfl⟩
                  rw [← h4, ← h8, ← h12, ← h16, ← hcs, ← hck] at hCh
                  simp only [← h4, ← h8, ← h12, ← h16, ← hcs, ← hck] at hRCh
                  rw [← hck] at hKL
                  have HCH := Lib.hid hCh
                  have HRCH := Lib.hid hRCh
                  have HNK : Hid (∀ W, Below w1.heap.size w1 W → Calls Tryd.prog 19 #[EV ea ck] W fun e w' => e = .returned (.int .i64 ck) ∧ Below W.heap.size W w') := fun W hW => num_any ea ck hKL W (HEE.out W hW)
                  have HK9 := Lib.hid hk9
                  have HR9 := Lib.hid hr9
                  have HBE9 := Lib.hid hbe9
                  have e4 : ((b4 : Int) == b4) = true := by simp
                  have e8 : ((b8 : Int) == b8) = true := by simp
                  have e12 : ((b12 : Int) == b12) = true := by simp
                  have e16 : ((b16 : Int) == b16) = true := by simp
                  have ecs : (cs == cs) = true := by simp
                  have ecs' : (cs != cs) = false := by simp
                  have eck : ((ck : Int) == ck) = true := by simp
                  have eck' : ((ck : Int) != ck) = false := by simp
                  clear hCh hRCh hKL h4 h8 h12 h16 hcs hck hk9 hr9 hbe9
                  go_wp2_with fail
                  refine HCH.out.mono ?_
                  rintro e wa ⟨rfl, hba⟩
                  obtain ⟨Wa, hWa⟩ : ∃ W, W = wa.alloc (.cells #[.int .u32 b4, .int .u32 b8, .int .i64 b12, .int .i64 b16] 51) := ⟨_, rfl⟩
                  have hbAa : Below wa.heap.size wa Wa := by rw [hWa]; exact (Below.refl _ _).alloc (Nat.le_refl _) _
                  have hcA : CellsAt Wa wa.heap.size 51 #[.int .u32 b4, .int .u32 b8, .int .i64 b12, .int .i64 b16] := by rw [hWa]; exact CellsAt.new wa _ _
                  have hba' := hba.trans (hbAa.mono hba.size)
                  have hR := HRCH.out Wa hba'
                  rw [hWa] at hR
                  have HR := Lib.hid hR
                  have HWa := Lib.hid hWa
                  clear hba hWa hbAa hR HCH HRCH
                  go_wp2_with fail
                  refine HR.out.mono ?_
                  rintro e wb ⟨rfl, hbb⟩
                  rw [← HWa.out] at hbb
                  have hcB := hcA.stays hbb
                  have hbb' := hba'.trans (hbb.mono hba'.size)
                  have a0 := hcB.cell 0 (v := .int .u32 b4) rfl
                  have a1 := hcB.cell 1 (v := .int .u32 b8) rfl
                  have a2 := hcB.cell 2 (v := .int .i64 b12) rfl
                  have a3 := hcB.cell 3 (v := .int .i64 b16) rfl
                  have hltB := hcB.lt
                  have hbeb := HBE9.out.trans (hbb'.mono HBE9.out.size)
                  have HBB := Lib.hid hbb'
                  have HBEB := Lib.hid hbeb
                  clear hba' hcA hbb hcB hbb' HR HWa hbeb
                  go_wp2_with fail
                  refine (HNK.out _ (HBEB.out.alloc HBEB.out.size _)).mono ?_
                  rintro e wc ⟨rfl, hbc⟩
                  have hbA : Below w9.heap.size w9 wc := (HBB.out.alloc HBB.out.size _).trans (hbc.mono (by have := HBB.out.size; simp; omega))
                  have hkc := HK9.out.stays hbA
                  have hrc := HR9.out.stays hbA
                  have hbec := HBE9.out.trans (hbA.mono HBE9.out.size)
                  clear a0 a1 a2 a3 hltB hbc hbA HNK
                  go_wp2_with fail
                  go_roundw
                  case rel => exact ⟨k + 1, _, by omega, by go_num, hkc, hrc, HW9.out, hbec⟩
                  case measure => simp [intOf]; omega
        · obtain rfl : k = ls.length := by omega
          have HN := Lib.hid (schoose_nil ea wr (HE.out wr hbw).e14)
          have HBW := Lib.hid hbw
          clear hkd hrd hbe hbw
          go_wp2_with fail
          refine HN.out.mono ?_
          rintro e w3 ⟨rfl, hb3⟩
          have hbe3 := HBW.out.trans (hb3.mono HBW.out.size)
          have hbe4 : Below w.heap.size w (w3.alloc (.cells #[.int .u32 0, .int .u32 0, .int .i64 0, .int .i64 0] 51)) := hbe3.alloc hbe3.size _
          have HN2 := Lib.hid (num_any ea 14 (by decide) _ (HE.out _ hbe4))
          have HBE4 := Lib.hid hbe4
          clear HN HBW hb3 hbe3 hbe4
          go_wp2_with fail
          refine HN2.out.mono ?_
          rintro e w5 ⟨rfl, hb5⟩
          have hbe5 := HBE4.out.trans (hb5.mono HBE4.out.size)
          have HN3 := Lib.hid (swrite_nil ea w5 (HE.out w5 hbe5).e14)
          have HBE5 := Lib.hid hbe5
          clear HN2 HBE4 hb5 hbe5
          go_wp2_with fail
          refine HN3.out.mono ?_
          rintro e w6 ⟨rfl, hb6⟩
          have hbe6 := HBE5.out.trans (hb6.mono HBE5.out.size)
          have HN4 := Lib.hid (num_any ea 14 (by decide) w6 (HE.out w6 hbe6))
          clear HN3 HBE5 hb6
          go_wp2_with fail
          refine HN4.out.mono ?_
          rintro e w7 ⟨rfl, hb7⟩
          have hbe7 := hbe6.trans (hb7.mono hbe6.size)
          clear HN4 hbe6 hb7
          go_wp2_with fail
          go_ret
          exact ⟨rfl, hbe7⟩
end Go.Proofs.YtgehbabcpmkgaaaDoor
