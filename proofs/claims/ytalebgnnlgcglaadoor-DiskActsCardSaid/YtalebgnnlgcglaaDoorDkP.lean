/- The disk's Write, walked. -/
import Derived.Test.YtalebgnnlgcglaaDoorDkO
import Derived.Deep.RegionHeld3
import Derived.Deep.DrawnRows
namespace Go.Proofs.YtalebgnnlgcglaaDoor
open Go Go.RowKit
set_option linter.unusedVariables false
attribute [local go_sem ↓] Go.wp_at_zero Go.wp_at_succ
theorem writeK_has {d : Dm} {x : Int} {b : List UInt8} (h : ¬ d.has x) : writeK d x b = 1 := if_pos h
theorem writeK_long {d : Dm} {x : Int} {b : List UInt8} (h : d.has x) (h2 : 64 < b.length) : writeK d x b = 3 := by unfold writeK; rw [if_neg (fun h' => h' h), if_pos h2]
theorem writeK_power {d : Dm} {x : Int} {b : List UInt8} (h : d.has x) (h2 : ¬ 64 < b.length) (h3 : d.fuse = 0) : writeK d x b = 17 := by unfold writeK; rw [if_neg (fun h' => h' h), if_neg h2, if_pos h3]
theorem putI_run {P : Program} {K e t : TypeId} {w : World} {b n : Nat} {f : Int → Option Value} (h : MapI P K w b n f) (hk : P.underlying K = some (.int .i64)) (ht : P.underlying t = some (.map K e)) (hn : n < maxLen) (q : Int) (u : Value) (hq : -9223372036854775808 ≤ q ∧ q ≤ 9223372036854775807) :
    ∃ w', (Instr.mapUpdate t (.map (some b)) (.int .i64 q) u).run P w = .ok () w' ∧ MapI P K w' b (n + 1) (fun y => if y = q then some u else f y) ∧ w.grownBy w' (some b) := by
  obtain ⟨D, hD, hv⟩ := h
  have hkey := Maps.keyOf_int_mk hk (WalkArith.wf_i64 hq)
  obtain ⟨w1, hrun, h1, hg1⟩ := hD.update (Maps.int_keyed hk) ht hn hkey (show heldR u = some (.held u, []) from rfl)
  refine ⟨w1, hrun, ⟨_, h1, fun y hy => ?_⟩, hg1⟩
  by_cases e : y = q
  · subst e
    simp only [if_true]
    exact ⟨Maps.has_put_same hD.isMap ((Maps.int_keyed hk).key hkey) _, fun z => Maps.atKey_put_same hD.isMap ((Maps.int_keyed hk).key hkey) _ _⟩
  · have hne : Lit.int .i64 y ≠ Lit.int .i64 q := fun h => e (by cases h; rfl)
    simp only [if_neg e]
    rw [Maps.has_put_other hne]
    refine ⟨(hv y hy).1, fun z => ?_⟩
    rw [Maps.atKey_put_other hne]
    exact (hv y hy).2 z
set_option maxRecDepth 100000 in
set_option maxHeartbeats 1000000 in
theorem write_any (ea : Nat → Addr) {w : World} {g gd gm : Nat} {d : Dm} (h : Dk w g gd gm d) {x : Int} (hx1 : -9223372036854775808 ≤ x) (hx2 : x ≤ 9223372036854775807) (v : Value) (bs : List UInt8) (hr : RowB w v bs) (hl : bs.length ≤ 1000000) (hs : d.writes + 1 ≤ 1000000)
    (he1 : ErrAt w 0 (ea 1)) (he3 : ErrAt w 1 (ea 3)) (he17 : ErrAt w 2 (ea 17)) :
    Calls Tryd.prog 8 #[.pointer (some ⟨g, 0, none⟩), .int .i64 x, v] w fun e w' => e = .returned (EV ea (writeK d x bs)) ∧ Dk w' g gd gm (writeM d x bs) ∧ Grew [g, gd, gm] w w' := by
  obtain ⟨a, c, rfl, -, -⟩ := hr.gen.shape
  unfold ErrAt at he1 he3 he17
  by_cases h1 : d.has x
  · have HH := Lib.hid (has_yes h h1)
    by_cases h2 : 64 < bs.length
    · have HK := Lib.hid (writeK_long h1 h2)
      have HD := Lib.hid h
      clear hr h1 h
      go_enter Tryd.func8, Tryd.ntmps8
      go_wp2_with fail
      refine HH.out.mono ?_
      rintro e w1 ⟨rfl, rfl⟩
      go_wp2_with fail
      go_ret
      exact ⟨ret1 (by rw [HK.out]; rfl), by rw [writeM_bad (by rw [HK.out]; decide)]; exact HD.out, Grew.refl _ _⟩
    · by_cases h3 : d.fuse = 0
      · have HK := Lib.hid (writeK_power h1 h2 h3)
        have HP := Lib.hid (power_no h h3)
        have HD := Lib.hid h
        clear hr h1 h h3
        go_enter Tryd.func8, Tryd.ntmps8
        go_wp2_with fail
        refine HH.out.mono ?_
        rintro e w1 ⟨rfl, rfl⟩
        go_wp2_with fail
        refine HP.out.mono ?_
        rintro e w1 ⟨rfl, rfl⟩
        go_wp2_with fail
        go_ret
        exact ⟨ret1 (by rw [HK.out]; rfl), by rw [writeM_bad (by rw [HK.out]; decide)]; exact HD.out, Grew.refl _ _⟩
      · have HK := Lib.hid (writeK_of (b := bs) h1 (by omega) h3)
        have HP := Lib.hid (power_yes h h3)
        have HD := Lib.hid h
        have HOF : Hid (Calls Tryd.prog 23 #[.slice a bs.length c] w.drew fun e w' => e = .returned (secV (padV bs)) ∧ Below w.drew.heap.size w.drew w') := of_any _ bs w.drew (hr.stays (Below.refl _ _).drew) hl
        obtain ⟨U, hU⟩ : ∃ U, U = secV (padV bs) := ⟨_, rfl⟩
        rw [← hU] at HOF
        have HU := Lib.hid hU
        have c1 := h.c1
        have HX := Lib.hid (And.intro hx1 hx2)
        clear hr h1 h h3 hU he1 he3 he17 hx1 hx2
        go_enter Tryd.func8, Tryd.ntmps8
        go_wp2_with fail
        refine HH.out.mono ?_
        rintro e w1 ⟨rfl, rfl⟩
        go_wp2_with fail
        refine HP.out.mono ?_
        rintro e w1 ⟨rfl, rfl⟩
        go_wp2_with fail
        go_region_held3 (fun w' => w'.cell? ⟨g, 1, none⟩ = some (.map (some gm))) (go_keep) ((go_at_call 23; refine HOF.out.mono ?_; rintro e w1 ⟨rfl, hb1⟩; have hbw1 := ((Below.refl w.heap.size w).drew).trans hb1; have hd1 := HD.out.stays hbw1; have c1' := hd1.c1; obtain ⟨w2, hrun, hm2, hg2⟩ := putI_run hd1.wr Tryd.underlying3 Tryd.underlying58 (by unfold maxLen; omega) x U HX.out; have hcg := hd1.cells.grown hg2 (fun e => hd1.apart.2.1 (by cases e; rfl)); have c1'' := hcg.cell 1 (v := .map (some gm)) rfl))
        have hd0 := HD.out
        have hap := hd1.apart
        have hdur2 := hd1.dur.grown hg2 (fun e => hap.2.2 (by cases e; rfl))
        have hok : ({ d with wr := fun y => if y = x then some (padV bs) else d.wr y, writes := d.writes + 1 } : Dm).Ok := by
          have h1 := hd0.ok.write x bs
          rw [writeM_ok HK.out] at h1
          exact ⟨h1.len, h1.wlen, h1.within, h1.size, hd0.ok.fuse1, hd0.ok.fuse2⟩
        have hfn : (fun y => if y = x then some U else Option.map secV (d.wr y)) = fun y => Option.map secV (if y = x then some (padV bs) else d.wr y) := by
          funext y
          rw [HU.out]
          split <;> rfl
        rw [hfn] at hm2
        have hk3 : Dk (w2.setCell ⟨g, 3, none⟩ (.int .i64 ((d.writes : Int) + 1))) g gd gm { d with wr := fun y => if y = x then some (padV bs) else d.wr y, writes := d.writes + 1 } :=
          ⟨by have := hcg.set 3 (.int .i64 ((d.writes : Int) + 1)); simpa using this, hdur2.other _ (Ne.symm hap.1) _, hm2.setCell hap.2.1 _, hok, hs⟩
        have hgr : Grew [g, gd, gm] w (w2.setCell ⟨g, 3, none⟩ (.int .i64 ((d.writes : Int) + 1))) := ((Grew.ofBelow (S := [g, gd, gm]) hbw1).grown hg2 (fun i hi => by cases hi; simp)).setCell (p := ⟨g, 3, none⟩) (by simp) _
        have q3 := hcg.cell 3 (v := .int .i64 d.writes) rfl
        have f3 := hcg.free 3
        have q2 := hk3.c2
        have f2 := hk3.cells.free 2
        have hf1 := hd0.ok.fuse1
        have hf2 := hd0.ok.fuse2
        have HK3 := Lib.hid hk3
        have HGR := Lib.hid hgr
        have HWM := Lib.hid (writeM_ok HK.out)
        clear hd0 hap hdur2 hok hfn hm2 hk3 hgr hcg hd1 c1' c1'' hrun hg2 hb1 hbw1 HH HP HOF HD c1
        by_cases hpos : 0 < d.fuse
        · rw [if_pos hpos] at HWM
          go_wp2_with fail
          go_ret
          refine ⟨ret1 (by rw [HK.out]; rfl), ?_, HGR.out.setCell (p := ⟨g, 2, none⟩) (by simp) _⟩
          rw [HWM.out]
          exact HK3.out.setFuse (f := d.fuse - 1) (by omega) (by omega)
        · rw [if_neg hpos] at HWM
          go_wp2_with fail
          go_ret
          refine ⟨ret1 (by rw [HK.out]; rfl), ?_, HGR.out⟩
          rw [HWM.out]
          exact HK3.out
  · have HH := Lib.hid (has_no h h1)
    have HK := Lib.hid (writeK_has (b := bs) h1)
    have HD := Lib.hid h
    clear hr h1 h
    go_enter Tryd.func8, Tryd.ntmps8
    go_wp2_with fail
    refine HH.out.mono ?_
    rintro e w1 ⟨rfl, rfl⟩
    go_wp2_with fail
    go_ret
    exact ⟨ret1 (by rw [HK.out]; rfl), by rw [writeM_bad (by rw [HK.out]; decide)]; exact HD.out, Grew.refl _ _⟩
end Go.Proofs.YtalebgnnlgcglaaDoor
