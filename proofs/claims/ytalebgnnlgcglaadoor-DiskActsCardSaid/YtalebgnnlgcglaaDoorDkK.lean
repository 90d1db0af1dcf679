/- The disk's Sync, walked. -/
import Derived.Test.YtalebgnnlgcglaaDoorDkR
import Derived.Deep.RegionHeld3
import Derived.Deep.MidRow
namespace Go.Proofs.YtalebgnnlgcglaaDoor
open Go Go.RowKit
set_option linter.unusedVariables false
/-- what lies there while sectors are still to come -/
def partM (d : Dm) (left : Int → Bool) : List (List UInt8) := d.dur.mapIdx fun i s => if left (i : Int) then s else (d.wr (i : Int)).getD s
theorem partM_get (d : Dm) (left : Int → Bool) (i : Nat) : (partM d left)[i]? = d.dur[i]?.map fun s => if left (i : Int) then s else (d.wr (i : Int)).getD s := by simp [partM]
theorem partM_len (d : Dm) (left : Int → Bool) : (partM d left).length = d.dur.length := by simp [partM]
theorem partM_all {d : Dm} (h : d.Ok) (left : Int → Bool) : ∀ s ∈ partM d left, s.length = 64 := fun s hs => by
  obtain ⟨i, hi⟩ := List.mem_iff_getElem?.1 hs
  rw [partM_get] at hi
  obtain ⟨s0, h0, rfl⟩ := Option.map_eq_some_iff.1 hi
  have h1 := h.len s0 (List.mem_of_getElem? h0)
  split
  · exact h1
  · cases hw : d.wr (i : Int) with
    | some u => exact h.wlen _ _ hw
    | none => exact h1
theorem partM_start {d : Dm} {left : Int → Bool} (hs : d.dur.length ≤ 1024) (h : ∀ q : Int, -9223372036854775808 ≤ q ∧ q ≤ 9223372036854775807 → left q = (d.wr q).isSome) : partM d left = d.dur := by
  apply List.ext_getElem?
  intro i
  rw [partM_get]
  cases hd : d.dur[i]? with
  | none => rfl
  | some s =>
    have hi := (List.getElem?_eq_some_iff.1 hd).1
    have hl := h (i : Int) (by omega)
    show some _ = some s
    congr 1
    rw [hl]
    cases d.wr (i : Int) <;> rfl
theorem partM_end {d : Dm} {left : Int → Bool} (h : ∀ q, left q = false) : partM d left = flushV d := by
  unfold partM flushV
  congr 1
  funext i s
  rw [h]; rfl
theorem partM_set {d : Dm} {left : Int → Bool} {i : Nat} {s : List UInt8} (hi : i < d.dur.length) (hw : d.wr (i : Int) = some s) : (partM d left).set i s = partM d (fun q => left q && !decide (q = (i : Int))) := by
  apply List.ext_getElem?
  intro j
  rw [List.getElem?_set, partM_get, partM_get]
  by_cases e : i = j
  · subst e
    rw [if_pos rfl, if_pos (by rw [partM_len]; exact hi), List.getElem?_eq_getElem hi]
    simp [hw]
  · rw [if_neg e]
    have e2 : ¬ ((j : Int) = (i : Int)) := by omega
    simp [e2]
theorem syncK_no {d : Dm} (h : d.fuse = 0) : syncK d = 17 ∧ syncM d = d := ⟨if_pos h, if_pos h⟩
theorem syncK_yes {d : Dm} (h : d.fuse ≠ 0) : syncK d = 0 ∧ syncM d = { d with dur := flushV d, wr := fun _ => none } := ⟨if_neg h, if_neg h⟩
set_option maxRecDepth 100000 in
set_option maxHeartbeats 4000000 in
theorem sync_any (ea : Nat → Addr) {w : World} {g gd gm : Nat} {d : Dm} (h : Dk w g gd gm d) (he17 : ErrAt w 2 (ea 17)) :
    Calls Tryd.prog 9 #[.pointer (some ⟨g, 0, none⟩)] w fun e w' => e = .returned (EV ea (syncK d)) ∧ Dk w' g gd gm (syncM d) ∧ Grew [g, gd, gm] w w' := by
  by_cases hf : d.fuse = 0
  · obtain ⟨h1, h2⟩ := syncK_no hf
    have HP := Lib.hid (power_no h hf)
    have HD := Lib.hid h
    have H1 := Lib.hid h1
    have H2 := Lib.hid h2
    unfold ErrAt at he17
    clear h hf h1 h2
    go_enter Tryd.func9, Tryd.ntmps9
    go_wp2_with fail
    refine HP.out.mono ?_
    rintro e w1 ⟨rfl, rfl⟩
    go_wp2_with fail
    go_ret
    exact ⟨ret1 (by rw [H1.out]; rfl), by rw [H2.out]; exact HD.out, Grew.refl _ _⟩
  · obtain ⟨h1, h2⟩ := syncK_yes hf
    have HP := Lib.hid (power_yes h hf)
    have HH := Lib.hid h
    have H1 := Lib.hid h1
    have H2 := Lib.hid h2
    have c1 := h.c1
    have hmap := h.wr
    obtain ⟨ap1, ap2, ap3⟩ := h.apart
    obtain ⟨lg, lgd, lgm⟩ := h.lt
    have hcells := h.cells
    have hdur := h.dur
    have hsz := h.ok.size
    clear h hf h1 h2 he17
    go_enter Tryd.func9, Tryd.ntmps9
    go_wp2_with fail
    refine HP.out.mono ?_
    rintro e w1 ⟨rfl, rfl⟩
    go_wp2_with (first
      | (at_range; refine wpList_rangeI _ rfl _ _ rfl 3 63 Tryd.underlying3 Tryd.underlying58 gm d.writes _ rfl hmap ?_; intro w1 left cnt hR hl hg1 hs1))
    have hG1 : Grew [gd] w w1 := (Grew.refl [gd] w).grown hg1 (fun i h => by cases h)
    have hc1 := hcells.grew hG1 (by simp; exact ap1)
    have hd1 := hdur.grown hg1 (by simp)
    rw [← partM_start hsz (left := left) (fun q hq => by rw [hl q hq]; simp)] at hd1
    obtain ⟨r, hr⟩ : ∃ r, r = w.heap.size := ⟨_, rfl⟩
    have hrd : r ≠ gd := by omega
    have hrg : r ≠ g := by omega
    have hwr : w.heap.size ≤ r := by omega
    rw [← hr] at hR ⊢
    clear hr hmap hcells hdur c1 hg1 hs1 hl
    go_frame
    go_loopw [3] (fun _ wr => ∃ (left : Int → Bool) (cnt : Nat), RangeI Tryd.prog 3 wr gm r d.writes (fun a => (d.wr a).map secV) left cnt ∧ CellsAt wr g 60 #[.slice (some ⟨gd, 0, none⟩) d.dur.length d.dur.length, .map (some gm), .int .i64 d.fuse, .int .i64 d.writes] ∧ CellsAt wr gd 63 ((partM d left).flatMap secC).toArray ∧ Grew [gd] w wr) (fun _ wr => wr.rangeLeft gm r)
    case atStart => exact ⟨left, cnt, hR, hc1, hd1, hG1⟩
    case round =>
      clear hR hc1 hd1 hG1 left cnt
      obtain ⟨left, cnt, hR, hc, hd, hG⟩ := hrel
      go_wp2_with (first
        | (at_next; refine wpList_nextI _ rfl _ rfl 3 Tryd.underlying3 gm r d.writes _ left cnt rfl hR ?_ ?_))
      · intro _ hl0
        have q1 := hc.cell 1 (v := .map (some gm)) rfl
        have hown := hR.owns
        rw [partM_end hl0] at hd
        clear hR hl0
        go_wp2_with (first
          | (refine wpList_clearI _ rfl _ _ rfl 3 63 Tryd.underlying58 gm d.writes _ rfl hown ?_; intro w5 hm5 hg5))
        have hc5 := hc.grown hg5 (fun e => ap2 (by cases e; rfl))
        have hd5 := hd.grown hg5 (fun e => ap3 (by cases e; rfl))
        have hG5 : Grew [g, gd, gm] w w5 := (hG.mono (by simp)).grown hg5 (fun i hi => by cases hi; simp)
        clear hc hd hown hG hg5 q1
        go_wp2_with fail
        go_ret
        refine ⟨ret1 (by rw [H1.out]; rfl), ?_, hG5⟩
        have hok := HH.out.ok.sync
        have hsm := HH.out.small
        rw [H2.out] at hok ⊢
        refine ⟨?_, hd5, (hm5.mono (Nat.zero_le _)).congr (fun a _ => rfl), hok, hsm⟩
        show CellsAt _ _ _ #[.slice (some ⟨gd, 0, none⟩) (flushV d).length (flushV d).length, _, _, _]
        rw [flushV_len]; exact hc5
      · intro x c w1 cnt1 hxa hxb hlx s hws hsc hR1 hlt hg1 hs1 hen
        subst hsc
        obtain ⟨hx0, hx1⟩ := HH.out.ok.within _ _ hws
        have hs64 := HH.out.ok.wlen _ _ hws
        obtain ⟨i, rfl⟩ := Int.eq_ofNat_of_zero_le hx0
        have hin : i < d.dur.length := by omega
        have hc1 := hc.grown hg1 (fun e => hrg (by cases e; rfl))
        have hd1 := hd.grown hg1 (fun e => hrd (by cases e; rfl))
        have hpl := partM_len d left
        have hpa := partM_all HH.out.ok left
        have hps := partM_set (left := left) hin hws
        have HWS := Lib.hid hws
        have HS := Lib.hid hs64
        have HPS := Lib.hid hps
        have HLT := Lib.hid hlt
        have HLE := Lib.hid hR.left_eq
        have HPA := Lib.hid hpa
        have HPL := Lib.hid hpl
        have hGr : Grew [gd] w w1 := hG.grown hg1 (fun i hi => by cases hi; exact .inr hwr)
        have hlg := hc1.lt
        have hlgd := hd1.lt
        have hlr := hR1.lt
        have hlgm : gm < w1.heap.size := hR1.owns.lt
        clear hws hs64 hps hlt hR hc hd hG hpa hpl hlx hg1 hs1
        go_wp2_with (first
          | (refine wpList_allocSec rfl 4 rfl rfl ?_; intro w2 hc2 hb2 hs2)
          | (refine wpList_storeSec rfl _ _ rfl w1.heap.size (by rfl) s (by rfl) HS.out _ secZ hc2 secZ_size ?_; intro w3 hc3 hg3))
        have hG13 : Grew [gd] w1 w3 := ((Grew.ofBelow (S := [gd]) hb2).grown hg3 (fun i hi => by cases hi; exact .inr (Nat.le_refl _)))
        have hc3' := hc1.grew hG13 (by simp; exact ap1)
        have hd3 := (hd1.stays hb2).grown hg3 (fun e => by cases e; omega)
        have c0 := hc3'.cell 0 (v := .slice (some ⟨gd, 0, none⟩) d.dur.length d.dur.length) rfl
        have c0d : w3.drew.cell? ⟨g, 0, none⟩ = some (.slice (some ⟨gd, 0, none⟩) d.dur.length d.dur.length) := c0
        have hra : w3.rangeAt w1.heap.size 0 (secC s) := fun j v hv => by
          rw [Nat.zero_add]
          exact hc3.cell j (by rw [List.getElem?_toArray]; exact hv)
        have hth : w3.there gd (i * 64) 64 := fun j hj => by
          refine ⟨?_, hd3.free _⟩
          rw [hd3.cell (i * 64 + j) (v := ((partM d left).flatMap secC)[i * 64 + j]'(by rw [secs_len _ HPA.out, HPL.out]; omega)) (by rw [List.getElem?_toArray, List.getElem?_eq_getElem])]
          rfl
        have hii : (i : Int) < d.dur.length := by omega
        have hput := secs_put (w := w3.drew) hd3 HPA.out (i := i) (by rw [HPL.out]; exact hin) s HS.out
        rw [HPS.out] at hput
        have hR3 := (hR1.kept (Grew.toGrown hG13 (fun i hi => by simp at hi; exact .inl hi)) (by simp; exact ap3) (by simp; exact hrd))
        have hgw : w3.drew.grownBy (w3.drew.setCells gd (i * 64) (secC s)) (some gd) := Grew.toGrown (grew_setCells (S := [gd]) (.inl (by simp)) _ _ (Grew.refl [gd] w3.drew)) (fun i hi => by simp at hi; exact .inl hi)
        have HR4 := Lib.hid (hR3.drew.kept hgw (by simp; exact ap3) (by simp; exact hrd))
        have HC4 := Lib.hid (CellsAt.grown (w := w3.drew) hc3' hgw (by simp; exact fun e => ap1 e.symm))
        have HG4 := Lib.hid ((hGr.trans hG13).drew.trans (Grew.ofGrown hgw))
        have HPUT := Lib.hid hput
        have hu := Tryd.underlying63
        have hsl : (secC s).length = 64 := by rw [secC_len]; exact HS.out
        have hi64 : (Tryd.prog.info? 63).map (·.size) = some (secC s).length := by rw [hsl]; exact sizeSec
        have hone := secC_one s
        have hi0 : (0 : Int) ≤ (i : Int) := by omega
        have hkeep : ∀ (W : World) (vs : List Value), (W.setCells gd (i * 64) vs).cell? ⟨g, 0, none⟩ = W.cell? ⟨g, 0, none⟩ := fun W vs => World.cell?_setCells_out gd vs _ W _ (fun e => absurd e ap1)
        obtain ⟨U, hU⟩ : ∃ U, U = secC s := ⟨_, rfl⟩
        have HU := Lib.hid hU
        have hUV : secV s = .agg U.toArray := by rw [hU]; rfl
        rw [← hU] at hra hsl hi64 hone
        rw [hUV]
        clear hR1 hc1 hd1 hb2 hs2 hc2 hc3 hg3 hG13 hc3' hd3 hput hR3 hgw hGr hen c0d hU hUV
        go_frame
        go_region_held3 (fun w' => w'.cell? ⟨g, 0, none⟩ = some (.slice (some ⟨gd, 0, none⟩) d.dur.length d.dur.length) ∧ w'.rangeAt w1.heap.size 0 U ∧ w'.there gd (i * 64) 64) (first | go_keep_ranges | (go_split_ands; refine ⟨?_, ?_, ?_⟩ <;> first | go_keep_ranges | (rw [hkeep]; assumption) | (rw [hkeep]; simp [*]; done)) | (refine ⟨?_, ?_, ?_⟩ <;> first | go_keep_ranges | (rw [hkeep]; assumption) | (rw [hkeep]; simp [*]; done))) (fail)
        all_goals go_wp2_with fail
        rw [← HU.out] at HR4 HC4 HPUT HG4
        exact ⟨⟨_, cnt1, HR4.out, HC4.out, HPUT.out, HG4.out⟩, by rw [HR4.out.left_eq, HLE.out]; exact HLT.out⟩
end Go.Proofs.YtalebgnnlgcglaaDoor
