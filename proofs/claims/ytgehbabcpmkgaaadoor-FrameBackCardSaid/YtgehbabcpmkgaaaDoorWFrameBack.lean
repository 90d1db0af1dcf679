/- The walk of FrameBack: what is written is scanned as it was. -/
import Derived.Test.YtgehbabcpmkgaaaDoorDkJ
import Derived.Test.YtgehbabcpmkgaaaDoorDkY
import Derived.Test.YtgehbabcpmkgaaaDoorOpenI
import Derived.Test.YtgehbabcpmkgaaaDoorAlive32
import Derived.Deep.RegionHeld3
import Derived.Deep.CutBlock
import Derived.Deep.DeepCutAuto
import Derived.Deep.DrawnRows
namespace Go.Proofs.YtgehbabcpmkgaaaDoor
open Go Go.RowKit
set_option linter.unusedVariables false
def GV (n : Nat) : Value := .int .u32 (n : Int)
theorem GV_one (n : Nat) : (GV n).oneCell' = true := rfl
theorem infoU32 : (Tryd.prog.info? 22).map (fun i => (i.zero, i.size, i.bytes)) = some (some (.int .u32 0), 1, 4) := by kernel_rfl
/-- the frames that were written of the first k payloads -/
def backL (ps : List (Value × List UInt8)) (k : Nat) : List (Nat × List UInt8) := (ps.take k).mapIdx fun i p => (1000 + i / 2, p.2)
theorem backL_succ {ps : List (Value × List UInt8)} {k : Nat} {p : Value × List UInt8} (h : ps[k]? = some p) : backL ps (k + 1) = backL ps k ++ [(1000 + k / 2, p.2)] := by
  have hk := (List.getElem?_eq_some_iff.1 h).1
  unfold backL
  rw [List.take_add_one, h]
  simp [List.mapIdx_append, List.length_take, Nat.min_eq_left (Nat.le_of_lt hk)]
theorem backL_get (ps : List (Value × List UInt8)) (k i : Nat) (hi : i < k) {p : Value × List UInt8} (h : ps[i]? = some p) : (backL ps k)[i]? = some (1000 + i / 2, p.2) := by
  unfold backL
  rw [List.getElem?_mapIdx, List.getElem?_take, if_pos hi, h]; rfl
theorem backL_len {ps : List (Value × List UInt8)} {k : Nat} (h : k ≤ ps.length) : (backL ps k).length = k := by unfold backL; simp; omega
theorem rise_idx : ∀ (n i : Nat) (l : List (Nat × List UInt8)) (least most : Nat), (∀ j p, l[j]? = some p → p.1 = 1000 + (i + j) / 2) → l.length ≤ n → least ≤ 1000 + i / 2 → (∀ p ∈ l, p.1 ≤ most) → Rise least l most
  | _, _, [], _, _, _, _, _, _ => trivial
  | 0, _, p :: r, _, _, _, h, _, _ => by simp at h
  | n + 1, i, p :: r, least, most, hg, hl, hle, hm => by
    have h0 := hg 0 p rfl
    rw [Nat.add_zero] at h0
    refine ⟨by omega, hm p (by simp), rise_idx n (i + 1) r p.1 most (fun j q hq => ?_) (by simpa using hl) (by omega) (fun q hq => hm q (by simp [hq]))⟩
    have := hg (j + 1) q (by simpa using hq)
    rw [this]; congr 1; omega
theorem back_rise (ps : List (Value × List UInt8)) {k : Nat} (h : k ≤ ps.length) (h0 : 0 < k) : Rise 1000 (backL ps k) (1000 + (k - 1) / 2) := by
  have hget : ∀ j p, (backL ps k)[j]? = some p → p.1 = 1000 + j / 2 ∧ j < k := fun j p hp => by
    have hj : j < k := by have := (List.getElem?_eq_some_iff.1 hp).1; rw [backL_len h] at this; exact this
    obtain ⟨q, hq⟩ : ∃ q, ps[j]? = some q := ⟨_, List.getElem?_eq_getElem (by omega)⟩
    rw [backL_get ps k j hj hq] at hp
    cases hp
    exact ⟨rfl, hj⟩
  refine rise_idx k 0 _ _ _ (fun j p hp => by rw [(hget j p hp).1, Nat.zero_add]) (by rw [backL_len h]; exact Nat.le_refl _) (by omega) (fun p hp => ?_)
  obtain ⟨j, hj⟩ := List.mem_iff_getElem?.1 hp
  obtain ⟨h1, h2⟩ := hget j p hj
  rw [h1]
  have : j / 2 ≤ (k - 1) / 2 := Nat.div_le_div_right (by omega)
  omega
theorem frsOf_next : ∀ (l : List (Nat × List UInt8)) (a e : Int) (d : Dm), StandAll d a l e → nextV (frsOf a l) a = e
  | [], a, e, d, h => h
  | [p], a, e, d, h => by have h2 : a + manyV p.2.length = e := h.2; show a + manyV p.2.length = e; exact h2
  | p :: q :: r, a, e, d, h => by
    have := frsOf_next (q :: r) _ e d h.2
    rw [← this]
    unfold nextV
    simp only [frsOf, List.getLast?_cons_cons]
    rw [List.getLast?_eq_some_getLast (by simp)]
def genC (n : Nat) : List Value := [.int .u32 (n : Int)]
theorem genC_len (n : Nat) : (genC n).length = 1 := rfl
theorem genC_one (n : Nat) : (genC n).all Value.oneCell' = true := rfl
def gensL (ps : List (Value × List UInt8)) (k : Nat) : List Nat := (backL ps k).map Prod.fst
theorem gensL_len {ps : List (Value × List UInt8)} {k : Nat} (h : k ≤ ps.length) : (gensL ps k).length = k := by unfold gensL; rw [List.length_map, backL_len h]
theorem gensL_get {ps : List (Value × List UInt8)} {k i : Nat} (h : k ≤ ps.length) (hi : i < k) : (gensL ps k)[i]? = some (1000 + i / 2) := by
  obtain ⟨p, hp⟩ : ∃ p, ps[i]? = some p := ⟨_, List.getElem?_eq_getElem (by omega)⟩
  unfold gensL
  rw [List.getElem?_map, backL_get ps k i hi hp]; rfl
theorem gensL_succ {ps : List (Value × List UInt8)} {k : Nat} (h : k < ps.length) : gensL ps (k + 1) = gensL ps k ++ [1000 + k / 2] := by
  unfold gensL
  rw [backL_succ (List.getElem?_eq_getElem h), List.map_append]; rfl
set_option maxRecDepth 100000 in
set_option maxHeartbeats 8000000 in
theorem walkFrameBack (w : World) (vi : Value) (qs : List (Value × List UInt8)) (hri : RowL Prod.fst w vi qs) (hpi : ∀ p ∈ qs, RowB w p.1 p.2) (vl : Value) (ps : List (Value × List UInt8)) (hrl : RowS imC w vl ps) (hgood : ∀ p ∈ ps, imG w p) (ea : Nat → Addr) (e1 : ErrAt w 2 (ea 1)) (e2 : ErrAt w 3 (ea 2)) (e3 : ErrAt w 0 (ea 3)) (e14 : ErrAt w 5 (ea 14)) (e15 : ErrAt w 6 (ea 15)) (e17 : ErrAt w 7 (ea 17)) (e18 : ErrAt w 8 (ea 18)) :
    Calls Tryd.prog 13 #[.agg #[vi], vl] w fun e w' => e = .returned (.bool true) ∧ Below w.heap.size w w' := by
  have he : ErrsFew ea w := ⟨e1, e2, e3, e14, e15, e17, e18⟩
  have hrp := im_row hrl
  obtain ⟨a, c, rfl, -, -⟩ := hri.shape
  obtain ⟨al, cl, rfl, -, -⟩ := hrp.shape
  have hbA : Below w.heap.size w (w.alloc (.cells #[.slice a qs.length c] 85)) := (Below.refl _ _).alloc (Nat.le_refl _) _
  have hcI := CellsAt.new w #[.slice a qs.length c] 85
  obtain ⟨W0, hW0⟩ : ∃ W, W = w.alloc (.cells #[.slice a qs.length c] 85) := ⟨_, rfl⟩
  rw [← hW0] at hbA hcI
  have hA := alive32 ea W0 (he.stays hbA).e3
  rw [hW0] at hA
  have HA := Lib.hid hA
  have HW0 := Lib.hid hW0
  have HE : Hid (∀ w', Below w.heap.size w w' → ErrsFew ea w') := fun w' hb => he.stays hb
  have HRI : Hid (∀ w', Below w.heap.size w w' → RowL Prod.fst w' (.slice a qs.length c) qs) := fun w' hb => hri.stays hb
  have HPI : Hid (∀ w', Below w.heap.size w w' → ∀ p ∈ qs, RowB w' p.1 p.2) := fun w' hb p hq => (hpi p hq).stays hb
  have HRP : Hid (∀ w', Below w.heap.size w w' → RowL Prod.fst w' (.slice al ps.length cl) ps) := fun w' hb => hrp.stays hb
  have HPS : Hid (∀ w', Below w.heap.size w w' → ∀ p ∈ ps, RowB w' p.1 p.2) := fun w' hb p hq => (show RowB w p.1 p.2 from hgood p hq).stays hb
  have hll : ps.length ≤ 9223372036854775807 := by rcases hrp with ⟨h1, _⟩ | ⟨_, _, _, hv, h1, h2, _⟩ <;> unfold maxLen at * <;> omega
  clear he e1 e2 e3 e14 e15 e17 e18 hri hpi hrl hrp hgood hW0 hA
  go_enter Tryd.func13, Tryd.ntmps13
  go_wp2_with fail
  refine HA.out.mono ?_
  rintro e w1 ⟨rfl, hb1⟩
  rw [← HW0.out] at hb1
  have hbe1 : Below w.heap.size w w1 := hbA.trans (hb1.mono hbA.size)
  have hcI1 := hcI.stays hb1
  have q0 := hcI1.cell 0 (v := .slice a qs.length c) rfl
  have HM := Lib.hid (make_any ea _ qs w1 (HRI.out _ hbe1) (HPI.out _ hbe1) (HE.out _ hbe1).e1 (HE.out _ hbe1).e3 (HE.out _ hbe1).e17)
  have HBW : Hid (∀ W, Below w1.heap.size w1 W → Below w.heap.size w W) := fun W hW => hbe1.trans (hW.mono hbe1.size)
  have HIM : Hid (∀ W, Below w1.heap.size w1 W → W.cell? ⟨w.heap.size, 0, none⟩ = some (.slice a qs.length c)) := fun W hW => (hcI1.stays hW).cell 0 (v := .slice a qs.length c) rfl
  clear HA hcI hcI1 hb1 hbA hbe1 HW0
  go_wp2_with fail
  refine HM.out.mono ?_
  clear HM q0
  rintro e w2 (⟨rfl, hb2⟩ | ⟨g, gd, gm, h, D0, rfl, hk2, -, hf2, hl2, hw2, hn1, hn2, g1, g2, g3, g4, hb2⟩)
  · have hbe2 := HBW.out w2 hb2
    clear hb2
    go_wp2_with fail
    go_ret
    exact ⟨rfl, hbe2⟩
  · by_cases hl10 : 10 < ps.length
    · have hbe2 := HBW.out w2 hb2
      clear hb2 hk2
      go_wp2_with fail
      go_ret
      exact ⟨rfl, hbe2⟩
    · have qI := HIM.out w2 hb2
      have how : OwnS 22 1 genC w1.heap.size (w2.alloc (.cells #[] 22)) (.slice (some ⟨w2.heap.size, 0, none⟩) 0 0) (gensL ps 0) := World.ownsRow_made (base := w1.heap.size) (e := 22) (size := 1) w2 #[] 0 hb2.size (Nat.zero_le _) rfl
      have hbx : Below w2.heap.size w2 (w2.alloc (.cells #[] 22)) := (Below.refl _ _).alloc (Nat.le_refl _) _
      have hkx := hk2.stays hbx
      have hbex := hb2.trans (hbx.mono hb2.size)
      clear hk2 hb2 hbx
      go_wp2_with fail
      go_loopw [41, 8, 10] (fun i at' gv wr => ∃ (k : Nat) (D : Dm) (A : Int), k ≤ ps.length ∧ i = .int .i64 k ∧ at' = .int .i64 A ∧ OwnS 22 1 genC w1.heap.size wr gv (gensL ps k) ∧ Dk wr g gd gm D ∧ D.fuse = -1 ∧ D.dur.length = qs.length ∧ D.writes ≤ 40 + 130 * k ∧ StandAll D 0 (backL ps k) A ∧ 0 ≤ A ∧ A ≤ qs.length ∧ Below w1.heap.size w1 wr) (fun i _ _ _ => ps.length - (intOf i).toNat)
      case atStart => exact ⟨0, D0, 0, Nat.zero_le _, rfl, rfl, how, hkx, hf2, hl2, by omega, rfl, by omega, by omega, hbex⟩
      case round =>
        clear how hkx hbex qI hf2 hl2
        obtain ⟨k, D, A, hk, rfl, rfl, hown, hkd, hfu, hDl, hDw, hst, hA0, hA1, hbe⟩ := hrel
        by_cases hlt : k < ps.length
        · obtain ⟨⟨pv, bs⟩, hp⟩ : ∃ p, ps[k]? = some p := ⟨_, List.getElem?_eq_getElem hlt⟩
          obtain ⟨_, _, hv, -, hin⟩ := (HRP.out wr (HBW.out wr hbe)).shape
          cases hv
          obtain ⟨bb, oo, rfl, hc⟩ := hin k _ hp
          have hrb := HPS.out wr (HBW.out wr hbe) _ (List.mem_of_getElem? hp)
          replace hrb : RowB wr pv bs := hrb
          obtain ⟨va, vc, rfl, hvl, -⟩ := hrb.gen.shape
          replace hc : wr.cell? ⟨bb, oo + k, none⟩ = some (.slice va bs.length vc) := hc
          unfold maxLen at hvl
          clear hin
          by_cases h9 : 9000 < bs.length
          · have hbw := HBW.out wr hbe
            clear hkd hown hbe hst
            go_wp2_with fail
            go_ret
            exact ⟨rfl, hbw⟩
          · have hsz := hkd.ok.size
            have hFW := fwrite_any ea hkd (a := A) (e := qs.length) (by omega) (by omega) (by omega) (by omega) (1000 + k / 2) (by omega) _ bs hrb (by omega) (by omega) (fun W hW => HE.out W (HBW.out W (hW.below hbe (by intro i hi; simp at hi; omega) hbe.size)))
            have hfo := frameW_ok hkd.ok A qs.length (1000 + k / 2) bs
            have hfs := frameW_stands hkd.ok hfu (a := A) (e := qs.length) (gen := 1000 + k / 2) (by omega) (bs := bs) hA0 (by omega)
            have hgi : ((1000 + k / 2 : Nat) : Int) = 1000 + (k : Int) / 2 := by omega
            rw [hgi] at hFW
            have hgS := gensL_succ hlt
            have hbS := backL_succ hp
            obtain ⟨D2, F, K, hT⟩ : ∃ D2 F K, frameW D A qs.length (1000 + k / 2) bs = (D2, F, K) := ⟨_, _, _, rfl⟩
            rw [hT] at hFW hfo hfs
            replace hfs : (K ≠ 0 ∧ D2 = D) ∨ (K = 0 ∧ F = manyV bs.length ∧ D2.fuse = -1 ∧ A + manyV bs.length ≤ qs.length ∧ Stands D2 A (1000 + k / 2) bs ∧ ∀ y, y < A → getV D2 y = getV D y) := hfs
            have hk2 : (k : Int) ≤ 10 := by omega
            have HOW := Lib.hid hown
            have HFO := Lib.hid hfo
            have HBE := Lib.hid hbe
            have HKD := Lib.hid hkd
            rcases hfs with ⟨hK0, hDD⟩ | ⟨hK0, hF, hfu2, hfit, hsta, hkeep⟩
            · rw [EV_pos ea hK0] at hFW
              have HFW := Lib.hid hFW
              have HDD := Lib.hid hDD
              clear hFW hT hfo hK0 hown hbe hkd hrb hp hgi hgS hbS hDD
              go_wp2_with fail
              refine HFW.out.mono ?_
              rintro e w3 ⟨rfl, hk3, hg3⟩
              have hk3' : Dk w3 g gd gm D := by have := hk3; rw [HDD.out] at this; exact this
              have hown3 := HOW.out.grew hg3 (fun q hq => by
                have a1 := HOW.out.ne HKD.out.cells (by decide) q hq
                have a2 := HOW.out.ne HKD.out.dur (by decide) q hq
                have a3 := HOW.out.neMap HKD.out.wr q hq
                simp [a1, a2, a3])
              have hbe3 := hg3.below HBE.out (by intro i hi; simp at hi; omega) HBE.out.size
              clear hk3 hg3 HFW HOW HBE HKD HFO HDD hc
              have hkd9 := hk3'
              have how9 := hown3
              have hbe9 := hbe3
              obtain ⟨W9, hW9⟩ : ∃ W, W = w3 := ⟨_, rfl⟩
              rw [← hW9] at hkd9 how9 hbe9 ⊢
              clear hW9
              clear hk3' hown3 hbe3
              obtain ⟨ga, gc, rfl, -, -⟩ := how9.row.shape genC_len
              have hglen := gensL_len hk
              rw [hglen] at how9 ⊢
              by_cases hk0 : k = 0
              · have hki : (k : Int) = 0 := by omega
                rw [hk0]
                have hbw := HBW.out W9 hbe9
                clear hkd9 how9 hbe9 hglen hki
                go_wp2_with fail
                go_ret
                exact ⟨rfl, hbw⟩
              · obtain ⟨j, hj⟩ : ∃ j, k = j + 1 := ⟨k - 1, by omega⟩
                have hne : gensL ps k ≠ [] := fun h => by rw [h] at hglen; simp at hglen; omega
                obtain ⟨gb, gc', hv, hgb, -, hgcap, -, hgin⟩ := OwnS.block how9 genC_len hne
                simp only [Value.slice.injEq] at hv
                obtain ⟨rfl, -, rfl⟩ := hv
                have hgj : (gensL ps k)[j]? = some (1000 + j / 2) := gensL_get hk (by omega)
                have d0 : W9.cell? ⟨gb, j * 1 + 0, none⟩ = some (.int .u32 ((1000 + j / 2 : Nat) : Int)) := hgin j _ hgj 0 _ rfl
                rw [Nat.mul_one, Nat.add_zero] at d0
                obtain ⟨hall, hke⟩ := StandAll.all hkd9.ok (least := 1000) (most := 1000 + (k - 1) / 2) hst (by omega) (back_rise ps hk (by omega))
                have hmo : 1000 + (k - 1) / 2 = 1000 + j / 2 := by omega
                rw [hmo] at hall
                have hS := fscan_any ea hkd9 (by rw [hfu]; decide) (a := 0) (e := A) (by omega) (by omega) (by omega) (by omega) 1000 (1000 + j / 2) (by omega) (by omega) (fun W hW => HE.out W (HBW.out W (hbe9.trans (hW.mono hbe9.size))))
                unfold FScan at hS
                rw [hall, hke, EV_zero] at hS
                have hnx := frsOf_next _ _ _ _ hst
                have hflen := frsOf_len (backL ps k) 0
                rw [backL_len hk] at hflen
                have HGT : Hid (∀ i p, ps[i]? = some p → i < k → ∃ F, (frsOf 0 (backL ps k))[i]? = some F ∧ F.gen = 1000 + i / 2 ∧ F.load = p.2) := fun i p hp hi => by
                  obtain ⟨F, h1, h2, h3⟩ := frsOf_get (backL ps k) 0 i _ (backL_get ps k i hi hp)
                  exact ⟨F, h1, h2, h3⟩
                have HINB : Hid (∀ F ∈ frsOf 0 (backL ps k), 0 ≤ F.at' ∧ 1 ≤ F.many ∧ F.at' + F.many ≤ 1024 ∧ F.gen ≤ 4294967295) := fun F hF => scanAll_in hkd9.ok (a := 0) (e := A) (least := 1000) (most := 1000 + j / 2) F (by rw [hall]; exact hF)
                obtain ⟨R, hR⟩ : ∃ R, R = frsOf 0 (backL ps k) := ⟨_, rfl⟩
                rw [← hR] at hS hnx hflen HGT HINB
                have HS := Lib.hid hS
                have HNX := Lib.hid hnx
                have HFL := Lib.hid hflen
                have HOW := Lib.hid how9
                have HGB : Hid (∀ W, Below W9.heap.size W9 W → ∀ i, i < k → W.cell? ⟨gb, i, none⟩ = some (.int .u32 ((1000 + i / 2 : Nat) : Int))) := fun W hW i hi => by
                  obtain ⟨g', c', hv, -, -, -, -, hin⟩ := OwnS.block (HOW.out.stays hW) genC_len hne
                  simp only [Value.slice.injEq, Option.some.injEq, Addr.mk.injEq] at hv
                  obtain ⟨⟨rfl, -, -⟩, -, -⟩ := hv
                  have := hin i _ (gensL_get hk hi) 0 _ rfl
                  rwa [Nat.mul_one, Nat.add_zero] at this
                have HB9 := Lib.hid hbe9
                have HKJ := Lib.hid hj
                have i1 : (k : Int) - 1 = (j : Int) := by omega
                have hji : (j : Int) < k := by omega
                have hG0 : ((1000 + j / 2 : Nat) : Int) ≤ 4294967295 := by omega
                obtain ⟨Q, hQ⟩ : ∃ Q, Q = 1000 + j / 2 := ⟨_, rfl⟩
                rw [← hQ] at d0 HS hG0
                have hk1 : 0 < k := by omega
                clear hkd9 how9 hall hke hmo hS hnx hflen hR hne hgb hgin hgj hj hQ hglen hst
                go_wp2_with fail
                refine HS.out.mono ?_
                rintro e wa ⟨v16, fs, rfl, hrow, hfs, hld, hba⟩
                have hfl : fs.length = k := by rw [← HFL.out, ← hfs, List.length_map]
                obtain ⟨a16, c16, rfl, -, -⟩ := hrow.shape frC_len
                have HN := Lib.hid (fnext_any wa _ fs hrow 0 (fun p hp => by
                  have := HINB.out p.f (by rw [← hfs]; exact List.mem_map.2 ⟨p, hp, rfl⟩)
                  omega))
                rw [hfs, HNX.out] at HN
                rw [hfl]
                rw [hfl] at HN
                have HRF : Hid (∀ W, Below wa.heap.size wa W → RowS frC W (.slice a16 k c16) fs) := fun W hW => by rw [hfl] at hrow; exact hrow.stays hW
                have HLD : Hid (∀ W, Below wa.heap.size wa W → ∀ p ∈ fs, RowB W p.v p.f.load) := fun W hW p hp => (hld p hp).stays hW
                have HBA := Lib.hid hba
                have HFS := Lib.hid hfs
                have HFLL := Lib.hid hfl
                have bk : ((k : Int) == k) = true := by simp
                have bk' : ((k : Int) != k) = false := by simp
                have ba : ((A : Int) == A) = true := by simp
                have ba' : ((A : Int) != A) = false := by simp
                clear hrow hfs hfl hld hba HS d0 i1
                go_wp2_with fail
                refine HN.out.mono ?_
                rintro e wb ⟨rfl, hbb⟩
                clear HN
                go_wp2_with fail
                go_loopw [104] (fun i wr => ∃ t : Nat, t ≤ k ∧ i = .int .i64 t ∧ Below wa.heap.size wa wr) (fun i _ => k - (intOf i).toNat)
                case atStart => exact ⟨0, Nat.zero_le _, rfl, hbb⟩
                case round =>
                  clear hbb bk bk' ba ba'
                  obtain ⟨t, ht, rfl, hbt⟩ := hrel
                  by_cases hlt2 : t < k
                  · obtain ⟨⟨fa, fl, fc, ⟨FA, FM, FG, FP⟩⟩, hp⟩ : ∃ p, fs[t]? = some p := ⟨_, List.getElem?_eq_getElem (by rw [HFLL.out]; exact hlt2)⟩
                    obtain ⟨⟨pv, bs⟩, hpp⟩ : ∃ p, ps[t]? = some p := ⟨_, List.getElem?_eq_getElem (by omega)⟩
                    obtain ⟨F, hF1, hF2, hF3⟩ := HGT.out t _ hpp hlt2
                    rw [← HFS.out, List.getElem?_map, hp] at hF1
                    cases hF1
                    replace hF2 : FG = 1000 + t / 2 := hF2
                    replace hF3 : FP = bs := hF3
                    subst hF2
                    subst hF3
                    have hrp := HLD.out wr hbt _ (List.mem_of_getElem? hp)
                    replace hrp : RowB wr (.slice fa fl fc) FP := hrp
                    obtain ⟨_, _, hv, -, -⟩ := hrp.gen.shape
                    cases hv
                    obtain ⟨_, _, hv, -, hin⟩ := (HRF.out wr hbt).shape frC_len
                    simp only [Value.slice.injEq] at hv
                    obtain ⟨rfl, -, -⟩ := hv
                    obtain ⟨bb, oo, rfl, hc⟩ := hin t _ hp
                    have d0 : wr.cell? ⟨bb, oo + (t * 4 + 0), none⟩ = some (.int .i64 FA) := hc 0 _ rfl
                    have d1 : wr.cell? ⟨bb, oo + (t * 4 + 1), none⟩ = some (.int .i64 FM) := hc 1 _ rfl
                    have d2 : wr.cell? ⟨bb, oo + (t * 4 + 2), none⟩ = some (.int .u32 ((1000 + t / 2 : Nat) : Int)) := hc 2 _ rfl
                    have d3 : wr.cell? ⟨bb, oo + (t * 4 + 3), none⟩ = some (.slice fa FP.length fc) := hc 3 _ rfl
                    rw [Nat.add_zero] at d0
                    rw [← Nat.add_assoc] at d1 d2 d3
                    obtain ⟨W1, hW1⟩ : ∃ W, W = wr.alloc (.cells #[.int .i64 FA, .int .i64 FM, .int .u32 ((1000 + t / 2 : Nat) : Int), .slice fa FP.length fc] 122) := ⟨_, rfl⟩
                    have hbA : Below wr.heap.size wr W1 := by rw [hW1]; exact (Below.refl _ _).alloc (Nat.le_refl _) _
                    have hcQ : CellsAt W1 wr.heap.size 122 #[.int .i64 FA, .int .i64 FM, .int .u32 ((1000 + t / 2 : Nat) : Int), .slice fa FP.length fc] := by rw [hW1]; exact CellsAt.new wr _ _
                    have hb1 := hbt.trans (hbA.mono hbt.size)
                    have hb91 := HBA.out.trans (hb1.mono HBA.out.size)
                    have hbw1 := HBW.out W1 (HB9.out.trans (hb91.mono HB9.out.size))
                    have e0 := HGB.out W1 hb91 t hlt2
                    obtain ⟨Z, hZ⟩ : ∃ Z : Int, Z = ((1000 + t / 2 : Nat) : Int) := ⟨_, rfl⟩
                    rw [← hZ] at d2 hW1 hcQ e0
                    obtain ⟨_, _, hv, -, hin2⟩ := (HRP.out W1 hbw1).shape
                    simp only [Value.slice.injEq] at hv
                    obtain ⟨rfl, -, -⟩ := hv
                    obtain ⟨pb, po, hpa, hc2⟩ := hin2 t _ hpp
                    have hrw := HPS.out W1 hbw1 _ (List.mem_of_getElem? hpp)
                    replace hrw : RowB W1 pv FP := hrw
                    obtain ⟨wa', wc', rfl, -, -⟩ := hrw.gen.shape
                    replace hc2 : W1.cell? ⟨pb, po + t, none⟩ = some (.slice wa' FP.length wc') := hc2
                    have hbq : ∀ n, Below W1.heap.size W1 (W1.drewN n) := fun n => ⟨rfl, rfl, rfl, Nat.le_refl _, fun _ _ => rfl⟩
                    have s1 : ∀ n, (convert 23 9 (.slice fa FP.length fc)).run Tryd.prog (W1.drewN n) = .ok (.string (strB FP)) (W1.drewN n) := fun n => convert_str ((hrp.stays hbA).stays (hbq n))
                    have s2 : ∀ n, (convert 23 9 (.slice wa' FP.length wc')).run Tryd.prog (W1.drewN n) = .ok (.string (strB FP)) (W1.drewN n) := fun n => convert_str (hrw.stays (hbq n))
                    have bz : (Z == Z) = true := by simp
                    have bz' : (Z != Z) = false := by simp
                    have bs1 : ((strB FP).toList == (strB FP).toList) = true := by simp
                    have bs2 : ((strB FP).toList != (strB FP).toList) = false := by simp
                    have q2 := hcQ.cell 2 (v := .int .u32 Z) rfl
                    have q3 := hcQ.cell 3 (v := .slice fa FP.length fc) rfl
                    have HW1 := Lib.hid hW1
                    have HB1 := Lib.hid hb1
                    clear hc hin hin2 hrp hp hpp hW1 hbA hcQ hbt hb1 hb91 hbw1 hrw hZ hbq
                    cases hpa
                    go_upto_region 28 with (fail)
                    clear d0 d1 d2 d3
                    rw [← HW1.out]
                    clear HW1
                    go_quiet (fail)
                    clear q2 q3 e0 hc2 s1 s2
                    go_wp2_with fail
                    go_roundw
                    case rel => exact ⟨t + 1, by omega, by go_num, below_drewQ HB1.out⟩
                    case measure => simp [intOf]; omega
                  · obtain rfl : t = k := by omega
                    have hbw := HBW.out wr (HB9.out.trans ((HBA.out.trans (hbt.mono HBA.out.size)).mono HB9.out.size))
                    clear hbt
                    go_wp2_with fail
                    go_ret
                    exact ⟨rfl, hbw⟩
            · subst hK0
              subst hF
              rw [show (D2, ((manyV bs.length : Nat) : Int), 0).2.2 = 0 from rfl, EV_zero] at hFW
              have HFW := Lib.hid hFW
              have hMb : (manyV bs.length : Int) ≤ 200 := by unfold manyV; omega
              have HST2 : Hid (StandAll D2 0 (backL ps (k + 1)) (A + manyV bs.length)) := by
                show StandAll _ _ _ _
                rw [hbS]
                exact (hst.congr (by intro y hy; exact hkeep y hy)).snoc hsta
              have HFU2 := Lib.hid hfu2
              have HGS := Lib.hid hgS
              obtain ⟨M, hM⟩ : ∃ M, M = manyV bs.length := ⟨_, rfl⟩
              rw [← hM] at hMb hfit HST2 HFW
              clear hFW hT hfo hown hbe hkd hrb hp hgi hgS hbS hst hkeep hsta hfu2 hM
              go_wp2_with fail
              refine HFW.out.mono ?_
              rintro e w3 ⟨rfl, hk3, hg3⟩
              have hown3 := HOW.out.grew hg3 (fun q hq => by
                have a1 := HOW.out.ne HKD.out.cells (by decide) q hq
                have a2 := HOW.out.ne HKD.out.dur (by decide) q hq
                have a3 := HOW.out.neMap HKD.out.wr q hq
                simp [a1, a2, a3])
              have hbe3 := hg3.below HBE.out (by intro i hi; simp at hi; omega) HBE.out.size
              replace hk3 : Dk w3 g gd gm D2 := hk3
              have hkl := hk3.lt
              have hk3c := hk3
              have HFO2 : Hid (D2.Ok ∧ D2.dur = D.dur ∧ D2.writes ≤ D.writes + 130) := HFO.out
              have hgl : (gensL ps k).length ≤ 100000000 := by rw [gensL_len hk]; omega
              have hs3 := hbe3.size
              clear hg3 HFW HOW HBE HKD HFO hc
              go_wp2_with (at_builtin; go_must (refine wpList_pushS genC_len genC_one Tryd.underlying148 infoU32 rfl (by decide) hown3 (1000 + k / 2) hgl hs3 rfl _ _ rfl (by rfl) _ _ _ (by rfl) (by first | rfl | (unfold genC; congr 2; omega)) ?_))
              intro v4 w4 o4 g4 n4
              have hk4 : Dk w4 g gd gm D2 := hk3.grew (S := match u10.ownBlock with | some q => [q] | none => []) (by
                  refine (Grew.refl _ w3).grown g4 (fun i hi => .inl ?_)
                  rw [hi]; simp) (by
                  split <;> rename_i hq
                  · have := hown3.ne hk3.cells (by decide) _ hq; simp; exact fun e => this e.symm
                  · simp) (by
                  split <;> rename_i hq
                  · have := hown3.ne hk3.dur (by decide) _ hq; simp; exact fun e => this e.symm
                  · simp) (by
                  split <;> rename_i hq
                  · have := hown3.neMap hk3.wr _ hq; simp; exact fun e => this e.symm
                  · simp)
              have hbe4 := OwnS.below hown3 hbe3 g4 hs3
              rw [← HGS.out] at o4
              clear hown3 hbe3 g4 n4 hkl hk3 hk3c
              go_wp2_with fail
              go_roundw
              case rel => exact ⟨k + 1, D2, A + M, by omega, by go_num, by go_num, o4, hk4, HFU2.out, by rw [HFO2.out.2.1]; exact hDl, by have := HFO2.out.2.2; omega, HST2.out, by omega, by omega, hbe4⟩
              case measure => simp [intOf]; omega
        · obtain rfl : k = ps.length := by omega
          have hkd9 := hkd
          have how9 := hown
          have hbe9 := hbe
          obtain ⟨W9, hW9⟩ : ∃ W, W = wr := ⟨_, rfl⟩
          rw [← hW9] at hkd9 how9 hbe9 ⊢
          clear hW9
          clear hkd hown hbe
          obtain ⟨ga, gc, rfl, -, -⟩ := how9.row.shape genC_len
          have hglen := gensL_len hk
          rw [hglen] at how9 ⊢
          by_cases hk0 : ps.length = 0
          · have hki : (ps.length : Int) = 0 := by omega
            rw [hk0]
            have hbw := HBW.out W9 hbe9
            clear hkd9 how9 hbe9 hglen hki
            go_wp2_with fail
            go_ret
            exact ⟨rfl, hbw⟩
          · obtain ⟨j, hj⟩ : ∃ j, ps.length = j + 1 := ⟨ps.length - 1, by omega⟩
            have hne : gensL ps ps.length ≠ [] := fun h => by rw [h] at hglen; simp at hglen; omega
            obtain ⟨gb, gc', hv, hgb, -, hgcap, -, hgin⟩ := OwnS.block how9 genC_len hne
            simp only [Value.slice.injEq] at hv
            obtain ⟨rfl, -, rfl⟩ := hv
            have hgj : (gensL ps ps.length)[j]? = some (1000 + j / 2) := gensL_get hk (by omega)
            have d0 : W9.cell? ⟨gb, j * 1 + 0, none⟩ = some (.int .u32 ((1000 + j / 2 : Nat) : Int)) := hgin j _ hgj 0 _ rfl
            rw [Nat.mul_one, Nat.add_zero] at d0
            obtain ⟨hall, hke⟩ := StandAll.all hkd9.ok (least := 1000) (most := 1000 + (ps.length - 1) / 2) hst (by omega) (back_rise ps hk (by omega))
            have hmo : 1000 + (ps.length - 1) / 2 = 1000 + j / 2 := by omega
            rw [hmo] at hall
            have hS := fscan_any ea hkd9 (by rw [hfu]; decide) (a := 0) (e := A) (by omega) (by omega) (by omega) (by omega) 1000 (1000 + j / 2) (by omega) (by omega) (fun W hW => HE.out W (HBW.out W (hbe9.trans (hW.mono hbe9.size))))
            unfold FScan at hS
            rw [hall, hke, EV_zero] at hS
            have hnx := frsOf_next _ _ _ _ hst
            have hflen := frsOf_len (backL ps ps.length) 0
            rw [backL_len hk] at hflen
            have HGT : Hid (∀ i p, ps[i]? = some p → i < ps.length → ∃ F, (frsOf 0 (backL ps ps.length))[i]? = some F ∧ F.gen = 1000 + i / 2 ∧ F.load = p.2) := fun i p hp hi => by
              obtain ⟨F, h1, h2, h3⟩ := frsOf_get (backL ps ps.length) 0 i _ (backL_get ps ps.length i hi hp)
              exact ⟨F, h1, h2, h3⟩
            have HINB : Hid (∀ F ∈ frsOf 0 (backL ps ps.length), 0 ≤ F.at' ∧ 1 ≤ F.many ∧ F.at' + F.many ≤ 1024 ∧ F.gen ≤ 4294967295) := fun F hF => scanAll_in hkd9.ok (a := 0) (e := A) (least := 1000) (most := 1000 + j / 2) F (by rw [hall]; exact hF)
            obtain ⟨R, hR⟩ : ∃ R, R = frsOf 0 (backL ps ps.length) := ⟨_, rfl⟩
            rw [← hR] at hS hnx hflen HGT HINB
            have HS := Lib.hid hS
            have HNX := Lib.hid hnx
            have HFL := Lib.hid hflen
            have HOW := Lib.hid how9
            have HGB : Hid (∀ W, Below W9.heap.size W9 W → ∀ i, i < ps.length → W.cell? ⟨gb, i, none⟩ = some (.int .u32 ((1000 + i / 2 : Nat) : Int))) := fun W hW i hi => by
              obtain ⟨g', c', hv, -, -, -, -, hin⟩ := OwnS.block (HOW.out.stays hW) genC_len hne
              simp only [Value.slice.injEq, Option.some.injEq, Addr.mk.injEq] at hv
              obtain ⟨⟨rfl, -, -⟩, -, -⟩ := hv
              have := hin i _ (gensL_get hk hi) 0 _ rfl
              rwa [Nat.mul_one, Nat.add_zero] at this
            have HB9 := Lib.hid hbe9
            have HKJ := Lib.hid hj
            have i1 : (ps.length : Int) - 1 = (j : Int) := by omega
            have hji : (j : Int) < ps.length := by omega
            have hG0 : ((1000 + j / 2 : Nat) : Int) ≤ 4294967295 := by omega
            obtain ⟨Q, hQ⟩ : ∃ Q, Q = 1000 + j / 2 := ⟨_, rfl⟩
            rw [← hQ] at d0 HS hG0
            have hk1 : 0 < ps.length := by omega
            clear hkd9 how9 hall hke hmo hS hnx hflen hR hne hgb hgin hgj hj hQ hglen hst
            go_wp2_with fail
            refine HS.out.mono ?_
            rintro e wa ⟨v16, fs, rfl, hrow, hfs, hld, hba⟩
            have hfl : fs.length = ps.length := by rw [← HFL.out, ← hfs, List.length_map]
            obtain ⟨a16, c16, rfl, -, -⟩ := hrow.shape frC_len
            have HN := Lib.hid (fnext_any wa _ fs hrow 0 (fun p hp => by
              have := HINB.out p.f (by rw [← hfs]; exact List.mem_map.2 ⟨p, hp, rfl⟩)
              omega))
            rw [hfs, HNX.out] at HN
            rw [hfl]
            rw [hfl] at HN
            have HRF : Hid (∀ W, Below wa.heap.size wa W → RowS frC W (.slice a16 ps.length c16) fs) := fun W hW => by rw [hfl] at hrow; exact hrow.stays hW
            have HLD : Hid (∀ W, Below wa.heap.size wa W → ∀ p ∈ fs, RowB W p.v p.f.load) := fun W hW p hp => (hld p hp).stays hW
            have HBA := Lib.hid hba
            have HFS := Lib.hid hfs
            have HFLL := Lib.hid hfl
            have bk : ((ps.length : Int) == ps.length) = true := by simp
            have bk' : ((ps.length : Int) != ps.length) = false := by simp
            have ba : ((A : Int) == A) = true := by simp
            have ba' : ((A : Int) != A) = false := by simp
            clear hrow hfs hfl hld hba HS d0 i1
            go_wp2_with fail
            refine HN.out.mono ?_
            rintro e wb ⟨rfl, hbb⟩
            clear HN
            go_wp2_with fail
            go_loopw [104] (fun i wr => ∃ t : Nat, t ≤ ps.length ∧ i = .int .i64 t ∧ Below wa.heap.size wa wr) (fun i _ => ps.length - (intOf i).toNat)
            case atStart => exact ⟨0, Nat.zero_le _, rfl, hbb⟩
            case round =>
              clear hbb bk bk' ba ba'
              obtain ⟨t, ht, rfl, hbt⟩ := hrel
              by_cases hlt2 : t < ps.length
              · obtain ⟨⟨fa, fl, fc, ⟨FA, FM, FG, FP⟩⟩, hp⟩ : ∃ p, fs[t]? = some p := ⟨_, List.getElem?_eq_getElem (by rw [HFLL.out]; exact hlt2)⟩
                obtain ⟨⟨pv, bs⟩, hpp⟩ : ∃ p, ps[t]? = some p := ⟨_, List.getElem?_eq_getElem (by omega)⟩
                obtain ⟨F, hF1, hF2, hF3⟩ := HGT.out t _ hpp hlt2
                rw [← HFS.out, List.getElem?_map, hp] at hF1
                cases hF1
                replace hF2 : FG = 1000 + t / 2 := hF2
                replace hF3 : FP = bs := hF3
                subst hF2
                subst hF3
                have hrp := HLD.out wr hbt _ (List.mem_of_getElem? hp)
                replace hrp : RowB wr (.slice fa fl fc) FP := hrp
                obtain ⟨_, _, hv, -, -⟩ := hrp.gen.shape
                cases hv
                obtain ⟨_, _, hv, -, hin⟩ := (HRF.out wr hbt).shape frC_len
                simp only [Value.slice.injEq] at hv
                obtain ⟨rfl, -, -⟩ := hv
                obtain ⟨bb, oo, rfl, hc⟩ := hin t _ hp
                have d0 : wr.cell? ⟨bb, oo + (t * 4 + 0), none⟩ = some (.int .i64 FA) := hc 0 _ rfl
                have d1 : wr.cell? ⟨bb, oo + (t * 4 + 1), none⟩ = some (.int .i64 FM) := hc 1 _ rfl
                have d2 : wr.cell? ⟨bb, oo + (t * 4 + 2), none⟩ = some (.int .u32 ((1000 + t / 2 : Nat) : Int)) := hc 2 _ rfl
                have d3 : wr.cell? ⟨bb, oo + (t * 4 + 3), none⟩ = some (.slice fa FP.length fc) := hc 3 _ rfl
                rw [Nat.add_zero] at d0
                rw [← Nat.add_assoc] at d1 d2 d3
                obtain ⟨W1, hW1⟩ : ∃ W, W = wr.alloc (.cells #[.int .i64 FA, .int .i64 FM, .int .u32 ((1000 + t / 2 : Nat) : Int), .slice fa FP.length fc] 122) := ⟨_, rfl⟩
                have hbA : Below wr.heap.size wr W1 := by rw [hW1]; exact (Below.refl _ _).alloc (Nat.le_refl _) _
                have hcQ : CellsAt W1 wr.heap.size 122 #[.int .i64 FA, .int .i64 FM, .int .u32 ((1000 + t / 2 : Nat) : Int), .slice fa FP.length fc] := by rw [hW1]; exact CellsAt.new wr _ _
                have hb1 := hbt.trans (hbA.mono hbt.size)
                have hb91 := HBA.out.trans (hb1.mono HBA.out.size)
                have hbw1 := HBW.out W1 (HB9.out.trans (hb91.mono HB9.out.size))
                have e0 := HGB.out W1 hb91 t hlt2
                obtain ⟨Z, hZ⟩ : ∃ Z : Int, Z = ((1000 + t / 2 : Nat) : Int) := ⟨_, rfl⟩
                rw [← hZ] at d2 hW1 hcQ e0
                obtain ⟨_, _, hv, -, hin2⟩ := (HRP.out W1 hbw1).shape
                simp only [Value.slice.injEq] at hv
                obtain ⟨rfl, -, -⟩ := hv
                obtain ⟨pb, po, hpa, hc2⟩ := hin2 t _ hpp
                have hrw := HPS.out W1 hbw1 _ (List.mem_of_getElem? hpp)
                replace hrw : RowB W1 pv FP := hrw
                obtain ⟨wa', wc', rfl, -, -⟩ := hrw.gen.shape
                replace hc2 : W1.cell? ⟨pb, po + t, none⟩ = some (.slice wa' FP.length wc') := hc2
                have hbq : ∀ n, Below W1.heap.size W1 (W1.drewN n) := fun n => ⟨rfl, rfl, rfl, Nat.le_refl _, fun _ _ => rfl⟩
                have s1 : ∀ n, (convert 23 9 (.slice fa FP.length fc)).run Tryd.prog (W1.drewN n) = .ok (.string (strB FP)) (W1.drewN n) := fun n => convert_str ((hrp.stays hbA).stays (hbq n))
                have s2 : ∀ n, (convert 23 9 (.slice wa' FP.length wc')).run Tryd.prog (W1.drewN n) = .ok (.string (strB FP)) (W1.drewN n) := fun n => convert_str (hrw.stays (hbq n))
                have bz : (Z == Z) = true := by simp
                have bz' : (Z != Z) = false := by simp
                have bs1 : ((strB FP).toList == (strB FP).toList) = true := by simp
                have bs2 : ((strB FP).toList != (strB FP).toList) = false := by simp
                have q2 := hcQ.cell 2 (v := .int .u32 Z) rfl
                have q3 := hcQ.cell 3 (v := .slice fa FP.length fc) rfl
                have HW1 := Lib.hid hW1
                have HB1 := Lib.hid hb1
                clear hc hin hin2 hrp hp hpp hW1 hbA hcQ hbt hb1 hb91 hbw1 hrw hZ hbq
                cases hpa
                go_upto_region 28 with (fail)
                clear d0 d1 d2 d3
                rw [← HW1.out]
                clear HW1
                go_quiet (fail)
                clear q2 q3 e0 hc2 s1 s2
                go_wp2_with fail
                go_roundw
                case rel => exact ⟨t + 1, by omega, by go_num, below_drewQ HB1.out⟩
                case measure => simp [intOf]; omega
              · obtain rfl : t = ps.length := by omega
                have hbw := HBW.out wr (HB9.out.trans ((HBA.out.trans (hbt.mono HBA.out.size)).mono HB9.out.size))
                clear hbt
                go_wp2_with fail
                go_ret
                exact ⟨rfl, hbw⟩
end Go.Proofs.YtgehbabcpmkgaaaDoor
