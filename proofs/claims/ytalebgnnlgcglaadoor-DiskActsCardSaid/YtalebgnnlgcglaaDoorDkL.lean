/- The disk's Crash, walked. -/
import Derived.Test.YtalebgnnlgcglaaDoorDkK
import Derived.Deep.DrawnRows
import Derived.Deep.CutBlock
import Derived.Deep.DeepCutAuto
namespace Go.Proofs.YtalebgnnlgcglaaDoor
open Go Go.RowKit
set_option linter.unusedVariables false
attribute [local go_sem ↓] Go.wp_at_zero Go.wp_at_succ
/-- a new sector of noughts, and what is stored there -/
theorem alloc_secR (w : World) : (Instr.alloc 63 true (.tuple #[])).run Tryd.prog w = .ok (.pointer (some ⟨w.heap.size, 0, none⟩)) (w.alloc (.cells secZ 63)) := alloc_sec w
theorem store_secR (w : World) (U : List Value) (hU : U.length = 64) (h1 : ∀ v ∈ U, v.oneCell' = true) : (Instr.storeAt 63 (.pointer (some ⟨w.heap.size, 0, none⟩)) (.agg U.toArray)).run Tryd.prog (w.alloc (.cells secZ 63)) = .ok () ((w.alloc (.cells secZ 63)).setCells w.heap.size 0 U) := by
  have hc := CellsAt.new w secZ 63
  exact run_storeAt_mid (w.alloc (.cells secZ 63)) w.heap.size 0 63 U.toArray (fun j hj => ⟨by
    rw [Nat.zero_add, hc.cell j (v := secZ[j]'(by rw [secZ_size]; rw [List.size_toArray, hU] at hj; exact hj)) (Array.getElem?_eq_getElem _)]; rfl, hc.free _⟩) (by rw [List.size_toArray, hU]; exact sizeSec) (all_oneCell_toArray h1)
def z64 : Array Value := #[.int .u8 0, .int .u8 0, .int .u8 0, .int .u8 0, .int .u8 0, .int .u8 0, .int .u8 0, .int .u8 0, .int .u8 0, .int .u8 0, .int .u8 0, .int .u8 0, .int .u8 0, .int .u8 0, .int .u8 0, .int .u8 0, .int .u8 0, .int .u8 0, .int .u8 0, .int .u8 0, .int .u8 0, .int .u8 0, .int .u8 0, .int .u8 0, .int .u8 0, .int .u8 0, .int .u8 0, .int .u8 0, .int .u8 0, .int .u8 0, .int .u8 0, .int .u8 0, .int .u8 0, .int .u8 0, .int .u8 0, .int .u8 0, .int .u8 0, .int .u8 0, .int .u8 0, .int .u8 0, .int .u8 0, .int .u8 0, .int .u8 0, .int .u8 0, .int .u8 0, .int .u8 0, .int .u8 0, .int .u8 0, .int .u8 0, .int .u8 0, .int .u8 0, .int .u8 0, .int .u8 0, .int .u8 0, .int .u8 0, .int .u8 0, .int .u8 0, .int .u8 0, .int .u8 0, .int .u8 0, .int .u8 0, .int .u8 0, .int .u8 0, .int .u8 0]
theorem z64_eq : z64 = secZ := by kernel_rfl
theorem lookI_run {P : Program} {K e t : TypeId} {w : World} {b n : Nat} {f : Int → Option Value} (h : MapI P K w b n f) (hk : P.underlying K = some (.int .i64)) (ht : P.underlying t = some (.map K e)) {z : Value} (hz : (zeroValue e).run P w = .ok z w) (q : Int) (hq : -9223372036854775808 ≤ q ∧ q ≤ 9223372036854775807) :
    (Instr.lookup t (.map (some b)) (.int .i64 q) true).run P w = .ok (.tuple #[(f q).getD z, .bool (f q).isSome]) w := by
  obtain ⟨D, hD, hv⟩ := h
  obtain ⟨h1, h2⟩ := hv q hq
  obtain ⟨v, ps, hrun, hvv⟩ := hD.look_ok (Maps.int_keyed hk) ht hz (show heldR z = some (.held z, []) from rfl) (Maps.keyOf_int_mk hk (WalkArith.wf_i64 hq))
  have : v = (f q).getD z := by
    have h3 := h2 (.held z)
    unfold heldR at hvv
    simp only [Option.some.injEq, Prod.mk.injEq] at hvv
    cases hfq : f q with
    | some u => rw [hfq] at h3; have := hvv.1.trans h3; cases this; rfl
    | none => rw [hfq] at h3; have := hvv.1.trans h3; cases this; rfl
  rw [this, h1] at hrun
  exact hrun
/-- the disk while a crash goes on -/
def cm (d : Dm) (cur : List (List UInt8)) : Dm := { d with dur := cur }
theorem Dk.cm {w : World} {g gd gm : Nat} {d : Dm} (h : Dk w g gd gm d) {cur : List (List UInt8)} (hl : cur.length = d.dur.length) (ha : ∀ s ∈ cur, s.length = 64) {w' : World}
    (hc : CellsAt w' g 60 #[.slice (some ⟨gd, 0, none⟩) d.dur.length d.dur.length, .map (some gm), .int .i64 d.fuse, .int .i64 d.writes]) (hd : CellsAt w' gd 63 (cur.flatMap secC).toArray) (hm : MapI Tryd.prog 3 w' gm d.writes (fun a => (d.wr a).map secV)) : Dk w' g gd gm (Go.Proofs.YtalebgnnlgcglaaDoor.cm d cur) :=
  ⟨by show CellsAt _ _ _ #[.slice (some ⟨gd, 0, none⟩) cur.length cur.length, _, _, _]; rw [hl]; exact hc, hd, hm,
    ⟨ha, h.ok.wlen, fun i s hs => by have := h.ok.within i s hs; show 0 ≤ i ∧ i < (cur.length : Int); rw [hl]; exact this, by show cur.length ≤ _; rw [hl]; exact h.ok.size, h.ok.fuse1, h.ok.fuse2⟩, h.small⟩
/-- a torn sector, in memory -/
structure To where
  at' : Int
  v : Value
  bs : List UInt8
def toC (t : To) : List Value := [.int .i64 t.at', t.v]
theorem toC_len (t : To) : (toC t).length = 2 := rfl
def To.p (t : To) : Int × List UInt8 := (t.at', t.bs)
theorem keepM_yes {d : Dm} {cur : List (List UInt8)} {q : Int} {s : List UInt8} (h : d.wr q = some s) : keepM d.wr cur q = cur.set q.toNat s := by unfold keepM; rw [h]
theorem keepM_no {d : Dm} {cur : List (List UInt8)} {q : Int} (h : d.wr q = none) : keepM d.wr cur q = cur := by unfold keepM; rw [h]
theorem tornM_yes {d : Dm} {cur : List (List UInt8)} {q : Int} {b s : List UInt8} (h : d.wr q = some s) : tornM d.wr cur (q, b) = cur.set q.toNat (padV b) := by unfold tornM; rw [h]
theorem tornM_no {d : Dm} {cur : List (List UInt8)} {q : Int} {b : List UInt8} (h : d.wr q = none) : tornM d.wr cur (q, b) = cur := by unfold tornM; rw [h]
theorem keep_take {d : Dm} {ks : List Int} {k : Nat} {q : Int} (h : ks[k]? = some q) : (ks.take (k + 1)).foldl (keepM d.wr) d.dur = keepM d.wr ((ks.take k).foldl (keepM d.wr) d.dur) q := by
  rw [List.take_add_one, h, List.foldl_append]; rfl
theorem torn_take {d : Dm} {ts : List (Int × List UInt8)} {cur : List (List UInt8)} {k : Nat} {t : Int × List UInt8} (h : ts[k]? = some t) : (ts.take (k + 1)).foldl (tornM d.wr) cur = tornM d.wr ((ts.take k).foldl (tornM d.wr) cur) t := by
  rw [List.take_add_one, h, List.foldl_append]; rfl
/-- one sector of a row of sectors is written -/
theorem secs_there {w : World} {gd : Nat} {T : TypeId} {cur : List (List UInt8)} (hd : CellsAt w gd T (cur.flatMap secC).toArray) (ha : ∀ s ∈ cur, s.length = 64) {i : Nat} (hi : i < cur.length) : w.there gd (i * 64) 64 := fun j hj => by
  refine ⟨?_, hd.free _⟩
  rw [hd.cell (i * 64 + j) (v := (cur.flatMap secC)[i * 64 + j]'(by rw [secs_len _ ha]; omega)) (by rw [List.getElem?_toArray, List.getElem?_eq_getElem])]
  rfl
set_option maxRecDepth 100000 in
set_option maxHeartbeats 8000000 in
theorem crash_any {w : World} {g gd gm : Nat} {d : Dm} (h : Dk w g gd gm d) (vk : Value) (ks : List Int) (vt : Value) (ts : List To)
    (HA : ∀ W, Grew [g, gd, gm] w W → RowL IV W vk ks ∧ RowS toC W vt ts ∧ ∀ t ∈ ts, RowB W t.v t.bs) (hkb : ∀ k ∈ ks, -9223372036854775808 ≤ k ∧ k ≤ 9223372036854775807) (htb : ∀ t ∈ ts, (-9223372036854775808 ≤ t.at' ∧ t.at' ≤ 9223372036854775807) ∧ t.bs.length ≤ 1000000) :
    Calls Tryd.prog 11 #[.pointer (some ⟨g, 0, none⟩), vk, vt] w fun e w' => e = .returned (.tuple #[]) ∧ Dk w' g gd gm (crashM d ks (ts.map To.p)) ∧ Grew [g, gd, gm] w w' := by
  obtain ⟨hr1, hr2, -⟩ := HA w (Grew.refl _ _)
  obtain ⟨ak, ck, rfl, hkl, -⟩ := hr1.shape
  obtain ⟨at', ct, rfl, htl, -⟩ := hr2.shape toC_len
  unfold maxLen at hkl htl
  have HH := Lib.hid h
  have HAA := Lib.hid HA
  have HKB := Lib.hid hkb
  have HTB := Lib.hid htb
  obtain ⟨ap1, ap2, ap3⟩ := h.apart
  obtain ⟨lg, lgd, lgm⟩ := h.lt
  have hsz := h.ok.size
  have hstart : Dk w g gd gm (cm d d.dur) := h
  clear hr1 hr2 h HA hkb htb
  go_enter Tryd.func11, Tryd.ntmps11
  go_wp2_with fail
  go_loopw [16] (fun i wr => ∃ (k : Nat) (cur : List (List UInt8)), k ≤ ks.length ∧ i = .int .i64 k ∧ Hid (cur = (ks.take k).foldl (keepM d.wr) d.dur) ∧ cur.length = d.dur.length ∧ (∀ s ∈ cur, s.length = 64) ∧ Dk wr g gd gm (cm d cur) ∧ Grew [gd] w wr) (fun i _ => ks.length - (intOf i).toNat)
  case atStart => exact ⟨0, d.dur, Nat.zero_le _, rfl, rfl, rfl, HH.out.ok.len, hstart, Grew.refl _ _⟩
  case round =>
    clear hstart
    obtain ⟨k, cur, hk, rfl, HC, hcl, hca, hkd, hG⟩ := hrel
    by_cases hlt : k < ks.length
    · obtain ⟨q, hq⟩ : ∃ q, ks[k]? = some q := ⟨_, List.getElem?_eq_getElem hlt⟩
      obtain ⟨hr1, -, -⟩ := HAA.out wr (hG.mono (by simp))
      obtain ⟨_, _, hv, -, hin⟩ := hr1.shape
      cases hv
      obtain ⟨bb, oo, rfl, hc⟩ := hin k _ hq
      replace hc : wr.cell? ⟨bb, oo + k, none⟩ = some (.int .i64 q) := hc
      obtain ⟨hq1, hq2⟩ := HKB.out q (List.mem_of_getElem? hq)
      have HX : Hid (-9223372036854775808 ≤ q ∧ q ≤ 9223372036854775807) := ⟨hq1, hq2⟩
      have HKT := Lib.hid (keep_take (d := d) hq)
      have c1 := hkd.c1
      have HKD := Lib.hid hkd
      have HCA := Lib.hid hca
      have HCL := Lib.hid hcl
      have hGw := hG.size
      clear hr1 hin hq hkd hca hcl
      cases hw : d.wr q with
      | some s =>
        have hs64 := HH.out.ok.wlen _ _ hw
        obtain ⟨hx0, hx1⟩ := HH.out.ok.within _ _ hw
        have HW : Hid ((cm d cur).wr q = some s) := hw
        have HS := Lib.hid hs64
        have HKM := Lib.hid (keepM_yes (cur := cur) hw)
        obtain ⟨i, rfl⟩ := Int.eq_ofNat_of_zero_le hx0
        have hii : (i : Int) < d.dur.length := hx1
        clear hw hs64 hx1
        go_wp2_with (first
          | (at_lookup; refine wpList_lookYes rfl _ rfl _ _ rfl HKD.out (by rfl) (i : Int) (by rfl) HX.out s HW.out ?_)
          | (refine wpList_allocSec rfl 8 rfl rfl ?_; intro w2 hc2 hb2 hs2)
          | (refine wpList_storeSec rfl _ _ rfl wr.heap.size (by rfl) s (by rfl) HS.out _ secZ hc2 secZ_size ?_; intro w3 hc3 hg3))
        have hG13 : Grew [gd] wr w3 := ((Grew.ofBelow (S := [gd]) hb2).grown hg3 (fun i hi => by cases hi; exact .inr (Nat.le_refl _)))
        have hd3 := (HKD.out.stays hb2).grew (Grew.ofGrown hg3) (by have := HKD.out.lt.1; simp; omega) (by have := HKD.out.lt.2.1; simp; omega) (by have := HKD.out.lt.2.2; simp; omega)
        have c0 : w3.cell? ⟨g, 0, none⟩ = some (.slice (some ⟨gd, 0, none⟩) d.dur.length d.dur.length) := by have := hd3.c0; rw [show (cm d cur).dur.length = d.dur.length from HCL.out] at this; exact this
        have hra : w3.rangeAt wr.heap.size 0 (secC s) := fun j v hv => by
          rw [Nat.zero_add]
          exact hc3.cell j (by rw [List.getElem?_toArray]; exact hv)
        have hth : w3.there gd (i * 64) 64 := secs_there hd3.dur HCA.out (by show i < cur.length; rw [HCL.out]; omega)
        have hput := secs_put (w := w3.drew) hd3.dur HCA.out (i := i) (by show i < cur.length; rw [HCL.out]; omega) s HS.out
        have hgw : w3.drew.grownBy (w3.drew.setCells gd (i * 64) (secC s)) (some gd) := Grew.toGrown (grew_setCells (S := [gd]) (.inl (by simp)) _ _ (Grew.refl [gd] w3.drew)) (fun i hi => by simp at hi; exact .inl hi)
        have HDK : Hid (Dk (w3.drew.setCells gd (i * 64) (secC s)) g gd gm (cm d (cur.set i s))) := HH.out.cm (by rw [List.length_set]; exact HCL.out) (fun t ht => by
            rcases List.mem_or_eq_of_mem_set ht with h' | rfl
            · exact HCA.out t h'
            · exact HS.out) (CellsAt.grown (w := w3.drew) (by have := hd3.cells; rw [show (cm d cur).dur.length = d.dur.length from HCL.out] at this; exact this) hgw (by simp; exact fun e => ap1 e.symm)) hput ((hd3.wr.drew).kept hgw (by simp; exact ap3))
        have HG4 := Lib.hid ((hG.trans hG13).drew.trans (Grew.ofGrown hgw))
        have hu := Tryd.underlying63
        have hsl : (secC s).length = 64 := by rw [secC_len]; exact HS.out
        have hi64 : (Tryd.prog.info? 63).map (·.size) = some (secC s).length := by rw [hsl]; exact sizeSec
        have hone := secC_one s
        have hi0 : (0 : Int) ≤ (i : Int) := by omega
        have hkeep : ∀ (W : World) (vs : List Value), (W.setCells gd (i * 64) vs).cell? ⟨g, 0, none⟩ = W.cell? ⟨g, 0, none⟩ := fun W vs => World.cell?_setCells_out gd vs _ W _ (fun e => absurd e ap1)
        obtain ⟨U, hU⟩ : ∃ U, U = secC s := ⟨_, rfl⟩
        have HU := Lib.hid hU
        have hUV : secV s = .agg U.toArray := by rw [hU]; rfl
        rw [← hU] at hra hsl hi64 hone
        rw [hUV]
        clear hb2 hs2 hc2 hc3 hg3 hG13 hd3 hput hgw hU hUV c1 hG hx0 hq1 hq2 hc
        (try go_frame)
        go_region_held3 (fun w' => w'.cell? ⟨g, 0, none⟩ = some (.slice (some ⟨gd, 0, none⟩) d.dur.length d.dur.length) ∧ w'.rangeAt wr.heap.size 0 U ∧ w'.there gd (i * 64) 64) (first | go_keep_ranges | (go_split_ands; refine ⟨?_, ?_, ?_⟩ <;> first | go_keep_ranges | (rw [hkeep]; assumption) | (rw [hkeep]; simp [*]; done)) | (refine ⟨?_, ?_, ?_⟩ <;> first | go_keep_ranges | (rw [hkeep]; assumption) | (rw [hkeep]; simp [*]; done))) (fail)
        all_goals go_wp2_with fail
        rw [← HU.out] at HDK HG4
        refine ⟨⟨k + 1, cur.set i s, by omega, by go_num, ?_, by rw [List.length_set]; exact HCL.out, fun t ht => ?_, HDK.out, HG4.out⟩, by simp [intOf]; omega⟩
        · show _ = _
          rw [HKT.out, ← HC.out, HKM.out, Int.toNat_natCast]
        · rcases List.mem_or_eq_of_mem_set ht with h' | rfl
          · exact HCA.out t h'
          · exact HS.out
      | none =>
        have HW : Hid ((cm d cur).wr q = none) := hw
        have HKM := Lib.hid (keepM_no (cur := cur) hw)
        clear hw
        go_wp2_with (first
          | (at_lookup; refine wpList_lookNo rfl _ rfl _ _ rfl HKD.out (by rfl) q (by rfl) HX.out HW.out ?_)
          | (refine wpList_allocSec rfl 8 rfl rfl ?_; intro w2 hc2 hb2 hs2)
          | (refine wpList_storeSec rfl _ _ rfl wr.heap.size (by rfl) zero64 (by rfl) zero64_len _ secZ hc2 secZ_size ?_; intro w3 hc3 hg3))
        have hd3 := (HKD.out.stays hb2).grew (Grew.ofGrown hg3) (by have := HKD.out.lt.1; simp; omega) (by have := HKD.out.lt.2.1; simp; omega) (by have := HKD.out.lt.2.2; simp; omega)
        have hG13 : Grew [gd] wr w3 := ((Grew.ofBelow (S := [gd]) hb2).grown hg3 (fun i hi => by cases hi; exact .inr (Nat.le_refl _)))
        refine ⟨⟨k + 1, cur, by omega, by go_num, ?_, HCL.out, HCA.out, hd3, hG.trans hG13⟩, by simp [intOf]; omega⟩
        show _ = _
        rw [HKT.out, ← HC.out, HKM.out]
    · obtain rfl : k = ks.length := by omega
      have hcK : cur = ks.foldl (keepM d.wr) d.dur := by have := HC.out; rw [List.take_length] at this; exact this
      go_wp2_with fail
      go_loopw [40] (fun i wr => ∃ (k : Nat) (cur : List (List UInt8)), k ≤ ts.length ∧ i = .int .i64 k ∧ Hid (cur = ((ts.map To.p).take k).foldl (tornM d.wr) (ks.foldl (keepM d.wr) d.dur)) ∧ cur.length = d.dur.length ∧ (∀ s ∈ cur, s.length = 64) ∧ Dk wr g gd gm (cm d cur) ∧ Grew [gd] w wr) (fun i _ => ts.length - (intOf i).toNat)
      case atStart => exact ⟨0, cur, Nat.zero_le _, rfl, hcK, hcl, hca, hkd, hG⟩
      case round =>
        clear hcK HC hcl hca hkd hG cur
        obtain ⟨k, cur, hk, rfl, HC, hcl, hca, hkd, hG⟩ := hrel
        by_cases hlt : k < ts.length
        · obtain ⟨⟨q, pv, bs⟩, hp⟩ : ∃ q, ts[k]? = some q := ⟨_, List.getElem?_eq_getElem hlt⟩
          obtain ⟨-, hr2, hr3⟩ := HAA.out wr (hG.mono (by simp))
          have hrow := hr3 _ (List.mem_of_getElem? hp)
          replace hrow : RowB wr pv bs := hrow
          obtain ⟨va, vc, rfl, -, -⟩ := hrow.gen.shape
          obtain ⟨_, _, hv, -, hin⟩ := hr2.shape toC_len
          simp only [Value.slice.injEq] at hv
          obtain ⟨rfl, -, -⟩ := hv
          obtain ⟨bb, oo, rfl, hc⟩ := hin k _ hp
          have e0 : wr.cell? ⟨bb, oo + (k * 2 + 0), none⟩ = some (.int .i64 q) := hc 0 _ rfl
          have e1 : wr.cell? ⟨bb, oo + (k * 2 + 1), none⟩ = some (.slice va bs.length vc) := hc 1 _ rfl
          rw [Nat.add_zero] at e0
          rw [← Nat.add_assoc] at e1
          have hp2 : (ts.map To.p)[k]? = some (q, bs) := by rw [List.getElem?_map, hp]; rfl
          obtain ⟨⟨hq1, hq2⟩, hbl⟩ := HTB.out _ (List.mem_of_getElem? hp)
          replace hq1 : -9223372036854775808 ≤ q := hq1
          replace hq2 : q ≤ 9223372036854775807 := hq2
          replace hbl : bs.length ≤ 1000000 := hbl
          have HKT := Lib.hid (torn_take (d := d) (cur := ks.foldl (keepM d.wr) d.dur) hp2)
          obtain ⟨W1, hW1⟩ : ∃ W, W = wr.alloc (.cells #[.int .i64 q, .slice va bs.length vc] 40) := ⟨_, rfl⟩
          have hbA : Below wr.heap.size wr W1 := by rw [hW1]; exact (Below.refl _ _).alloc (Nat.le_refl _) _
          have hcT : CellsAt W1 wr.heap.size 40 #[.int .i64 q, .slice va bs.length vc] := by rw [hW1]; exact CellsAt.new wr _ _
          have hk1 := hkd.stays hbA
          have hrow1 := hrow.stays hbA
          have HKD := Lib.hid hk1
          have HCA := Lib.hid hca
          have HCL := Lib.hid hcl
          have HW1 := Lib.hid hW1
          have HCT := Lib.hid hcT
          have HROW := Lib.hid hrow1
          have HG1 : Hid (Grew [gd] w W1) := hG.add hbA
          obtain ⟨P1, hP1⟩ : ∃ P, P = wr.heap.size := ⟨_, rfl⟩
          have hP1g : gd < P1 ∧ g < P1 ∧ gm < P1 := by have := hG.size; omega
          rw [← hP1] at HCT
          have HP1 := Lib.hid hP1
          clear hc hin hr2 hr3 hrow hp hp2 hW1 hbA hcT hk1 hrow1 hkd hca hcl hG hP1
          go_upto_region 10 with (fail)
          clear e0 e1
          rw [← HW1.out, ← HP1.out]
          have c1 := HKD.out.c1
          have t0 := HCT.out.cell 0 (v := .int .i64 q) rfl
          cases hw : d.wr q with
          | some s =>
            have hlk0 : ∀ W, Below W1.heap.size W1 W → (Instr.lookup 58 (.map (some gm)) (.int .i64 q) true).run Tryd.prog W = .ok (.tuple #[secV s, .bool true]) W := fun W hW => by
              have := lookI_run (HKD.out.stays hW).wr Tryd.underlying3 Tryd.underlying58 (zeroSec W) q ⟨hq1, hq2⟩
              rw [show (cm d cur).wr q = some s from hw] at this
              exact this
            have hu64 : (secC s).length = 64 := by rw [secC_len]; exact HH.out.ok.wlen _ _ hw
            have hone := secC_one s
            obtain ⟨U, hU⟩ : ∃ U, U = secC s := ⟨_, rfl⟩
            have hUV : secV s = .agg U.toArray := by rw [hU]; rfl
            rw [← hU] at hu64 hone
            rw [hUV] at hlk0
            have hSK : ∀ W, Below W1.heap.size W1 W → Below W1.heap.size W1 W ∧ W.cell? ⟨g, 1, none⟩ = some (.map (some gm)) ∧ W.cell? ⟨P1, 0, none⟩ = some (.int .i64 q) ∧ (Instr.lookup 58 (.map (some gm)) (.int .i64 q) true).run Tryd.prog W = .ok (.tuple #[.agg U.toArray, .bool true]) W := fun W hW =>
              ⟨hW, (HKD.out.stays hW).c1, (HCT.out.stays hW).cell 0 (v := .int .i64 q) rfl, hlk0 W hW⟩
            obtain ⟨WA, hWA⟩ : ∃ W, W = (W1.alloc (.cells #[.int .u8 0, .int .u8 0, .int .u8 0, .int .u8 0, .int .u8 0, .int .u8 0, .int .u8 0, .int .u8 0, .int .u8 0, .int .u8 0, .int .u8 0, .int .u8 0, .int .u8 0, .int .u8 0, .int .u8 0, .int .u8 0, .int .u8 0, .int .u8 0, .int .u8 0, .int .u8 0, .int .u8 0, .int .u8 0, .int .u8 0, .int .u8 0, .int .u8 0, .int .u8 0, .int .u8 0, .int .u8 0, .int .u8 0, .int .u8 0, .int .u8 0, .int .u8 0, .int .u8 0, .int .u8 0, .int .u8 0, .int .u8 0, .int .u8 0, .int .u8 0, .int .u8 0, .int .u8 0, .int .u8 0, .int .u8 0, .int .u8 0, .int .u8 0, .int .u8 0, .int .u8 0, .int .u8 0, .int .u8 0, .int .u8 0, .int .u8 0, .int .u8 0, .int .u8 0, .int .u8 0, .int .u8 0, .int .u8 0, .int .u8 0, .int .u8 0, .int .u8 0, .int .u8 0, .int .u8 0, .int .u8 0, .int .u8 0, .int .u8 0, .int .u8 0] 63)).drew := ⟨_, rfl⟩
            have hWA2 : WA = (W1.alloc (.cells secZ 63)).drew := by rw [hWA, ← z64_eq]; rfl
            have hA : Below W1.heap.size W1 WA := by rw [hWA2]; exact ((Below.refl _ _).alloc (Nat.le_refl _) _).drew
            have hB : Below W1.heap.size W1 (WA.setCells W1.heap.size 0 U) := (grew_setCells (S := [W1.heap.size]) (.inl (by simp)) U 0 (Grew.refl [W1.heap.size] WA)).below hA (by simp) hA.size
            have hcZ : CellsAt WA W1.heap.size 63 secZ := by rw [hWA2]; exact CellsAt.new W1 _ _
            have hth : WA.there W1.heap.size 0 64 := fun j hj => ⟨by
              rw [Nat.zero_add, hcZ.cell j (v := secZ[j]'(by rw [secZ_size]; exact hj)) (Array.getElem?_eq_getElem _)]; rfl, hcZ.free _⟩
            have HB := Lib.hid hB
            have hi64 := sizeSec
            have hbd : Below W1.heap.size W1 W1.drew := (Below.refl _ _).drew
            have HSK := Lib.hid hSK
            clear hlk0 hU hUV hSK t0 c1 hcZ hWA2 hB
            subst hWA
            have HA := Lib.hid hA
            have HBD := Lib.hid hbd
            clear hA hbd
            go_region_held3 (fun w' => Below W1.heap.size W1 w' ∧ w'.cell? ⟨g, 1, none⟩ = some (.map (some gm)) ∧ w'.cell? ⟨P1, 0, none⟩ = some (.int .i64 q) ∧ (Instr.lookup 58 (.map (some gm)) (.int .i64 q) true).run Tryd.prog w' = .ok (.tuple #[.agg U.toArray, .bool true]) w') ((refine HSK.out _ ?_; first | exact HBD.out | exact HA.out | exact HB.out)) (fail)
            all_goals
              obtain ⟨W2, hW2⟩ : ∃ W, W = (W1.alloc (.cells #[.int .u8 0, .int .u8 0, .int .u8 0, .int .u8 0, .int .u8 0, .int .u8 0, .int .u8 0, .int .u8 0, .int .u8 0, .int .u8 0, .int .u8 0, .int .u8 0, .int .u8 0, .int .u8 0, .int .u8 0, .int .u8 0, .int .u8 0, .int .u8 0, .int .u8 0, .int .u8 0, .int .u8 0, .int .u8 0, .int .u8 0, .int .u8 0, .int .u8 0, .int .u8 0, .int .u8 0, .int .u8 0, .int .u8 0, .int .u8 0, .int .u8 0, .int .u8 0, .int .u8 0, .int .u8 0, .int .u8 0, .int .u8 0, .int .u8 0, .int .u8 0, .int .u8 0, .int .u8 0, .int .u8 0, .int .u8 0, .int .u8 0, .int .u8 0, .int .u8 0, .int .u8 0, .int .u8 0, .int .u8 0, .int .u8 0, .int .u8 0, .int .u8 0, .int .u8 0, .int .u8 0, .int .u8 0, .int .u8 0, .int .u8 0, .int .u8 0, .int .u8 0, .int .u8 0, .int .u8 0, .int .u8 0, .int .u8 0, .int .u8 0, .int .u8 0] 63)).drew.setCells W1.heap.size 0 U := ⟨_, rfl⟩
              have hb2 : Below W1.heap.size W1 W2 := by rw [hW2]; exact HB.out
              rw [← hW2]
              clear hW2 hth HA HB HBD HSK hone hu64
              have hs64 := HH.out.ok.wlen _ _ hw
              obtain ⟨hx0, hx1⟩ := HH.out.ok.within _ _ hw
              have HTM := Lib.hid (tornM_yes (cur := cur) (b := bs) hw)
              obtain ⟨i, rfl⟩ := Int.eq_ofNat_of_zero_le hx0
              have hii : (i : Int) < d.dur.length := hx1
              have hk2 := HKD.out.stays hb2
              have hc2 := HCT.out.stays hb2
              have hPl := padV_len bs
              have hof := of_any _ bs W2.drew ((HROW.out.stays hb2).stays (Below.refl _ _).drew) hbl
              have hFIN : ∀ W, Below W2.heap.size W2 W → Dk (W.setCells gd (i * 64) (secC (padV bs))) g gd gm (cm d (cur.set i (padV bs))) ∧ Grew [gd] w (W.setCells gd (i * 64) (secC (padV bs))) := fun W hW => by
                have hkW := hk2.stays hW
                have hput := secs_put hkW.dur HCA.out (i := i) (by show i < cur.length; rw [HCL.out]; omega) (padV bs) hPl
                have hgw : W.grownBy (W.setCells gd (i * 64) (secC (padV bs))) (some gd) := Grew.toGrown (grew_setCells (S := [gd]) (.inl (by simp)) _ _ (Grew.refl [gd] W)) (fun i hi => by simp at hi; exact .inl hi)
                refine ⟨HH.out.cm (by rw [List.length_set]; exact HCL.out) (fun t ht => by
                  rcases List.mem_or_eq_of_mem_set ht with h' | rfl
                  · exact HCA.out t h'
                  · exact hPl) (CellsAt.grown (by have := hkW.cells; rw [show (cm d cur).dur.length = d.dur.length from HCL.out] at this; exact this) hgw (by simp; exact fun e => ap1 e.symm)) hput (hkW.wr.kept hgw (by simp; exact ap3)), ?_⟩
                exact ((HG1.out.add hb2).add hW).trans (Grew.ofGrown hgw)
              have hS2 : ∀ W, Below W2.heap.size W2 W → W.cell? ⟨g, 0, none⟩ = some (.slice (some ⟨gd, 0, none⟩) d.dur.length d.dur.length) ∧ W.cell? ⟨P1, 0, none⟩ = some (.int .i64 i) ∧ W.cell? ⟨P1, 1, none⟩ = some (.slice va bs.length vc) ∧ W.there gd (i * 64) 64 := fun W hW =>
                ⟨by have := (hk2.stays hW).c0; rw [show (cm d cur).dur.length = d.dur.length from HCL.out] at this; exact this, (hc2.stays hW).cell 0 (v := .int .i64 i) rfl, (hc2.stays hW).cell 1 (v := .slice va bs.length vc) rfl, secs_there (hk2.stays hW).dur HCA.out (by show i < cur.length; rw [HCL.out]; omega)⟩
              have hsl : (secC (padV bs)).length = 64 := by rw [secC_len]; exact hPl
              have hone := secC_one (padV bs)
              obtain ⟨U2, hU2⟩ : ∃ U2, U2 = secC (padV bs) := ⟨_, rfl⟩
              have hUV : secV (padV bs) = .agg U2.toArray := by rw [hU2]; rfl
              rw [hUV] at hof
              rw [← hU2] at hsl hone
              simp only [← hU2] at hFIN
              have hT2 : ∀ W, Below W2.heap.size W2 W → (W.setCells gd (i * 64) U2).cell? ⟨g, 0, none⟩ = some (.slice (some ⟨gd, 0, none⟩) d.dur.length d.dur.length) ∧ (W.setCells gd (i * 64) U2).cell? ⟨P1, 0, none⟩ = some (.int .i64 i) ∧ (W.setCells gd (i * 64) U2).cell? ⟨P1, 1, none⟩ = some (.slice va bs.length vc) ∧ (W.setCells gd (i * 64) U2).there gd (i * 64) 64 := fun W hW => by
                obtain ⟨s1, s2, s3, s4⟩ := hS2 W hW
                refine ⟨(World.cell?_setCells_out gd U2 _ W _ (fun e => absurd e ap1)).trans s1, (World.cell?_setCells_out gd U2 _ W _ (fun e => by have e' : P1 = gd := e; omega)).trans s2, (World.cell?_setCells_out gd U2 _ W _ (fun e => by have e' : P1 = gd := e; omega)).trans s3, ?_⟩
                have hd' := (hFIN W hW).1.dur
                exact secs_there hd' (fun t ht => by
                  rcases List.mem_or_eq_of_mem_set ht with h' | rfl
                  · exact HCA.out t h'
                  · exact hPl) (by show i < (cur.set i (padV bs)).length; rw [List.length_set, HCL.out]; omega)
              have hi64 : (Tryd.prog.info? 63).map (·.size) = some U2.length := by rw [hsl]; exact sizeSec
              have hu := Tryd.underlying63
              have hi0 : (0 : Int) ≤ (i : Int) := by omega
              have HFIN := Lib.hid hFIN
              have HS2 := Lib.hid hS2
              have HT2 := Lib.hid hT2
              have HOF := Lib.hid hof
              have HBD2 : Hid (Below W2.heap.size W2 W2.drew) := (Below.refl _ _).drew
              clear hb2 hw hs64 hx0 hx1 hk2 hc2 hPl hof hFIN hS2 hT2 hU2 hUV hq1 hq2
              go_wp2_with fail
              go_region_held3 (fun w' => w'.cell? ⟨g, 0, none⟩ = some (.slice (some ⟨gd, 0, none⟩) d.dur.length d.dur.length) ∧ w'.cell? ⟨P1, 0, none⟩ = some (.int .i64 i) ∧ w'.cell? ⟨P1, 1, none⟩ = some (.slice va bs.length vc) ∧ w'.there gd (i * 64) 64) (first | exact HS2.out _ HBD2.out | exact HS2.out _ hb5 | exact HT2.out _ hb5) ((go_at_call 23; refine HOF.out.mono ?_; rintro e w5 ⟨rfl, hb5'⟩; have hb5 := HBD2.out.trans hb5'))
              all_goals go_wp2_with fail
              all_goals go_roundw
              case rel =>
                refine ⟨k + 1, cur.set i (padV bs), by omega, by go_num, ?_, by rw [List.length_set]; exact HCL.out, fun t ht => ?_, (HFIN.out _ hb5).1, (HFIN.out _ hb5).2⟩
                · show _ = _
                  rw [HKT.out, ← HC.out, HTM.out, Int.toNat_natCast]
                · rcases List.mem_or_eq_of_mem_set ht with h' | rfl
                  · exact HCA.out t h'
                  · exact padV_len bs
              case measure => simp [intOf]; omega
          | none =>
            have hlk0 : ∀ W, Below W1.heap.size W1 W → (Instr.lookup 58 (.map (some gm)) (.int .i64 q) true).run Tryd.prog W = .ok (.tuple #[secV zero64, .bool false]) W := fun W hW => by
              have := lookI_run (HKD.out.stays hW).wr Tryd.underlying3 Tryd.underlying58 (zeroSec W) q ⟨hq1, hq2⟩
              rw [show (cm d cur).wr q = none from hw] at this
              exact this
            have hu64 : (secC zero64).length = 64 := by rw [secC_len]; exact zero64_len
            have hone := secC_one zero64
            obtain ⟨U, hU⟩ : ∃ U, U = secC zero64 := ⟨_, rfl⟩
            have hUV : secV zero64 = .agg U.toArray := by rw [hU]; rfl
            rw [← hU] at hu64 hone
            rw [hUV] at hlk0
            have hSK : ∀ W, Below W1.heap.size W1 W → Below W1.heap.size W1 W ∧ W.cell? ⟨g, 1, none⟩ = some (.map (some gm)) ∧ W.cell? ⟨P1, 0, none⟩ = some (.int .i64 q) ∧ (Instr.lookup 58 (.map (some gm)) (.int .i64 q) true).run Tryd.prog W = .ok (.tuple #[.agg U.toArray, .bool false]) W := fun W hW =>
              ⟨hW, (HKD.out.stays hW).c1, (HCT.out.stays hW).cell 0 (v := .int .i64 q) rfl, hlk0 W hW⟩
            obtain ⟨WA, hWA⟩ : ∃ W, W = (W1.alloc (.cells #[.int .u8 0, .int .u8 0, .int .u8 0, .int .u8 0, .int .u8 0, .int .u8 0, .int .u8 0, .int .u8 0, .int .u8 0, .int .u8 0, .int .u8 0, .int .u8 0, .int .u8 0, .int .u8 0, .int .u8 0, .int .u8 0, .int .u8 0, .int .u8 0, .int .u8 0, .int .u8 0, .int .u8 0, .int .u8 0, .int .u8 0, .int .u8 0, .int .u8 0, .int .u8 0, .int .u8 0, .int .u8 0, .int .u8 0, .int .u8 0, .int .u8 0, .int .u8 0, .int .u8 0, .int .u8 0, .int .u8 0, .int .u8 0, .int .u8 0, .int .u8 0, .int .u8 0, .int .u8 0, .int .u8 0, .int .u8 0, .int .u8 0, .int .u8 0, .int .u8 0, .int .u8 0, .int .u8 0, .int .u8 0, .int .u8 0, .int .u8 0, .int .u8 0, .int .u8 0, .int .u8 0, .int .u8 0, .int .u8 0, .int .u8 0, .int .u8 0, .int .u8 0, .int .u8 0, .int .u8 0, .int .u8 0, .int .u8 0, .int .u8 0, .int .u8 0] 63)).drew := ⟨_, rfl⟩
            have hWA2 : WA = (W1.alloc (.cells secZ 63)).drew := by rw [hWA, ← z64_eq]; rfl
            have hA : Below W1.heap.size W1 WA := by rw [hWA2]; exact ((Below.refl _ _).alloc (Nat.le_refl _) _).drew
            have hB : Below W1.heap.size W1 (WA.setCells W1.heap.size 0 U) := (grew_setCells (S := [W1.heap.size]) (.inl (by simp)) U 0 (Grew.refl [W1.heap.size] WA)).below hA (by simp) hA.size
            have hcZ : CellsAt WA W1.heap.size 63 secZ := by rw [hWA2]; exact CellsAt.new W1 _ _
            have hth : WA.there W1.heap.size 0 64 := fun j hj => ⟨by
              rw [Nat.zero_add, hcZ.cell j (v := secZ[j]'(by rw [secZ_size]; exact hj)) (Array.getElem?_eq_getElem _)]; rfl, hcZ.free _⟩
            have HB := Lib.hid hB
            have hi64 := sizeSec
            have hbd : Below W1.heap.size W1 W1.drew := (Below.refl _ _).drew
            have HSK := Lib.hid hSK
            clear hlk0 hU hUV hSK t0 c1 hcZ hWA2 hB
            subst hWA
            have HA := Lib.hid hA
            have HBD := Lib.hid hbd
            clear hA hbd
            go_region_held3 (fun w' => Below W1.heap.size W1 w' ∧ w'.cell? ⟨g, 1, none⟩ = some (.map (some gm)) ∧ w'.cell? ⟨P1, 0, none⟩ = some (.int .i64 q) ∧ (Instr.lookup 58 (.map (some gm)) (.int .i64 q) true).run Tryd.prog w' = .ok (.tuple #[.agg U.toArray, .bool false]) w') ((refine HSK.out _ ?_; first | exact HBD.out | exact HA.out | exact HB.out)) (fail)
            all_goals
              obtain ⟨W2, hW2⟩ : ∃ W, W = (W1.alloc (.cells #[.int .u8 0, .int .u8 0, .int .u8 0, .int .u8 0, .int .u8 0, .int .u8 0, .int .u8 0, .int .u8 0, .int .u8 0, .int .u8 0, .int .u8 0, .int .u8 0, .int .u8 0, .int .u8 0, .int .u8 0, .int .u8 0, .int .u8 0, .int .u8 0, .int .u8 0, .int .u8 0, .int .u8 0, .int .u8 0, .int .u8 0, .int .u8 0, .int .u8 0, .int .u8 0, .int .u8 0, .int .u8 0, .int .u8 0, .int .u8 0, .int .u8 0, .int .u8 0, .int .u8 0, .int .u8 0, .int .u8 0, .int .u8 0, .int .u8 0, .int .u8 0, .int .u8 0, .int .u8 0, .int .u8 0, .int .u8 0, .int .u8 0, .int .u8 0, .int .u8 0, .int .u8 0, .int .u8 0, .int .u8 0, .int .u8 0, .int .u8 0, .int .u8 0, .int .u8 0, .int .u8 0, .int .u8 0, .int .u8 0, .int .u8 0, .int .u8 0, .int .u8 0, .int .u8 0, .int .u8 0, .int .u8 0, .int .u8 0, .int .u8 0, .int .u8 0] 63)).drew.setCells W1.heap.size 0 U := ⟨_, rfl⟩
              have hb2 : Below W1.heap.size W1 W2 := by rw [hW2]; exact HB.out
              rw [← hW2]
              have HTM := Lib.hid (tornM_no (cur := cur) (b := bs) hw)
              have HK2 := Lib.hid (HKD.out.stays hb2)
              have HG2 := Lib.hid (HG1.out.add hb2)
              clear hW2 hth HA HB HBD HSK hone hu64 hw hb2
              go_wp2_with fail
              all_goals go_roundw
              case rel =>
                refine ⟨k + 1, cur, by omega, by go_num, ?_, HCL.out, HCA.out, HK2.out, HG2.out⟩
                show _ = _
                rw [HKT.out, ← HC.out, HTM.out]
              case measure => simp [intOf]; omega
        · obtain rfl : k = ts.length := by omega
          have hcT : cur = (ts.map To.p).foldl (tornM d.wr) (ks.foldl (keepM d.wr) d.dur) := by have := HC.out; rw [List.take_of_length_le (by simp)] at this; exact this
          have c1 := hkd.c1
          have HKD := Lib.hid hkd
          have HCL := Lib.hid hcl
          have HCT := Lib.hid hcT
          clear hkd hcT hcl HC
          go_wp2_with (first
            | (refine wpList_clearI _ rfl _ _ rfl 3 63 Tryd.underlying58 gm d.writes _ rfl HKD.out.wr ?_; intro w5 hm5 hg5; have hc5 := HKD.out.cells.grown hg5 (fun e => ap2 (by cases e; rfl)); have c2 := hc5.cell 2 (v := .int .i64 d.fuse) rfl; have f2 := hc5.free 2))
          have hd5 := HKD.out.dur.grown hg5 (fun e => ap3 (by cases e; rfl))
          have hG5 : Grew [g, gd, gm] w w5 := (hG.mono (by simp)).grown hg5 (fun i hi => by cases hi; simp)
          have HG6 : Hid (Grew [g, gd, gm] w (w5.setCell ⟨g, 2, none⟩ (.int .i64 (-1)))) := hG5.setCell (p := ⟨g, 2, none⟩) (.inl (by simp)) _
          have HDK : Hid (Dk (w5.setCell ⟨g, 2, none⟩ (.int .i64 (-1))) g gd gm (crashM d ks (ts.map To.p))) := by
            have hok := HH.out.ok.crash ks (ts.map To.p)
            have hsm := HH.out.small
            have hcr : crashM d ks (ts.map To.p) = { d with dur := cur, wr := fun _ => none, fuse := -1 } := by rw [HCT.out]; rfl
            rw [hcr] at hok
            show Dk _ _ _ _ _
            rw [hcr]
            refine ⟨?_, hd5.other _ (Ne.symm ap1) _, ((hm5.mono (Nat.zero_le _)).congr (fun a _ => rfl)).setCell ap2 _, hok, hsm⟩
            have := hc5.set 2 (.int .i64 (-1))
            exact this
          clear hc5 hm5 hg5 hd5 hG5
          go_wp2_with fail
          go_end0
          exact ⟨rfl, HDK.out, HG6.out⟩
end Go.Proofs.YtalebgnnlgcglaaDoor
