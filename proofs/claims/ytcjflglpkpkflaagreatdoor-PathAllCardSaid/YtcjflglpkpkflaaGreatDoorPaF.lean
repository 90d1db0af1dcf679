/- Paths: Parse. -/
import Derived.Test.YtcjflglpkpkflaaGreatDoorPaD
import Derived.Test.YtcjflglpkpkflaaGreatDoorPaE
import Derived.Test.YtcjflglpkpkflaaGreatDoorVo
namespace Go.Proofs.YtcjflglpkpkflaaGreatDoor
open Go Go.RowKit
set_option linter.unusedVariables false
theorem infoSt : (Tryz.prog.info? 62).map (fun i => (i.zero, i.size, i.bytes)) = some (some (.agg #[.int .i64 0, .int .i64 0, .int .i64 0, .int .i64 0, .int .u64 0, .string ⟨#[]⟩, .slice none 0 0, .string ⟨#[]⟩, .slice none 0 0, .slice none 0 0]), 10, 144) := by kernel_rfl
/-- the path that a text is -/
def parseR (l : Bs) : Option (List PS) := match parseP l with | some q => if pathB q then some q else none | none => none
theorem leaf_rq {S : Nat → Prop} {w : World} {K N T k : Int} {n : Nat} {t : Bs} (h : (0 ≤ K ∧ K ≤ 6) ∧ (0 ≤ N ∧ N ≤ 1073741824) ∧ (0 ≤ T ∧ T ≤ 1073741824)) (hk : 0 ≤ k ∧ k ≤ 2) (hn : n < 18446744073709551616) : RQ S w (⟨K, N, T, leafV k n t⟩, A3.nil) :=
  ⟨⟨⟨by simp only; omega, by simp only; omega⟩, ⟨by simp only; omega, by simp only; omega⟩, ⟨by simp only; omega, by simp only; omega⟩⟩, Rep.leaf k n t [] ⟨by omega, by omega⟩ hn A3.nil⟩
/-- the steps so far: their keys have no rows -/
def LeafQ (q : SQ) : Prop := ∀ (S : Nat → Prop) (w : World), RQ S w q
def ParI (l l' : Bs) (b : Bool) (acc : List SQ) : Prop :=
  (∀ q ∈ acc, LeafQ q) ∧ l'.length ≤ l.length ∧ (b = true → parseP l = none ∧ acc.length ≤ l.length + 1) ∧ (b = false → acc.length + l'.length ≤ l.length ∧ parseP l = match parseP l' with | some q => some (acc.map Prod.fst ++ q) | none => none)
theorem ParI.start (l : Bs) : ParI l l false [] := ⟨fun q h => (by cases h), Nat.le_refl _, fun h => (by cases h), fun _ => ⟨by simp, by cases parseP l <;> rfl⟩⟩
theorem ParI.step {l l' l2 : Bs} {acc : List SQ} {K N T k : Int} {n : Nat} {t : Bs} {b2 : Bool} (h : ParI l l' false acc) (hne : l' ≠ []) (h1 : (0 ≤ K ∧ K ≤ 6) ∧ (0 ≤ N ∧ N ≤ 1073741824) ∧ (0 ≤ T ∧ T ≤ 1073741824)) (hk : 0 ≤ k ∧ k ≤ 2) (hn : n < 18446744073709551616) (hl2 : l2.length ≤ l'.length) (ho : stepOk (stepP l') K N T k n t l2 b2 false) :
    ParI l l2 b2 (acc ++ [(⟨K, N, T, leafV k n t⟩, A3.nil)]) := by
  obtain ⟨i1, i2, -, i4⟩ := h
  obtain ⟨i5, i6⟩ := i4 rfl
  have hlen : 0 < l'.length := List.length_pos_iff.2 hne
  refine ⟨fun q hq => ?_, Nat.le_trans hl2 i2, fun hb => ?_, fun hb => ?_⟩
  · rcases List.mem_append.1 hq with hq | hq
    · exact i1 q hq
    · obtain rfl := List.mem_singleton.1 hq
      exact fun S w => leaf_rq h1 hk hn
  · refine ⟨?_, by simp; omega⟩
    rw [i6, parseP_step hne]
    cases hs : stepP l' with
    | none => rfl
    | some p =>
      obtain ⟨s, r⟩ := p
      rw [hs] at ho
      obtain ⟨-, -, h3⟩ := ho
      rw [h3] at hb
      cases hb
  · cases hs : stepP l' with
    | none =>
      rw [hs] at ho
      rw [show b2 = true from ho] at hb
      cases hb
    | some p =>
      obtain ⟨s, r⟩ := p
      rw [hs] at ho
      obtain ⟨rfl, rfl, -⟩ := ho
      have hlt := stepP_lt hs
      refine ⟨by simp; omega, ?_⟩
      rw [i6, parseP_step hne, hs]
      simp only
      cases parseP r with
      | none => rfl
      | some q => simp
theorem pathQ_parse {acc : List SQ} : pathQ acc = pathB (acc.map Prod.fst) := pathQ_map acc
theorem strB_tlP (l : Bs) : (strB l).toList = l := by
  have h : (strB l).toList = (strB l).data.toList := ByteArray.toList_eq _
  rw [h]; rfl
theorem below_drewP {b : Nat} {w w1 : World} {n : Nat} (h : Below b w w1) : Below b w (w1.drewN n) := ⟨h.os, h.tape, h.output, h.size, h.block⟩
def parM (g : Nat) (wr : World) : Nat := match wr.cell? ⟨g, 1, none⟩ with | some (.bool true) => 0 | _ => 1 + match wr.cell? ⟨g, 0, none⟩ with | some (.string s) => s.size | _ => 0
theorem parM_pc {g : Nat} {w : World} {l : Bs} {b : Bool} (h : PC w g l b) : parM g w = if b then 0 else 1 + l.length := by
  unfold parM
  rw [CellsAt.cell h 1 (v := .bool b) rfl, CellsAt.cell h 0 (v := .string (strB l)) rfl]
  cases b
  · simp only [strB_size]; rfl
  · rfl
/-- what Parse answers -/
def ParseP (o : Option (List PS)) (aF : Addr) (w : World) (e : Ending) (w' : World) : Prop :=
  (match o with
    | some q => ∃ (a : Option Addr) (c : Nat) (ql : List SQ), e = .returned (.tuple #[.slice a ql.length c, .nilIface]) ∧ ql.map Prod.fst = q ∧ PathR (fun k => w.heap.size ≤ k) w' (.slice a ql.length c) ql
    | none => e = .returned (.tuple #[.slice none 0 0, EP aF])) ∧ Below w.heap.size w w'
set_option maxRecDepth 100000 in
set_option maxHeartbeats 8000000 in
theorem parse_any {w : World} {aF : Addr} (hE : ErrsN w) (hF : ErrAt w 0 aF) (l : Bs) (hl : l.length ≤ 1000000) :
    Calls Tryz.prog 9 #[.string (strB l)] w (ParseP (parseR l) aF w) := by
  obtain ⟨W0, hW0⟩ : ∃ W0, W0 = w.alloc (.cells #[.string (strB l), .bool false] 67) := ⟨_, rfl⟩
  obtain ⟨g, hg⟩ : ∃ g, g = w.heap.size := ⟨_, rfl⟩
  have hb0 : Below w.heap.size w W0 := by rw [hW0]; exact (Below.refl _ _).alloc (Nat.le_refl _) _
  have h0 : PC W0 g l false := by rw [hW0, hg]; exact CellsAt.new w _ _
  have hsz0 : W0.heap.size = g + 1 := by rw [hW0, hg]; simp
  have HE : Hid (∀ W, Below w.heap.size w W → ErrsN W ∧ ErrAt W 0 aF) := fun W hb => ⟨hE.stays hb, hF.stays hb⟩
  have HS0 := Lib.hid hsz0
  have HG := Lib.hid hg
  have HW := Lib.hid hW0
  have HB0 := Lib.hid hb0
  have H0 := Lib.hid h0
  have HL := Lib.hid hl
  have HPR : Hid (parseR l = match parseP l with | some q => if pathB q then some q else none | none => none) := rfl
  clear hE hF hsz0 hg hW0 hb0 h0 hl
  generalize parseR l = PR at HPR ⊢
  go_enter Tryz.func9, Tryz.ntmps9
  go_upto_region 2 with fail
  rw [← HW.out, ← HG.out]
  clear HW
  go_wp2_with fail
  go_loopw [5] (fun v wr => ∃ (l' : Bs) (b : Bool) (acc : List SQ), OwnS 62 10 sC (g + 1) wr v acc ∧ Hid (PC wr g l' b) ∧ Hid (Below w.heap.size w wr) ∧ Hid (ParI l l' b acc) ∧ Hid (g + 1 ≤ wr.heap.size)) (fun _ wr => parM g wr)
  case atStart => exact ⟨l, false, [], OwnS.nil _ _, H0.out, HB0.out, ParI.start l, Nat.le_of_eq HS0.out.symm⟩
  case round =>
    obtain ⟨l', b, acc, how, HPC, HBE, HI, HSZ⟩ := hrel
    have c0 := CellsAt.cell HPC.out 0 (v := .string (strB l')) rfl
    have c1 := CellsAt.cell HPC.out 1 (v := .bool b) rfl
    have hob : ∀ k, u5.ownBlock = some k → g + 1 ≤ k := fun k hk => by
      rcases how.2 with ⟨h1, h2⟩ | ⟨g', cap, cur, h1, h2, -⟩
      · subst h1; simp [Value.ownBlock] at hk
      · subst h1; simp [Value.ownBlock] at hk; omega
    cases b with
    | true =>
      have HN : Hid (PR = none) := by show _ = _; rw [HPR.out, (HI.out.2.2.1 rfl).1]
      have hF := (HE.out wr HBE.out).2
      unfold ErrAt at hF
      obtain ⟨av, cv, rfl, -, -⟩ := how.row.shape sC_len
      clear HE HPR HI how HPC HSZ HL HS0 HG HB0 H0
      cases l' with
      | nil =>
        have t0 : (strB ([] : Bs)).toList.isEmpty = true := by rw [strB_tlP]; rfl
        go_wp2_with fail
        go_quiet (fail)
        go_wp2_with fail
        go_ret2
        exact ⟨by rw [HN.out]; rfl, below_drewP HBE.out⟩
      | cons x t =>
        have t0 : (strB (x :: t)).toList.isEmpty = false := by rw [strB_tlP]; rfl
        go_wp2_with fail
        go_quiet (fail)
        go_wp2_with fail
        go_ret2
        exact ⟨by rw [HN.out]; rfl, below_drewP HBE.out⟩
    | false =>
      by_cases h0 : l' = []
      · subst h0
        have t0 : (strB ([] : Bs)).toList.isEmpty = true := by rw [strB_tlP]; rfl
        obtain ⟨i1, -, -, i4⟩ := HI.out
        obtain ⟨i5, i6⟩ := i4 rfl
        rw [parseP_nil] at i6
        simp only [List.append_nil] at i6
        have HPR2 : Hid (PR = if pathQ acc then some (acc.map Prod.fst) else none) := by
          show _ = _
          rw [HPR.out, i6, pathQ_map]
        have hrow := how.row
        obtain ⟨av, cv, rfl, -, -⟩ := hrow.shape sC_len
        have HP : Hid (∀ S W, Below wr.heap.size wr W → PathR S W (.slice av acc.length cv) acc) := fun S W hW => ⟨hrow.stays hW, fun q hq => i1 q hq S W⟩
        have hC : Calls _ _ _ wr _ := pright_any (HP.out (fun _ => True) wr (Below.refl _ _))
        have HC := Lib.hid hC
        have HOB : Hid (∀ k, (Value.slice av acc.length cv).ownBlock = some k → w.heap.size ≤ k) := fun k hk => by have := hob k hk; have := HG.out; omega
        clear i1 i4 i5 i6 HPR HI how hrow hob hC HPC HSZ HL HS0 HG HB0 H0
        go_wp2_with fail
        refine HC.out.mono ?_
        rintro e w1 ⟨rfl, hb1⟩
        have hF := (HE.out w1 (HBE.out.trans (hb1.mono HBE.out.size))).2
        unfold ErrAt at hF
        have HBE1 := Lib.hid (HBE.out.trans (hb1.mono HBE.out.size))
        have HP1 := Lib.hid (HP.out (fun k => w.heap.size ≤ k) w1 hb1)
        clear HC HE HP HBE hb1
        cases hq : pathQ acc with
        | false =>
          rw [hq] at HPR2
          have HN : Hid (PR = none) := HPR2.out
          clear HPR2 hq
          go_wp2_with fail
          go_quiet (fail)
          go_wp2_with fail
          go_ret2
          exact ⟨by rw [HN.out]; rfl, below_drewP HBE1.out⟩
        | true =>
          rw [hq] at HPR2
          have HN : Hid (PR = some (acc.map Prod.fst)) := HPR2.out
          clear HPR2 hq hF
          go_wp2_with fail
          go_ret2
          exact ⟨by rw [HN.out]; exact ⟨av, cv, acc, rfl, rfl, HP1.out⟩, HBE1.out⟩
      · have t0 : (strB l').toList.isEmpty = false := by rw [strB_tlP]; cases l' with | nil => exact absurd rfl h0 | cons _ _ => rfl
        have hIL := HI.out.2.1
        have hAL := (HI.out.2.2.2 rfl).1
        have hl6 : l'.length ≤ 1000000 := Nat.le_trans hIL HL.out
        have hC : Calls _ _ _ wr _ := step_any (HE.out wr HBE.out).1 HPC.out hl6
        have HC := Lib.hid hC
        have HNE := Lib.hid h0
        have HOW := Lib.hid how
        have HOB := Lib.hid hob
        have hacc : acc.length ≤ 1000000 := by have := HL.out; omega
        have HACC := Lib.hid hacc
        clear hIL hAL hl6 hC h0 how hob hacc HE HB0 H0 HS0
        go_wp2_with fail
        refine HC.out.mono ?_
        rintro e w2 ⟨K, N, T, k, n, t, l2, b2, he, hb, ⟨hk, hn, ht⟩, hc2, hl2, hg2, ho⟩
        replace he : e = .returned (.agg #[.int .i64 K, .int .i64 N, .int .i64 T, .int .i64 k, .int .u64 (n : Int), .string (strB t), .slice none 0 0, .string (strB []), .slice none 0 0, .slice none 0 0]) := he
        subst he
        have HI2 := Lib.hid (HI.out.step HNE.out hb hk hn hl2 ho)
        have HM : Hid (b2 = false → l2.length < l'.length) := fun h => by
          cases hs : stepP l' with
          | none => rw [hs] at ho; rw [show b2 = true from ho] at h; cases h
          | some p =>
            obtain ⟨s, r⟩ := p
            rw [hs] at ho
            obtain ⟨-, rfl, -⟩ := ho
            exact stepP_lt hs
        have how2 : OwnS 62 10 sC (g + 1) w2 u5 acc := own_grown HOW.out (hg2.toGrown (fun i hi => .inl (by simpa using hi))) (fun k hk e => by cases e; have := HOB.out g hk; omega)
        have hgw : w.heap.size ≤ g := by have := HG.out; omega
        have HBE2 : Hid (Below w.heap.size w w2) := hg2.below HBE.out (fun i hi => by rw [show i = g from by simpa using hi]; exact hgw) HBE.out.size
        have HC2 := Lib.hid hc2
        have hsz2 : g + 1 ≤ w2.heap.size := Nat.le_trans HSZ.out hg2.size
        have HSZ2 := Lib.hid hsz2
        clear HC hb hk hn ht hc2 hl2 hg2 ho HOW hgw HPR HI HNE
        have hacc := HACC.out
        go_wp2_with (at_builtin; go_must (refine wpList_pushS sC_len sC_one Tryz.underlying23 infoSt rfl (by decide) how2 (⟨K, N, T, leafV k n t⟩, A3.nil) (by omega) hsz2 rfl _ _ rfl (by rfl) _ _ _ (by rfl) (by rfl) ?_))
        intro v3 w3 ho3 hg3 hn3
        have HC3 : Hid (PC w3 g l2 b2) := CellsAt.grown HC2.out hg3 (fun e => by have := HOB.out g e; omega)
        have HBE3 : Hid (Below w.heap.size w w3) := below_own HBE2.out (own_mono how2 (by have := HG.out; omega)) hg3 HBE2.out.size
        have HSZ3 : Hid (g + 1 ≤ w3.heap.size) := Nat.le_trans HSZ2.out hg3.size
        clear how2 hg3 hn3 hsz2 hacc c0 c1 HBE HBE2 HC2
        go_wp2_with fail
        go_roundw
        case rel => exact ⟨l2, b2, _, ho3, HC3.out, HBE3.out, HI2.out, HSZ3.out⟩
        case measure =>
          rw [parM_pc HC3.out, parM_pc HPC.out]
          cases b2 with
          | true => simp; omega
          | false => have := HM.out rfl; simp; omega
end Go.Proofs.YtcjflglpkpkflaaGreatDoor
