/- Scripts: the torn sectors of a word, with commas between. -/
import Derived.Test.YtbcpciegdmminaaGreatDoorScL
import Derived.Test.YtbcpciegdmminaaGreatDoorSrows
namespace Go.Proofs.YtbcpciegdmminaaGreatDoor
open Go Go.RowKit
set_option linter.unusedVariables false
/-- a torn sector, and where its bytes lie -/
abbrev TQ := (Int × Bs) × (Option Addr × Nat)
def tqV (y : TQ) : Value := .slice y.2.1 y.1.2.length y.2.2
def tqC (y : TQ) : List Value := [.int .i64 y.1.1, tqV y]
theorem tqC_len (y : TQ) : (tqC y).length = 2 := rfl
theorem tqC_one (y : TQ) : (tqC y).all Value.oneCell' = true := rfl
theorem infoTn : (Tryz.prog.info? 57).map (fun i => (i.zero, i.size, i.bytes)) = some (some (.agg #[.int .i64 0, .slice none 0 0]), 2, 32) := by kernel_rfl
theorem mapO_get {α : Type} (g : Bs → Option α) : ∀ (r : List Bs) (l : List α), mapO g r = some l → l.length = r.length ∧ ∀ (i : Nat) (x : Bs), r[i]? = some x → ∃ t, l[i]? = some t ∧ g x = some t
  | [], l, h => by cases h; exact ⟨rfl, fun i x hx => by simp at hx⟩
  | s :: r, l, h => by
    rw [mapO] at h
    split at h
    · rename_i y l' h1 h2
      cases h
      obtain ⟨k1, k2⟩ := mapO_get g r l' h2
      refine ⟨by simp [k1], fun i x hx => ?_⟩
      cases i with
      | zero =>
        rw [List.getElem?_cons_zero] at hx
        cases hx
        exact ⟨y, rfl, h1⟩
      | succ i =>
        rw [List.getElem?_cons_succ] at hx
        obtain ⟨t, k3, k4⟩ := k2 i x hx
        exact ⟨t, by rw [List.getElem?_cons_succ]; exact k3, k4⟩
    · cases h
/-- what was read so far is what the words tell -/
def ToldT (R : List Bs) (acc : List TQ) : Prop := acc.length = R.length ∧ ∀ (i : Nat) (x : Bs) (t : Int × Bs), R[i]? = some x → getT x = some t → ∃ y, acc[i]? = some y ∧ y.1 = t
theorem ToldT.all {R : List Bs} {acc : List TQ} (h : ToldT R acc) {L : List (Int × Bs)} (hL : mapO getT R = some L) : acc.map Prod.fst = L := by
  obtain ⟨k1, k2⟩ := mapO_get getT R L hL
  apply List.ext_getElem?
  intro i
  rw [List.getElem?_map]
  by_cases hi : i < R.length
  · obtain ⟨t, h3, h4⟩ := k2 i _ (List.getElem?_eq_getElem hi)
    obtain ⟨y, h5, h6⟩ := h.2 i _ t (List.getElem?_eq_getElem hi) h4
    rw [h5, h3, Option.map_some, h6]
  · rw [List.getElem?_eq_none (by rw [h.1]; omega), List.getElem?_eq_none (by rw [k1]; omega)]; rfl
theorem ToldT.snoc {R : List Bs} {acc : List TQ} (h : ToldT R acc) (x : Bs) (y : TQ) (hy : ∀ t, getT x = some t → y.1 = t) : ToldT (R ++ [x]) (acc ++ [y]) := by
  refine ⟨by simp [h.1], fun i z t hz ht => ?_⟩
  by_cases hi : i < R.length
  · rw [List.getElem?_append_left hi] at hz
    obtain ⟨u, h5, h6⟩ := h.2 i z t hz ht
    exact ⟨u, by rw [List.getElem?_append_left (by rw [h.1]; exact hi)]; exact h5, h6⟩
  · rw [List.getElem?_append_right (by omega)] at hz
    have hi0 : i = R.length := by
      have := (List.getElem?_eq_some_iff.1 hz).1
      simp at this
      omega
    subst hi0
    rw [Nat.sub_self, List.getElem?_cons_zero] at hz
    cases hz
    exact ⟨y, by rw [List.getElem?_append_right (by rw [h.1]; exact Nat.le_refl _), h.1, Nat.sub_self]; rfl, hy t ht⟩
theorem rowB_kept {w w' : World} {v : Value} {bs : Bs} {row : Option Nat} (h : RowB w v bs) (hg : w.grownBy w' row) (hr : ∀ q, v.ownBlock = some q → row ≠ some q) : RowB w' v bs := by
  cases row with
  | none => exact Row.stays h ⟨hg.os, hg.tape, hg.output, hg.size, fun i hi => hg.block i hi (by simp)⟩
  | some g => exact (Grew.ofGrown hg).row h (fun k hk hm => hr k hk (by rw [List.mem_singleton.1 hm]))
/-- the elements' bytes lie apart from the row -/
def ELT (B : Nat) (v : Value) (w : World) (acc : List TQ) : Prop := ∀ y ∈ acc, RowB w (tqV y) y.1.2 ∧ ∀ q, (tqV y).ownBlock = some q → B ≤ q ∧ q < w.heap.size ∧ v.ownBlock ≠ some q
set_option maxRecDepth 100000 in
set_option maxHeartbeats 1000000 in
theorem partsT_any {aS aR : Addr} {w : World} {r : Nat} {ws : List Bs} {bad : Bool} (h : RD w r ws bad) (hV : VarsS aS aR w) (s : Bs) (hs : s.length ≤ 1000000) :
    Calls Tryz.prog 62 #[.string (strB s), .func (.func 63) #[.pointer (some ⟨r, 0, none⟩)] #[]] w fun e w' => ∃ (v : Value) (acc : List TQ), e = .returned v ∧ OwnS 57 2 tqC w.heap.size w' v acc ∧ (∀ y ∈ acc, RowB w' (tqV y) y.1.2 ∧ ∀ q, (tqV y).ownBlock = some q → w.heap.size ≤ q) ∧ (∀ L, getL getT s = some L → acc.map Prod.fst = L) ∧ RD w' r ws (bad || (getL getT s).isNone) ∧ w.grownBy w' (some r) := by
  by_cases h45 : s = [45]
  · have HN : Hid (getL getT s = some []) := by show _ = _; unfold getL; rw [if_pos h45]
    have e3 : ((strB s).toList == [45]) = true := by rw [h45, strB_tl]; rfl
    have H := Lib.hid h
    clear h45 h hV
    go_enter Tryz.func62, Tryz.ntmps62
    go_wp2_with fail
    go_ret
    exact ⟨_, [], rfl, OwnS.nil _ _, fun y hy => (by cases hy), fun L hL => (by rw [HN.out] at hL; cases hL; rfl), by rw [HN.out]; simpa using H.out, grownBy_refl _ _⟩
  · have e3 : ((strB s).toList == [45]) = false := by rw [strB_tl]; exact beq_eq_false_iff_ne.2 h45
    have HG : Hid (getL getT s = mapO getT (spl 44 s)) := by show _ = _; unfold getL; rw [if_neg h45]
    have HSP := Lib.hid (split_any hV 44 s hs)
    have HLE : Hid (∀ x ∈ spl 44 s, x.length ≤ 1000000) := fun x hx => Nat.le_trans (spl_le 44 s x hx) hs
    have hln := spl_len 44 s
    obtain ⟨R, hR⟩ : ∃ R, R = spl 44 s := ⟨_, rfl⟩
    rw [← hR] at HG HSP HLE hln
    have H := Lib.hid h
    have HV := Lib.hid hV
    clear h45 h hV hR
    go_enter Tryz.func62, Tryz.ntmps62
    go_wp2_with fail
    refine HSP.out.mono ?_
    rintro e w1 ⟨g1, rfl, ho1, hb1⟩
    have HRD := Lib.hid (H.out.stays hb1)
    have HV1 := Lib.hid (HV.out.stays hb1)
    have HB1 := Lib.hid hb1
    have HO1 := Lib.hid ho1
    have HRW : Hid (r ≠ g1 ∧ r < w1.heap.size) := ⟨by have h1 := (World.ownsRow.lt ho1 g1 rfl).1; have h2 := H.out.lt; omega, HRD.out.lt⟩
    clear HSP ho1 hb1 e3
    go_wp2_with fail
    go_loopw [5, 13] (fun v i wr => ∃ (k : Nat) (acc : List TQ), i = .int .i64 k ∧ k ≤ R.length ∧ OwnS 57 2 tqC w1.heap.size wr v acc ∧ Hid (ELT w1.heap.size v wr acc) ∧ Hid (ToldT (R.take k) acc) ∧ Hid (RD wr r ws (bad || (R.take k).any fun x => (getT x).isNone)) ∧ Hid (VarsS aS aR wr) ∧ Hid (w1.grownBy wr (some r))) (fun _ i _ => R.length - (intOf i).toNat)
    case atStart => exact ⟨0, [], rfl, Nat.zero_le _, OwnS.nil _ _, fun y hy => (by cases hy), ⟨rfl, fun i x t hx => (by simp at hx)⟩, by show RD _ _ _ _; simpa using HRD.out, HV1.out, grownBy_refl _ _⟩
    case round =>
      obtain ⟨k, acc, rfl, hk, how, HEL, HTL, HK, HVR, HGR⟩ := hrel
      by_cases hlt : k < R.length
      · obtain ⟨x, hx⟩ : ∃ x, R[k]? = some x := ⟨_, List.getElem?_eq_getElem hlt⟩
        have c1 := (ownCell' (own_grownS HO1.out HGR.out (fun q hq e => by
          have e1 : g1 = q := by simpa [Value.ownBlock] using hq
          exact HRW.out.1 ((Option.some.inj e).trans e1.symm))) hx)
        replace c1 : wr.cell? ⟨g1, k, none⟩ = some (.string (strB x)) := c1
        have HNM := Lib.hid (torn_any HK.out HVR.out x (HLE.out x (List.mem_of_getElem? hx)))
        have HT : Hid (R.take (k + 1) = R.take k ++ [x]) := by show _ = _; rw [List.take_add_one, hx]; rfl
        have tk : decide ((k : Int) < (R.length : Int)) = true := decide_eq_true (by omega)
        have k0 : (0 : Int) ≤ (k : Int) := by omega
        have k1 : (k : Int) < (R.length : Int) := by omega
        have HOW := Lib.hid how
        have hal : acc.length = k := by have := HTL.out.1; rw [List.length_take] at this; omega
        have HAL := Lib.hid hal
        clear hx how hal
        go_wp2_with fail
        refine HNM.out.mono ?_
        rintro e w2 ⟨n, v2, bs, rfl, ho2, ht2, hr2, hg2⟩
        obtain ⟨av, cv, rfl, -, -⟩ := ho2.row.gen.shape
        have hw2 : w1.heap.size ≤ w2.heap.size := Nat.le_trans HGR.out.size hg2.size
        have how2 : OwnS 57 2 tqC w1.heap.size w2 u5 acc := own_grownS HOW.out hg2 (fun q hq e => by
          have h1 := (World.ownsRow.lt HOW.out q hq).1
          have h2 := HRW.out.2
          have h3 := Option.some.inj e
          omega)
        have hgA : w1.grownBy w2 (some r) := grownBy_trans HGR.out hg2
        have HR2 := Lib.hid hr2
        have HGA := Lib.hid hgA
        have HG2 := Lib.hid hg2
        have HO2 := Lib.hid ho2
        have HT2 := Lib.hid ht2
        have HOWN2 := Lib.hid how2
        have hrl := HRW.out.2
        have hwr : w1.heap.size ≤ wr.heap.size := HGR.out.size
        have HWR := Lib.hid hwr
        clear hr2 hgA hg2 HK HVR HNM c1 ho2 ht2 hwr
        go_wp2_with (at_builtin; go_must (refine wpList_pushS tqC_len tqC_one Tryz.underlying24 infoTn rfl (by decide) how2 (((n, bs), (av, cv)) : TQ) (by rw [HAL.out]; omega) hw2 rfl _ _ rfl (by rfl) _ _ _ (by rfl) (by rfl) ?_))
        intro v3 w3 ho3 hg3 hn3
        have hq : ∀ q, u5.ownBlock = some q → w1.heap.size ≤ q ∧ q < wr.heap.size := fun q hq => ⟨(World.ownsRow.lt HOW.out q hq).1, (World.ownsRow.lt HOW.out q hq).2⟩
        have hgB : w1.grownBy w3 (some r) := ((Grew.ofGrown HGA.out).grown hg3 (fun i hi => .inr (hq i hi).1)).toGrown (fun i hi => .inl (List.mem_singleton.1 hi))
        have hr3 := HR2.out.kept hg3 (fun q hqq => by have := hq q hqq; omega)
        have hv3 := HV1.out.grown HRD.out hgB
        have hel : ELT w1.heap.size v3 w3 (acc ++ [((n, bs), (av, cv))]) := fun y hy => by
          have hs2 := HG2.out.size
          have hs3 := hg3.size
          rcases List.mem_append.1 hy with hy | hy
          · obtain ⟨y1, y2⟩ := HEL.out y hy
            refine ⟨rowB_kept (rowB_kept y1 HG2.out (fun q hqy e => by have h1 := (y2 q hqy).1; have h2 := Option.some.inj e; omega)) hg3 (fun q hqy e => (y2 q hqy).2.2 e), fun q hqy => ?_⟩
            obtain ⟨z1, z2, z3⟩ := y2 q hqy
            refine ⟨z1, by omega, fun e => ?_⟩
            rcases hn3 q e with e2 | e2
            · exact z3 e2
            · omega
          · rw [List.mem_singleton] at hy
            subst hy
            have hown := fun q (hqy : (Value.slice av bs.length cv).ownBlock = some q) => World.ownsRow.lt HO2.out q hqy
            refine ⟨rowB_kept HO2.out.row hg3 (fun q hqy e => by have h1 := (hown q hqy).1; have h2 := (hq q e).2; omega), fun q hqy => ?_⟩
            have h1 := hown q hqy
            have h0 := HWR.out
            refine ⟨by omega, by omega, fun e => ?_⟩
            rcases hn3 q e with e2 | e2
            · have := (hq q e2).2; omega
            · omega
        have HELB := Lib.hid hel
        have HGB := Lib.hid hgB
        have HR3 := Lib.hid hr3
        have HV3 := Lib.hid hv3
        clear hg3 hn3 how2 hgB hr3 hv3 hq hrl hw2 hel
        go_wp2_with fail
        go_roundw
        case rel =>
          refine ⟨k + 1, _, by go_num, hlt, ho3, HELB.out, ?_, ?_, HV3.out, HGB.out⟩
          · show ToldT _ _
            rw [HT.out]
            exact HTL.out.snoc x _ (fun t ht => by obtain ⟨q1, q2⟩ := HT2.out t ht; rw [q1, q2])
          · show RD _ _ _ _
            rw [HT.out, List.any_append]
            simpa [Bool.or_assoc] using HR3.out
        case measure => simp only [intOf]; omega
      · obtain rfl : k = R.length := by omega
        have tk : decide ((R.length : Int) < (R.length : Int)) = false := decide_eq_false (by omega)
        rw [List.take_length] at HK HTL
        have HOW := Lib.hid how
        clear how
        go_wp2_with fail
        go_ret
        obtain ⟨m1, m2⟩ := mapO_all getT (0, []) R
        have hsz := HB1.out.size
        refine ⟨_, acc, rfl, own_mono HOW.out hsz, fun y hy => ⟨(HEL.out y hy).1, fun q hq => Nat.le_trans hsz ((HEL.out y hy).2 q hq).1⟩, fun L hL => ?_, ?_, grownBy_trans (grown_none HB1.out) HGR.out⟩
        · rw [HG.out] at hL
          exact HTL.out.all hL
        · have h3 := HK.out
          rw [HG.out]
          cases ha : R.any (fun x => (getT x).isNone) with
          | false => rw [ha] at h3; rw [m1 ha]; simpa using h3
          | true => rw [ha] at h3; rw [m2 ha]; simpa using h3
end Go.Proofs.YtbcpciegdmminaaGreatDoor
