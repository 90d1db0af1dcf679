/- Scripts: the numbers of a word, with commas between. -/
import Derived.Test.YtbcpciegdmminaaGreatDoorScJ
import Derived.Test.YtbcpciegdmminaaGreatDoorScK
namespace Go.Proofs.YtbcpciegdmminaaGreatDoor
open Go Go.RowKit
set_option linter.unusedVariables false
theorem infoI1 : (Tryz.prog.info? 3).map (fun i => (i.zero, i.size, i.bytes)) = some (some (.int .i64 0), 1, 8) := by kernel_rfl
theorem spl_le (c : UInt8) : ∀ (s x : Bs), x ∈ spl c s → x.length ≤ s.length
  | [], x, h => by simp [spl] at h; subst h; simp
  | b :: l, x, h => by
    have ih := spl_le c l
    rw [spl] at h
    split at h
    · rcases List.mem_cons.1 h with e | h
      · rw [e]; simp
      · have := ih x h; simp; omega
    · split at h
      · rename_i hs; exact absurd hs (spl_ne c l)
      · rename_i y r hs
        rcases List.mem_cons.1 h with e | h
        · have := ih y (by rw [hs]; simp); rw [e]; simp; omega
        · have := ih x (by rw [hs]; simp [h]); simp; omega
theorem spl_len (c : UInt8) : ∀ s : Bs, (spl c s).length ≤ s.length + 1
  | [] => by simp [spl]
  | b :: l => by
    have ih := spl_len c l
    rw [spl]
    split
    · simp; omega
    · split
      · simp
      · rename_i y r hs; rw [hs] at ih; simp at ih ⊢; omega
theorem ownCell' {α : Type} {f : α → Value} {E : TypeId} {B : Nat} {w : World} {g n c : Nat} {xs : List α} (h : OwnL E f B w (.slice (some ⟨g, 0, none⟩) n c) xs) {i : Nat} {x : α} (hx : xs[i]? = some x) : w.cell? ⟨g, i, none⟩ = some (f x) := by
  obtain ⟨gq, cq, hv, hgB, hglt, hc1, hfz, hcl⟩ := h.block (by intro h0; rw [h0] at hx; simp at hx)
  cases hv
  exact hcl i _ hx
theorem mapO_all {α : Type} (g : Bs → Option α) (d : α) : ∀ r : List Bs, (r.any (fun x => (g x).isNone) = false → mapO g r = some (r.map fun x => (g x).getD d)) ∧ (r.any (fun x => (g x).isNone) = true → mapO g r = none)
  | [] => ⟨fun _ => rfl, fun h => by simp at h⟩
  | s :: r => by
    obtain ⟨h1, h2⟩ := mapO_all g d r
    rw [List.any_cons, mapO, List.map_cons]
    cases hs : g s with
    | none => exact ⟨fun h => by simp at h, fun _ => by simp⟩
    | some x =>
      constructor
      · intro h
        rw [h1 (by simpa using h)]
        simp
      · intro h
        rw [h2 (by simpa using h)]
set_option maxRecDepth 100000 in
set_option maxHeartbeats 1000000 in
theorem partsI_any {aS aR : Addr} {w : World} {r : Nat} {ws : List Bs} {bad : Bool} (h : RD w r ws bad) (hV : VarsS aS aR w) (s : Bs) (hs : s.length ≤ 1000000) :
    Calls Tryz.prog 61 #[.string (strB s), .func (.func 58) #[.pointer (some ⟨r, 0, none⟩)] #[]] w fun e w' => ∃ (v : Value) (l : List Int), e = .returned v ∧ OwnL 3 IV w.heap.size w' v l ∧ (∀ L, getL numO s = some L → l = L) ∧ RD w' r ws (bad || (getL numO s).isNone) ∧ w.grownBy w' (some r) := by
  by_cases h45 : s = [45]
  · have HN : Hid (getL numO s = some []) := by show _ = _; unfold getL; rw [if_pos h45]
    have e3 : ((strB s).toList == [45]) = true := by rw [h45, strB_tl]; rfl
    have H := Lib.hid h
    clear h45 h hV
    go_enter Tryz.func61, Tryz.ntmps61
    go_wp2_with fail
    go_ret
    exact ⟨_, [], rfl, OwnL.nil _ _, fun L hL => (by rw [HN.out] at hL; cases hL; rfl), by rw [HN.out]; simpa using H.out, grownBy_refl _ _⟩
  · have e3 : ((strB s).toList == [45]) = false := by rw [strB_tl]; exact beq_eq_false_iff_ne.2 h45
    have HG : Hid (getL numO s = mapO numO (spl 44 s)) := by show _ = _; unfold getL; rw [if_neg h45]
    have HSP := Lib.hid (split_any hV 44 s hs)
    have HLE : Hid (∀ x ∈ spl 44 s, x.length ≤ 1000000) := fun x hx => Nat.le_trans (spl_le 44 s x hx) hs
    have hln := spl_len 44 s
    obtain ⟨R, hR⟩ : ∃ R, R = spl 44 s := ⟨_, rfl⟩
    rw [← hR] at HG HSP HLE hln
    have H := Lib.hid h
    have HV := Lib.hid hV
    clear h45 h hV hR
    go_enter Tryz.func61, Tryz.ntmps61
    go_wp2_with fail
    refine HSP.out.mono ?_
    rintro e w1 ⟨g1, rfl, ho1, hb1⟩
    have HRD := Lib.hid (H.out.stays hb1)
    have HV1 := Lib.hid (HV.out.stays hb1)
    have HB1 := Lib.hid hb1
    have HO1 := Lib.hid ho1
    have HRW : Hid (r ≠ g1 ∧ r < w1.heap.size) := ⟨by have h1 := (World.ownsRow.lt ho1 g1 rfl).1; have h2 := H.out.lt; omega, HRD.out.lt⟩
    clear HSP ho1 hb1 e3
    go_wp2_with fail
    go_loopw [5, 13] (fun v i wr => ∃ (k : Nat), i = .int .i64 k ∧ k ≤ R.length ∧ OwnL 3 IV w1.heap.size wr v ((R.take k).map fun x => (numO x).getD 0) ∧ Hid (RD wr r ws (bad || (R.take k).any fun x => (numO x).isNone)) ∧ Hid (VarsS aS aR wr) ∧ Hid (w1.grownBy wr (some r))) (fun _ i _ => R.length - (intOf i).toNat)
    case atStart => exact ⟨0, rfl, Nat.zero_le _, OwnL.nil _ _, by show RD _ _ _ _; simpa using HRD.out, HV1.out, grownBy_refl _ _⟩
    case round =>
      obtain ⟨k, rfl, hk, how, HK, HVR, HGR⟩ := hrel
      by_cases hlt : k < R.length
      · obtain ⟨x, hx⟩ : ∃ x, R[k]? = some x := ⟨_, List.getElem?_eq_getElem hlt⟩
        have c1 := (ownCell' (own_grownS HO1.out HGR.out (fun q hq e => by
          have e1 : g1 = q := by simpa [Value.ownBlock] using hq
          exact HRW.out.1 ((Option.some.inj e).trans e1.symm))) hx)
        replace c1 : wr.cell? ⟨g1, k, none⟩ = some (.string (strB x)) := c1
        have HNM := Lib.hid (numberR HK.out HVR.out x (HLE.out x (List.mem_of_getElem? hx)))
        have HT : Hid (R.take (k + 1) = R.take k ++ [x]) := by show _ = _; rw [List.take_add_one, hx]; rfl
        have tk : decide ((k : Int) < (R.length : Int)) = true := decide_eq_true (by omega)
        have k0 : (0 : Int) ≤ (k : Int) := by omega
        have k1 : (k : Int) < (R.length : Int) := by omega
        have HOW := Lib.hid how
        have hal : ((R.take k).map fun x => (numO x).getD 0).length = k := by rw [List.length_map, List.length_take]; omega
        have HAL := Lib.hid hal
        clear hx how hal
        go_wp2_with fail
        refine HNM.out.mono ?_
        rintro e w2 ⟨rfl, hr2, hg2⟩
        have hv2 := HVR.out.grown HK.out hg2
        have hw2 : w1.heap.size ≤ w2.heap.size := Nat.le_trans HGR.out.size hg2.size
        have how2 := own_grownS HOW.out hg2 (fun q hq e => by
          have h1 := (World.ownsRow.lt HOW.out q hq).1
          have h2 := HRW.out.2
          have h3 := Option.some.inj e
          omega)
        have hgA : w1.grownBy w2 (some r) := grownBy_trans HGR.out hg2
        have HR2 := Lib.hid hr2
        have HGA := Lib.hid hgA
        have HG2 := Lib.hid hg2
        have HOWN2 := Lib.hid how2
        have hrl := HRW.out.2
        clear hr2 hv2 hgA hg2 HK HVR HGR HNM HOW c1
        obtain ⟨NN, hNN⟩ : ∃ NN, NN = (numO x).getD 0 := ⟨_, rfl⟩
        rw [← hNN]
        have HNN := Lib.hid hNN
        clear hNN
        go_wp2_with (at_builtin; go_must (refine wpList_pushL IV_one Tryz.underlying23 infoI1 rfl (by decide) how2 NN (by rw [HAL.out]; omega) hw2 rfl _ _ rfl (by rfl) _ _ _ (by rfl) (by rfl) ?_))
        intro v3 w3 ho3 hg3 hn3
        have hq : ∀ q, u5.ownBlock = some q → w1.heap.size ≤ q := fun q hq => (World.ownsRow.lt HOWN2.out q hq).1
        have hgB : w1.grownBy w3 (some r) := ((Grew.ofGrown HGA.out).grown hg3 (fun i hi => .inr (hq i hi))).toGrown (fun i hi => .inl (List.mem_singleton.1 hi))
        have hr3 := HR2.out.kept hg3 (fun q hqq => by have := hq q hqq; omega)
        have hv3 := HV1.out.grown HRD.out hgB
        have HGB := Lib.hid hgB
        have HR3 := Lib.hid hr3
        have HV3 := Lib.hid hv3
        clear hg3 hn3 how2 hgB hr3 hv3 hq hrl hw2
        go_wp2_with fail
        go_roundw
        case rel =>
          refine ⟨k + 1, by go_num, hlt, ?_, ?_, HV3.out, HGB.out⟩
          · rw [HT.out, List.map_append, List.map_singleton, ← HNN.out, List.map_take]; exact ho3
          · show RD _ _ _ _
            rw [HT.out, List.any_append]
            simpa [Bool.or_assoc] using HR3.out
        case measure => simp only [intOf]; omega
      · obtain rfl : k = R.length := by omega
        have tk : decide ((R.length : Int) < (R.length : Int)) = false := decide_eq_false (by omega)
        rw [List.take_length] at how HK
        have HOW := Lib.hid how
        clear how
        go_wp2_with fail
        go_ret
        obtain ⟨m1, m2⟩ := mapO_all numO 0 R
        have hsz := HB1.out.size
        refine ⟨_, _, rfl, own_mono HOW.out hsz, fun L hL => ?_, ?_, grownBy_trans (grown_none HB1.out) HGR.out⟩
        · rw [HG.out] at hL
          cases ha : R.any (fun x => (numO x).isNone) with
          | false => rw [m1 ha] at hL; exact Option.some.inj hL
          | true => rw [m2 ha] at hL; cases hL
        · have h3 := HK.out
          rw [HG.out]
          cases ha : R.any (fun x => (numO x).isNone) with
          | false => rw [ha] at h3; rw [m1 ha]; simpa using h3
          | true => rw [ha] at h3; rw [m2 ha]; simpa using h3
end Go.Proofs.YtbcpciegdmminaaGreatDoor
