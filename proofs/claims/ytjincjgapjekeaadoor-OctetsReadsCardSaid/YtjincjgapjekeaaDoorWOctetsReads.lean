/- The walk of OctetsReads: what a reader answers, act by act. -/
import Derived.Test.YtjincjgapjekeaaDoorAlive01
import Derived.Test.YtjincjgapjekeaaDoorBytes
import Derived.Test.YtjincjgapjekeaaDoorErrs
import Derived.Test.YtjincjgapjekeaaDoorStr
import Derived.Test.YtjincjgapjekeaaDoorAskR
import Derived.Test.YtjincjgapjekeaaDoorOpenS
namespace Go.Proofs.YtjincjgapjekeaaDoor
open Go Go.RowKit
set_option linter.unusedVariables false
/-- an act's cells -/
def actC (x : Int × Int) : List Value := [IV x.1, IV x.2]
theorem actC_len (x : Int × Int) : (actC x).length = 2 := rfl
def actG (x : Int × Int) : Prop := (-9223372036854775808 ≤ x.1 ∧ x.1 ≤ 9223372036854775807) ∧ (-9223372036854775808 ≤ x.2 ∧ x.2 ≤ 9223372036854775807)
theorem act_dec {H : Type} {enc : TypeId × Value → H} {w : World} {base : Nat} {spare : Nat → Bool} {held : Bool} (n : Nat) (cs' : List Value) (y : DataW H × List MemPlace)
    (h : DataW.trod enc Tryd.prog w base spare held n 55 cs' = some y) : ∃ x, cs' = actC x ∧ actG x := by
  obtain ⟨v0, v1, y0, y1, n', rfl, h0, h1⟩ := dec2 Tryd.underlying55 (by kernel_rfl) (by kernel_rfl) h
  obtain ⟨z0, e0, _, w0⟩ := DataW.trod_int Tryd.underlying3 h0
  obtain ⟨z1, e1, _, w1⟩ := DataW.trod_int Tryd.underlying3 h1
  cases e0
  cases e1
  exact ⟨(z0, z1), rfl, bounds_i64 w0, bounds_i64 w1⟩
theorem Rd.below {B : Nat} {w w' : World} {g : Nat} {v : Value} {bs : List UInt8} {p : Nat} (h : Rd w g v bs p) (hb : Below B w w') (hg : g < B) (hv : ∀ k, v.ownBlock = some k → k < B) : Rd w' g v bs p :=
  ⟨h.cells.below hb hg, Row.below h.row hb hv, h.le, h.apart, h.small⟩
theorem ask_zero {bs : List UInt8} {p : Nat} {n : Int} (h : ask bs p n = 0) : ∃ m : Nat, n = m ∧ p + m ≤ bs.length ∧ rat bs p n = p + m ∧ rgot bs p n = (bs.take (p + m)).drop p := by
  have h' := h
  unfold ask at h'
  split at h'
  · cases h'
  · split at h'
    · cases h'
    · refine ⟨n.toNat, by omega, by omega, by unfold rat; rw [if_pos h], by unfold rgot; rw [if_pos h]⟩
theorem ask_bad {bs : List UInt8} {p : Nat} {n : Int} (h : ¬ ask bs p n = 0) : rat bs p n = p ∧ rgot bs p n = [] := ⟨by unfold rat; rw [if_neg h], by unfold rgot; rw [if_neg h]⟩
set_option maxRecDepth 100000 in
set_option maxHeartbeats 40000000 in
theorem walkOctetsReads (w : World) (v : Value) (bs : List UInt8) (hr : RowB w v bs) (u : Value) (acts : List (Int × Int)) (hu : RowS actC w u acts) (hg : ∀ x ∈ acts, actG x) (ea : Nat → Addr) (he : ErrsAll ea w) :
    Calls Tryd.prog 8 #[v, u] w fun e w' => e = .returned (.bool true) ∧ Below w.heap.size w w' := by
  obtain ⟨a, c, rfl, -, hin⟩ := hr.gen.shape
  obtain ⟨a1, c1, rfl, -, hin1⟩ := hu.shape actC_len
  have HA := Lib.hid (alive01 ea w he.e1 he.e2)
  have HE : Hid (∀ w', Below w.heap.size w w' → ErrsAll ea w') := fun w' hb => he.stays hb
  have HROW : Hid (∀ w', Below w.heap.size w w' → RowB w' (.slice a bs.length c) bs) := fun w' hb => hr.stays hb
  have HI := Lib.hid hin
  have HI1 := Lib.hid hin1
  have HG := Lib.hid hg
  have HCAP := Lib.hid hr.gen.cap
  clear he hr hu hg hin hin1
  go_enter Tryd.func8, Tryd.ntmps8
  go_wp2_with fail
  refine HA.out.mono ?_
  rintro e w1 ⟨rfl, hb1⟩
  clear HA
  by_cases hl : 300 < bs.length
  · go_wp2_with fail
    all_goals go_ret
    all_goals exact ⟨rfl, hb1⟩
  · by_cases hl1 : 60 < acts.length
    · go_wp2_with fail
      go_ret
      exact ⟨rfl, hb1⟩
    · have HB := Lib.hid (bytes_any _ bs w1 (HROW.out _ hb1) (by omega))
      go_wp2_with fail
      refine HB.out.mono ?_
      rintro e w2 ⟨v5, rfl, hm2, hb2⟩
      have hbe2 := hb1.trans (hb2.mono hb1.size)
      have HN := Lib.hid (newReader_any v5 bs w2 hm2.row (by omega))
      have HM := Lib.hid hm2
      obtain ⟨g5, hv5, hg5l⟩ : ∃ g5, v5.ownBlock = some g5 ∧ g5 < w2.heap.size := by
        obtain ⟨g, rfl, _, _, hbk⟩ := hm2
        exact ⟨g, rfl, hbk.lt⟩
      have HV5 : Hid (∀ k, v5.ownBlock = some k → k < w2.heap.size) := fun k hk => by rw [hv5] at hk; cases hk; exact hg5l
      clear HB hb1 hb2 hm2 hv5 hg5l
      go_wp2_with fail
      refine HN.out.mono ?_
      rintro e w3 ⟨rfl, hrd3, hb3⟩
      obtain ⟨g, hge⟩ : ∃ g, g = w2.heap.size := ⟨_, rfl⟩
      have hgl : w2.heap.size ≤ g := by omega
      rw [← hge] at hrd3 ⊢
      clear HN hge
      go_wp2_with fail
      go_loopw [7, 34] (fun at' i wr => ∃ k p : Nat, k ≤ acts.length ∧ i = .int .i64 k ∧ at' = .int .i64 p ∧ Rd wr g v5 bs p ∧ Below w2.heap.size w2 wr) (fun _ i _ => acts.length - (intOf i).toNat)
      case atStart => exact ⟨0, 0, Nat.zero_le _, rfl, rfl, hrd3, hb3⟩
      case round =>
        obtain ⟨k, p, hk, rfl, rfl, hrd0, hbe⟩ := hrel
        by_cases hlt : k < acts.length
        · obtain ⟨⟨K, N⟩, hx⟩ : ∃ x, acts[k]? = some x := ⟨_, List.getElem?_eq_getElem hlt⟩
          obtain ⟨⟨hK1, hK2⟩, ⟨hN1, hN2⟩⟩ := HG.out _ (List.mem_of_getElem? hx)
          obtain ⟨b, o, rfl, hcx⟩ := HI1.out k _ hx
          have hbw := hbe2.trans (hbe.mono hbe2.size)
          have hc0 := hcx 0 (IV K) rfl
          have hc1 := hcx 1 (IV N) rfl
          have hc0 := (hbw.cell (p := ⟨b, o + (k * 2 + 0), none⟩) (World.block_lt_of_cell? w ⟨b, _, none⟩ hc0)).trans hc0
          have hc1 := (hbw.cell (p := ⟨b, o + (k * 2 + 1), none⟩) (World.block_lt_of_cell? w ⟨b, _, none⟩ hc1)).trans hc1
          rw [IV_def] at hc0 hc1
          rw [Nat.add_zero] at hc0
          rw [← Nat.add_assoc] at hc1
          have hp := hrd0.le
          have hsm := hrd0.small
          have hcA : CellsAt (wr.alloc (.cells #[.int .i64 K, .int .i64 N] 55)) wr.heap.size 55 #[.int .i64 K, .int .i64 N] := CellsAt.new wr _ _
          have hbA : Below wr.heap.size wr (wr.alloc (.cells #[.int .i64 K, .int .i64 N] 55)) := (Below.refl _ _).alloc (Nat.le_refl _) _
          have hrd := hrd0.stays hbA
          have hbW := hbe.trans (hbA.mono hbe.size)
          have HASK : Hid (∀ (w' : World), Below w2.heap.size w2 w' → ∀ n : Int, -9223372036854775808 ≤ n → n ≤ 9223372036854775807 → Calls Tryd.prog 32 #[.slice a bs.length c, .int .i64 p, .int .i64 n] w' fun e w'' => e = .returned (.int .i64 (ask bs p n)) ∧ w' = w'') := fun w' hb n h1 h2 => rask_any _ bs p n w' (HROW.out _ (hbe2.trans (hb.mono hbe2.size))) (by omega) hp h1 h2
          have HBW := Lib.hid hbW
          have HRD := Lib.hid hrd
          clear hx hcx hrd0 hrd hbA hbW
          by_cases hK0 : K = 0
          · subst hK0
            have HASK1 := HASK.out _ HBW.out 1 (by decide) (by decide)
            have HQL : Hid (ask bs p 1 ≤ 19) := ask_le bs p 1
            have hE := HE.out _ (hbe2.trans (HBW.out.mono hbe2.size))
            have HF := byte_any ea g v5 bs p _ HRD.out hE.e1 hE.e2
            have hqz := fun h => ask_zero (bs := bs) (p := p) (n := 1) h
            have hqn := fun h => ask_bad (bs := bs) (p := p) (n := 1) h
            obtain ⟨Q, hQ⟩ : ∃ Q, Q = ask bs p 1 := ⟨_, rfl⟩
            obtain ⟨R, hR⟩ : ∃ R, R = rat bs p 1 := ⟨_, rfl⟩
            obtain ⟨X, hX⟩ : ∃ X, X = rgot bs p 1 := ⟨_, rfl⟩
            rw [← hQ] at HASK1 HQL HF hqz hqn
            rw [← hR] at HF hqz hqn
            rw [← hX] at HF hqz hqn
            have HASK1 := Lib.hid HASK1
            have bqq : ((Q : Int) != (Q : Int)) = false := by simp
            have hQ19 : (Q : Int) ≤ 19 := by have := HQL.out; omega
            obtain ⟨ER, hER⟩ : ∃ ER, ER = EV ea Q := ⟨_, rfl⟩
            rw [← hER] at HF
            have HERQ := Lib.hid hER
            clear hER hQ hR hE
            by_cases hq : Q = 0
            · as_aux_lemma =>
                obtain ⟨m, hm, hpm, hRm, hXm⟩ := hqz hq
                have b0 : ((Q : Int) == 0) = true := by simp; omega
                have b1 : ((Q : Int) != 0) = false := by simp; omega
                clear hqz hqn hq
                obtain rfl : m = 1 := by omega
                obtain ⟨y, hy⟩ : ∃ y, bs[p]? = some y := ⟨_, List.getElem?_eq_getElem (by omega)⟩
                have hXy : X = [y] := by
                  obtain ⟨h1, h2⟩ := List.getElem?_eq_some_iff.1 hy
                  rw [hXm, List.drop_take, Nat.add_sub_cancel_left, List.drop_eq_getElem_cons h1, h2]; rfl
                have hFy : fixedV X = y.toNat := by rw [hXy]; simp [fixedV]
                rw [hFy] at HF
                obtain ⟨bb, ob, rfl, hcb⟩ := HI.out p y hy
                have hyy : ((y.toNat : Int) != (y.toNat : Int)) = false := by simp
                have hpl : (p : Int) < bs.length := by omega
                have HF := Lib.hid HF
                clear hXm hXy hFy hX hy hm
                go_wp2_with fail
                refine HASK1.out.mono ?_
                rintro e w' ⟨rfl, rfl⟩
                clear HASK1
                go_wp2_with fail
                refine HF.out.mono ?_
                rintro e W ⟨rfl, hrd, hgW⟩
                have hbW := HBW.out.grown hgW HBW.out.size (fun k hk => by cases hk; exact hgl)
                have hbwW := hbe2.trans (hbW.mono hbe2.size)
                have hcb := (hbwW.cell (p := ⟨bb, ob + p, none⟩) (World.block_lt_of_cell? w ⟨bb, _, none⟩ hcb)).trans hcb
                rw [BV_def] at hcb
                clear HF hgW hbwW
                have HN := Lib.hid (num_any ea Q HQL.out _ (HE.out _ (hbe2.trans (hbW.mono hbe2.size))))
                rw [← HERQ.out] at HN
                go_wp2_with fail
                refine HN.out.mono ?_
                rintro e W2 ⟨rfl, hbN⟩
                have hrd2 := hrd.stays hbN
                have hbW2 := hbW.trans (hbN.mono hbW.size)
                have HAt := Lib.hid (at_any g v5 bs R W2 hrd2)
                have HLf := Lib.hid (left_any g v5 bs R W2 hrd2)
                have hRi : (R : Int) = p + 1 := by omega
                clear HN hrd hbN hbW
                go_wp2_with fail
                refine HAt.out.mono ?_
                rintro e W3 ⟨rfl, rfl⟩
                clear HAt
                go_wp2_with fail
                refine HLf.out.mono ?_
                rintro e W4 ⟨rfl, hbL⟩
                have hrd4 := hrd2.stays hbL
                have hbW4 := hbW2.trans (hbL.mono hbW2.size)
                clear HLf hrd2 hbL hbW2
                go_wp2_with fail
                go_roundw
                case rel => exact ⟨k + 1, R, by omega, by go_num, vint (by omega), hrd4, hbW4⟩
                case measure => simp [intOf]; omega
            · as_aux_lemma =>
                obtain ⟨hRm, hXm⟩ := hqn hq
                have b0 : ((Q : Int) == 0) = false := by simp; omega
                have b1 : ((Q : Int) != 0) = true := by simp; omega
                clear hqz hqn hq
                have hF0 : fixedV X = 0 := by rw [hXm]; rfl
                rw [hF0] at HF
                clear hF0 hX
                have HF := Lib.hid HF
                have HXm := Lib.hid hXm
                clear hXm
                go_wp2_with fail
                refine HASK1.out.mono ?_
                rintro e w' ⟨rfl, rfl⟩
                clear HASK1
                go_wp2_with fail
                refine HF.out.mono ?_
                rintro e W ⟨rfl, hrd, hgW⟩
                have hbW := HBW.out.grown hgW HBW.out.size (fun k hk => by cases hk; exact hgl)
                clear HF hgW
                have HN := Lib.hid (num_any ea Q HQL.out _ (HE.out _ (hbe2.trans (hbW.mono hbe2.size))))
                rw [← HERQ.out] at HN
                go_wp2_with fail
                refine HN.out.mono ?_
                rintro e W2 ⟨rfl, hbN⟩
                have hrd2 := hrd.stays hbN
                have hbW2 := hbW.trans (hbN.mono hbW.size)
                have HAt := Lib.hid (at_any g v5 bs R W2 hrd2)
                have HLf := Lib.hid (left_any g v5 bs R W2 hrd2)
                have hRi : (R : Int) = p := by omega
                clear HN hrd hbN hbW
                go_wp2_with fail
                refine HAt.out.mono ?_
                rintro e W3 ⟨rfl, rfl⟩
                clear HAt
                go_wp2_with fail
                refine HLf.out.mono ?_
                rintro e W4 ⟨rfl, hbL⟩
                have hrd4 := hrd2.stays hbL
                have hbW4 := hbW2.trans (hbL.mono hbW2.size)
                clear HLf hrd2 hbL hbW2
                go_wp2_with fail
                go_roundw
                case rel => exact ⟨k + 1, R, by omega, by go_num, vint (by omega), hrd4, hbW4⟩
                case measure => simp [intOf]; omega
          · by_cases hK1 : K = 1
            · subst hK1
              have HASK1 := HASK.out _ HBW.out N hN1 hN2
              have HQL : Hid (ask bs p N ≤ 19) := ask_le bs p N
              have hE := HE.out _ (hbe2.trans (HBW.out.mono hbe2.size))
              have HF := take_any ea g v5 bs p _ HRD.out hE.e1 hE.e2 N hN1 hN2
              have hqz := fun h => ask_zero (bs := bs) (p := p) (n := N) h
              have hqn := fun h => ask_bad (bs := bs) (p := p) (n := N) h
              obtain ⟨Q, hQ⟩ : ∃ Q, Q = ask bs p N := ⟨_, rfl⟩
              obtain ⟨R, hR⟩ : ∃ R, R = rat bs p N := ⟨_, rfl⟩
              obtain ⟨X, hX⟩ : ∃ X, X = rgot bs p N := ⟨_, rfl⟩
              rw [← hQ] at HASK1 HQL HF hqz hqn
              rw [← hR] at HF hqz hqn
              rw [← hX] at HF hqz hqn
              have HASK1 := Lib.hid HASK1
              have bqq : ((Q : Int) != (Q : Int)) = false := by simp
              have hQ19 : (Q : Int) ≤ 19 := by have := HQL.out; omega
              obtain ⟨ER, hER⟩ : ∃ ER, ER = EV ea Q := ⟨_, rfl⟩
              rw [← hER] at HF
              have HERQ := Lib.hid hER
              clear hER hQ hR hE
              by_cases hq : Q = 0
              · as_aux_lemma =>
                  obtain ⟨m, hm, hpm, hRm, hXm⟩ := hqz hq
                  have b0 : ((Q : Int) == 0) = true := by simp; omega
                  have b1 : ((Q : Int) != 0) = false := by simp; omega
                  clear hqz hqn hq
                  subst hm
                  have HF := Lib.hid HF
                  have hcap := HCAP.out
                  have hcapi : (bs.length : Int) ≤ c := by omega
                  have hpmi : (p : Int) + m ≤ bs.length := by omega
                  clear hX
                  go_wp2_with fail
                  refine HASK1.out.mono ?_
                  rintro e w' ⟨rfl, rfl⟩
                  clear HASK1
                  go_wp2_with fail
                  refine HF.out.mono ?_
                  rintro e W ⟨v14, rfl, ho, hrd, hgW⟩
                  have hbW := HBW.out.grown hgW HBW.out.size (fun k hk => by cases hk; exact hgl)
                  obtain ⟨a14, c14, rfl, -, -⟩ := ho.row.gen.shape
                  have hpart := (HROW.out W (hbe2.trans (hbW.mono hbe2.size))).gen.part (l := p) (h := p + m) (by omega) hpm
                  rw [Nat.add_sub_cancel_left, ← hXm] at hpart
                  have hXl : X.length = m := by rw [hXm]; simp; omega
                  have hbq : ∀ n, Below W.heap.size W (W.drewN n) := fun n => ⟨rfl, rfl, rfl, Nat.le_refl _, fun _ _ => rfl⟩
                  have s1 : ∀ n, (convert 22 9 (.slice a14 m c14)).run Tryd.prog (W.drewN n) = .ok (.string (strB X)) (W.drewN n) := fun n => by
                    have := convert_str (RowB.stays ho.row (hbq n))
                    rwa [hXl] at this
                  have s2 : ∀ n, (convert 22 9 (.slice (if c = p then a else a.map fun x => x.add p) m (c - p))).run Tryd.prog (W.drewN n) = .ok (.string (strB X)) (W.drewN n) := fun n => convert_str (RowB.stays hpart (hbq n))
                  have sXX : ((strB X).toList != (strB X).toList) = false := by simp
                  have HO := Lib.hid ho
                  have HRD2 := Lib.hid hrd
                  have HBW2 := Lib.hid hbW
                  have hsz1 := HBW.out.size
                  have HXl := Lib.hid hXl
                  obtain ⟨B1, hB1⟩ : ∃ B1, B1 = (wr.alloc (.cells #[.int .i64 1, .int .i64 m] 55)).heap.size := ⟨_, rfl⟩
                  have hwB1 : w2.heap.size ≤ B1 := by rw [hB1]; exact HBW.out.size
                  have hgB1 : g < B1 := by rw [hB1]; exact HRD.out.cells.lt
                  have hgs : B1 ≤ W.heap.size := by rw [hB1]; exact hgW.size
                  rw [← hB1] at HO
                  rw [hXl]
                  clear HF hgW ho hrd hbW hpart hXm hXl hbq hB1 hsz1
                  by_cases hcp : c = p
                  · as_aux_lemma =>
                      subst hcp
                      simp only [if_true, Nat.sub_self] at s2
                      go_wp2_with fail
                      go_quiet (fail)
                      obtain ⟨V, hV⟩ : ∃ V, V = W.drewN nq := ⟨_, rfl⟩
                      have hbV : Below W.heap.size W V := by rw [hV]; exact ⟨rfl, rfl, rfl, Nat.le_refl _, fun _ _ => rfl⟩
                      have hoV : OwnL 5 BV B1 V (.slice a14 m c14) X := by
                        have h0 := HO.out.stays hbV
                        unfold OwnB at h0
                        unfold OwnL
                        rw [HXl.out] at h0 ⊢
                        exact h0
                      rw [← hV]
                      clear s1 s2 hV
                      go_wp2_with fail
                      obtain ⟨wo, rfl⟩ : ∃ wo : World, wo = wr := ⟨_, rfl⟩
                      go_loopw [108] (fun i wr => ∃ (j : Nat) (X' : List UInt8), j ≤ m ∧ i = .int .i64 j ∧ X'.length = m ∧ OwnL 5 BV B1 wr (.slice a14 m c14) X' ∧ Below B1 V wr) (fun i _ => m - (intOf i).toNat)
                      case atStart => exact ⟨0, X, Nat.zero_le _, rfl, HXl.out, hoV, Below.refl _ _⟩
                      case round =>
                        obtain ⟨j, X', hj, rfl, hXl', how, hbe'⟩ := hrel
                        by_cases hjm : j < m
                        · exact absurd hjm (by omega)
                        · have hrd := HRD2.out.below ((hbV.mono hgs).trans hbe') hgB1 (fun k hk => Nat.lt_of_lt_of_le (HV5.out k hk) hwB1)
                          have hbW := (HBW2.out.trans (hbV.mono HBW2.out.size)).trans (hbe'.mono hwB1)
                          clear how hXl' hbV
                          have HN := Lib.hid (num_any ea Q HQL.out _ (HE.out _ (hbe2.trans (hbW.mono hbe2.size))))
                          rw [← HERQ.out] at HN
                          go_wp2_with fail
                          refine HN.out.mono ?_
                          rintro e W2 ⟨rfl, hbN⟩
                          have hrd2 := hrd.stays hbN
                          have hbW2 := hbW.trans (hbN.mono hbW.size)
                          have HAt := Lib.hid (at_any g v5 bs R W2 hrd2)
                          have HLf := Lib.hid (left_any g v5 bs R W2 hrd2)
                          have hRi : (R : Int) = c + m := by omega
                          clear HN hrd hbN hbW
                          go_wp2_with fail
                          refine HAt.out.mono ?_
                          rintro e W3 ⟨rfl, rfl⟩
                          clear HAt
                          go_wp2_with fail
                          refine HLf.out.mono ?_
                          rintro e W4 ⟨rfl, hbL⟩
                          have hrd4 := hrd2.stays hbL
                          have hbW4 := hbW2.trans (hbL.mono hbW2.size)
                          clear HLf hrd2 hbL hbW2
                          go_wp2_with fail
                          go_roundw
                          case rel => exact ⟨k + 1, R, by omega, by go_num, vint (by omega), hrd4, hbW4⟩
                          case measure => simp [intOf]; omega
                  · as_aux_lemma =>
                      simp only [if_neg hcp] at s2
                      go_wp2_with fail
                      go_quiet (fail)
                      obtain ⟨V, hV⟩ : ∃ V, V = W.drewN nq := ⟨_, rfl⟩
                      have hbV : Below W.heap.size W V := by rw [hV]; exact ⟨rfl, rfl, rfl, Nat.le_refl _, fun _ _ => rfl⟩
                      have hoV : OwnL 5 BV B1 V (.slice a14 m c14) X := by
                        have h0 := HO.out.stays hbV
                        unfold OwnB at h0
                        unfold OwnL
                        rw [HXl.out] at h0 ⊢
                        exact h0
                      rw [← hV]
                      clear s1 s2 hV
                      go_wp2_with fail
                      obtain ⟨wo, rfl⟩ : ∃ wo : World, wo = wr := ⟨_, rfl⟩
                      go_loopw [108] (fun i wr => ∃ (j : Nat) (X' : List UInt8), j ≤ m ∧ i = .int .i64 j ∧ X'.length = m ∧ OwnL 5 BV B1 wr (.slice a14 m c14) X' ∧ Below B1 V wr) (fun i _ => m - (intOf i).toNat)
                      case atStart => exact ⟨0, X, Nat.zero_le _, rfl, HXl.out, hoV, Below.refl _ _⟩
                      case round =>
                        obtain ⟨j, X', hj, rfl, hXl', how, hbe'⟩ := hrel
                        by_cases hjm : j < m
                        · obtain ⟨y, hy⟩ : ∃ y, X'[j]? = some y := ⟨_, List.getElem?_eq_getElem (by omega)⟩
                          obtain ⟨g', c', hv, hBg', _, _, hfz, hcell⟩ := how.block (fun e => by rw [e] at hXl'; simp at hXl'; omega)
                          rw [hXl'] at hv
                          cases hv
                          have hcg := hcell j y hy
                          have hfg := hfz j
                          rw [BV_def] at hcg
                          have hxo : bits .xor .u8 (y.toNat : Int) 255 = ((y.toNat ^^^ 255 : Nat) : Int) := u8_xor_nat y.toNat 255 y.toNat_lt (by decide)
                          have hy2 : (b8 (y.toNat ^^^ 255)).toNat = y.toNat ^^^ 255 := by rw [b8_toNat]; exact Nat.mod_eq_of_lt (Nat.xor_lt_two_pow (n := 8) y.toNat_lt (by decide))
                          have hset := how.set j (b8 (y.toNat ^^^ 255))
                          rw [BV_def, hy2] at hset
                          obtain ⟨z, hz⟩ : ∃ z, z = y.toNat ^^^ 255 := ⟨_, rfl⟩
                          rw [← hz] at hxo hset
                          have HSET := Lib.hid hset
                          have HXl' := Lib.hid hXl'
                          clear hset hcell hfz hy hy2 how hXl' hz
                          go_wp2_with fail
                          go_roundw
                          case rel => exact ⟨j + 1, X'.set j (b8 z), by omega, by go_num, by rw [List.length_set]; exact HXl'.out, HSET.out, hbe'.setCell hBg' _⟩
                          case measure => simp [intOf]; omega
                        · have hrd := HRD2.out.below ((hbV.mono hgs).trans hbe') hgB1 (fun k hk => Nat.lt_of_lt_of_le (HV5.out k hk) hwB1)
                          have hbW := (HBW2.out.trans (hbV.mono HBW2.out.size)).trans (hbe'.mono hwB1)
                          clear how hXl' hbV
                          have HN := Lib.hid (num_any ea Q HQL.out _ (HE.out _ (hbe2.trans (hbW.mono hbe2.size))))
                          rw [← HERQ.out] at HN
                          go_wp2_with fail
                          refine HN.out.mono ?_
                          rintro e W2 ⟨rfl, hbN⟩
                          have hrd2 := hrd.stays hbN
                          have hbW2 := hbW.trans (hbN.mono hbW.size)
                          have HAt := Lib.hid (at_any g v5 bs R W2 hrd2)
                          have HLf := Lib.hid (left_any g v5 bs R W2 hrd2)
                          have hRi : (R : Int) = p + m := by omega
                          clear HN hrd hbN hbW
                          go_wp2_with fail
                          refine HAt.out.mono ?_
                          rintro e W3 ⟨rfl, rfl⟩
                          clear HAt
                          go_wp2_with fail
                          refine HLf.out.mono ?_
                          rintro e W4 ⟨rfl, hbL⟩
                          have hrd4 := hrd2.stays hbL
                          have hbW4 := hbW2.trans (hbL.mono hbW2.size)
                          clear HLf hrd2 hbL hbW2
                          go_wp2_with fail
                          go_roundw
                          case rel => exact ⟨k + 1, R, by omega, by go_num, vint (by omega), hrd4, hbW4⟩
                          case measure => simp [intOf]; omega
              · as_aux_lemma =>
                  obtain ⟨hRm, hXm⟩ := hqn hq
                  have b0 : ((Q : Int) == 0) = false := by simp; omega
                  have b1 : ((Q : Int) != 0) = true := by simp; omega
                  clear hqz hqn hq
                  have HF := Lib.hid HF
                  have HXm := Lib.hid hXm
                  clear hXm
                  go_wp2_with fail
                  refine HASK1.out.mono ?_
                  rintro e w' ⟨rfl, rfl⟩
                  clear HASK1
                  go_wp2_with fail
                  refine HF.out.mono ?_
                  rintro e W ⟨v14, rfl, ho, hrd, hgW⟩
                  have hbW := HBW.out.grown hgW HBW.out.size (fun k hk => by cases hk; exact hgl)
                  have hX0 : X.length = 0 := by rw [HXm.out]; rfl
                  obtain ⟨a14, c14, rfl, -, -⟩ := ho.row.gen.shape
                  rw [hX0]
                  clear HF hgW ho hX0
                  have hHRD := Lib.hid hrd
                  have hHBW := Lib.hid hbW
                  clear hrd hbW
                  go_wp2_with fail
                  go_quiet (fail)
                  obtain ⟨V, hV⟩ : ∃ V, V = W.drewN nq := ⟨_, rfl⟩
                  have hbV : Below W.heap.size W V := by rw [hV]; exact ⟨rfl, rfl, rfl, Nat.le_refl _, fun _ _ => rfl⟩
                  rw [← hV]
                  clear hV
                  go_wp2_with fail
                  obtain ⟨wo, rfl⟩ : ∃ wo : World, wo = wr := ⟨_, rfl⟩
                  go_loopw [108] (fun i wr => i = .int .i64 0 ∧ V = wr) (fun i _ => 0)
                  case atStart => exact ⟨rfl, rfl⟩
                  case round =>
                    obtain ⟨rfl, rfl⟩ := hrel
                    have hrd := hHRD.out.stays hbV
                    have hbW := hHBW.out.trans (hbV.mono hHBW.out.size)
                    clear hbV
                    have HN := Lib.hid (num_any ea Q HQL.out _ (HE.out _ (hbe2.trans (hbW.mono hbe2.size))))
                    rw [← HERQ.out] at HN
                    go_wp2_with fail
                    refine HN.out.mono ?_
                    rintro e W2 ⟨rfl, hbN⟩
                    have hrd2 := hrd.stays hbN
                    have hbW2 := hbW.trans (hbN.mono hbW.size)
                    have HAt := Lib.hid (at_any g v5 bs R W2 hrd2)
                    have HLf := Lib.hid (left_any g v5 bs R W2 hrd2)
                    have hRi : (R : Int) = p := by omega
                    clear HN hrd hbN hbW
                    go_wp2_with fail
                    refine HAt.out.mono ?_
                    rintro e W3 ⟨rfl, rfl⟩
                    clear HAt
                    go_wp2_with fail
                    refine HLf.out.mono ?_
                    rintro e W4 ⟨rfl, hbL⟩
                    have hrd4 := hrd2.stays hbL
                    have hbW4 := hbW2.trans (hbL.mono hbW2.size)
                    clear HLf hrd2 hbL hbW2
                    go_wp2_with fail
                    go_roundw
                    case rel => exact ⟨k + 1, R, by omega, by go_num, vint (by omega), hrd4, hbW4⟩
                    case measure => simp [intOf]; omega
            · by_cases hK2 : K = 2
              · subst hK2
                have HASK1 := HASK.out _ HBW.out 4 (by decide) (by decide)
                have HQL : Hid (ask bs p 4 ≤ 19) := ask_le bs p 4
                have hE := HE.out _ (hbe2.trans (HBW.out.mono hbe2.size))
                have HF := fixed32_any ea g v5 bs p _ HRD.out hE.e1 hE.e2
                have hqz := fun h => ask_zero (bs := bs) (p := p) (n := 4) h
                have hqn := fun h => ask_bad (bs := bs) (p := p) (n := 4) h
                obtain ⟨Q, hQ⟩ : ∃ Q, Q = ask bs p 4 := ⟨_, rfl⟩
                obtain ⟨R, hR⟩ : ∃ R, R = rat bs p 4 := ⟨_, rfl⟩
                obtain ⟨X, hX⟩ : ∃ X, X = rgot bs p 4 := ⟨_, rfl⟩
                rw [← hQ] at HASK1 HQL HF hqz hqn
                rw [← hR] at HF hqz hqn
                rw [← hX] at HF hqz hqn
                have HASK1 := Lib.hid HASK1
                have bqq : ((Q : Int) != (Q : Int)) = false := by simp
                have hQ19 : (Q : Int) ≤ 19 := by have := HQL.out; omega
                obtain ⟨ER, hER⟩ : ∃ ER, ER = EV ea Q := ⟨_, rfl⟩
                rw [← hER] at HF
                have HERQ := Lib.hid hER
                clear hER hQ hR hE
                by_cases hq : Q = 0
                · as_aux_lemma =>
                    obtain ⟨m, hm, hpm, hRm, hXm⟩ := hqz hq
                    have b0 : ((Q : Int) == 0) = true := by simp; omega
                    have b1 : ((Q : Int) != 0) = false := by simp; omega
                    clear hqz hqn hq
                    obtain rfl : m = 4 := by omega
                    have hXe : X = (bs.drop p).take 4 := by rw [hXm, List.drop_take, Nat.add_sub_cancel_left]
                    obtain ⟨F, hF⟩ : ∃ F, F = fixedV X := ⟨_, rfl⟩
                    rw [← hF] at HF
                    have hFl : F ≤ 4294967295 := by
                      have h1 := fixedV_lt X
                      have h2 : X.length = 4 := by rw [hXe]; simp; omega
                      rw [h2, show 256 ^ 4 = 4294967296 from by decide +kernel] at h1
                      omega
                    have HX2 : Hid (fixedV ((bs.drop p).take 4) = F) := by show _ = _; rw [← hXe, ← hF]
                    have hFi : (F : Int) ≤ 4294967295 := by omega
                    have hFF : ((F : Int) != (F : Int)) = false := by simp
                    have HFI := Lib.hid hFi
                    have HF := Lib.hid HF
                    clear hXm hXe hX hF hFl hm 
                    go_wp2_with fail
                    refine HASK1.out.mono ?_
                    rintro e w' ⟨rfl, rfl⟩
                    clear HASK1
                    go_wp2_with fail
                    refine HF.out.mono ?_
                    rintro e W ⟨rfl, hrd, hgW⟩
                    have hbW := HBW.out.grown hgW HBW.out.size (fun k hk => by cases hk; exact hgl)
                    have HFx := rfixed_any _ bs p 4 W (HROW.out _ (hbe2.trans (hbW.mono hbe2.size))) (by omega) (by decide) hpm
                    rw [HX2.out] at HFx
                    have HFx := Lib.hid HFx
                    clear HF hgW
                    go_wp2_with fail
                    refine HFx.out.mono ?_
                    rintro e W' ⟨rfl, rfl⟩
                    clear HFx
                    have HN := Lib.hid (num_any ea Q HQL.out _ (HE.out _ (hbe2.trans (hbW.mono hbe2.size))))
                    rw [← HERQ.out] at HN
                    go_wp2_with fail
                    refine HN.out.mono ?_
                    rintro e W2 ⟨rfl, hbN⟩
                    have hrd2 := hrd.stays hbN
                    have hbW2 := hbW.trans (hbN.mono hbW.size)
                    have HAt := Lib.hid (at_any g v5 bs R W2 hrd2)
                    have HLf := Lib.hid (left_any g v5 bs R W2 hrd2)
                    have hRi : (R : Int) = p + 4 := by omega
                    clear HN hrd hbN hbW
                    go_wp2_with fail
                    refine HAt.out.mono ?_
                    rintro e W3 ⟨rfl, rfl⟩
                    clear HAt
                    go_wp2_with fail
                    refine HLf.out.mono ?_
                    rintro e W4 ⟨rfl, hbL⟩
                    have hrd4 := hrd2.stays hbL
                    have hbW4 := hbW2.trans (hbL.mono hbW2.size)
                    clear HLf hrd2 hbL hbW2
                    go_wp2_with fail
                    go_roundw
                    case rel => exact ⟨k + 1, R, by omega, by go_num, vint (by omega), hrd4, hbW4⟩
                    case measure => simp [intOf]; omega
                · as_aux_lemma =>
                    obtain ⟨hRm, hXm⟩ := hqn hq
                    have b0 : ((Q : Int) == 0) = false := by simp; omega
                    have b1 : ((Q : Int) != 0) = true := by simp; omega
                    clear hqz hqn hq
                    have hF0 : fixedV X = 0 := by rw [hXm]; rfl
                    rw [hF0] at HF
                    clear hF0 hX
                    have HF := Lib.hid HF
                    have HXm := Lib.hid hXm
                    clear hXm
                    go_wp2_with fail
                    refine HASK1.out.mono ?_
                    rintro e w' ⟨rfl, rfl⟩
                    clear HASK1
                    go_wp2_with fail
                    refine HF.out.mono ?_
                    rintro e W ⟨rfl, hrd, hgW⟩
                    have hbW := HBW.out.grown hgW HBW.out.size (fun k hk => by cases hk; exact hgl)
                    clear HF hgW
                    have HN := Lib.hid (num_any ea Q HQL.out _ (HE.out _ (hbe2.trans (hbW.mono hbe2.size))))
                    rw [← HERQ.out] at HN
                    go_wp2_with fail
                    refine HN.out.mono ?_
                    rintro e W2 ⟨rfl, hbN⟩
                    have hrd2 := hrd.stays hbN
                    have hbW2 := hbW.trans (hbN.mono hbW.size)
                    have HAt := Lib.hid (at_any g v5 bs R W2 hrd2)
                    have HLf := Lib.hid (left_any g v5 bs R W2 hrd2)
                    have hRi : (R : Int) = p := by omega
                    clear HN hrd hbN hbW
                    go_wp2_with fail
                    refine HAt.out.mono ?_
                    rintro e W3 ⟨rfl, rfl⟩
                    clear HAt
                    go_wp2_with fail
                    refine HLf.out.mono ?_
                    rintro e W4 ⟨rfl, hbL⟩
                    have hrd4 := hrd2.stays hbL
                    have hbW4 := hbW2.trans (hbL.mono hbW2.size)
                    clear HLf hrd2 hbL hbW2
                    go_wp2_with fail
                    go_roundw
                    case rel => exact ⟨k + 1, R, by omega, by go_num, vint (by omega), hrd4, hbW4⟩
                    case measure => simp [intOf]; omega
              · by_cases hK3 : K = 3
                · subst hK3
                  have HASK1 := HASK.out _ HBW.out 8 (by decide) (by decide)
                  have HQL : Hid (ask bs p 8 ≤ 19) := ask_le bs p 8
                  have hE := HE.out _ (hbe2.trans (HBW.out.mono hbe2.size))
                  have HF := fixed64_any ea g v5 bs p _ HRD.out hE.e1 hE.e2
                  have hqz := fun h => ask_zero (bs := bs) (p := p) (n := 8) h
                  have hqn := fun h => ask_bad (bs := bs) (p := p) (n := 8) h
                  obtain ⟨Q, hQ⟩ : ∃ Q, Q = ask bs p 8 := ⟨_, rfl⟩
                  obtain ⟨R, hR⟩ : ∃ R, R = rat bs p 8 := ⟨_, rfl⟩
                  obtain ⟨X, hX⟩ : ∃ X, X = rgot bs p 8 := ⟨_, rfl⟩
                  rw [← hQ] at HASK1 HQL HF hqz hqn
                  rw [← hR] at HF hqz hqn
                  rw [← hX] at HF hqz hqn
                  have HASK1 := Lib.hid HASK1
                  have bqq : ((Q : Int) != (Q : Int)) = false := by simp
                  have hQ19 : (Q : Int) ≤ 19 := by have := HQL.out; omega
                  obtain ⟨ER, hER⟩ : ∃ ER, ER = EV ea Q := ⟨_, rfl⟩
                  rw [← hER] at HF
                  have HERQ := Lib.hid hER
                  clear hER hQ hR hE
                  by_cases hq : Q = 0
                  · as_aux_lemma =>
                      obtain ⟨m, hm, hpm, hRm, hXm⟩ := hqz hq
                      have b0 : ((Q : Int) == 0) = true := by simp; omega
                      have b1 : ((Q : Int) != 0) = false := by simp; omega
                      clear hqz hqn hq
                      obtain rfl : m = 8 := by omega
                      have hXe : X = (bs.drop p).take 8 := by rw [hXm, List.drop_take, Nat.add_sub_cancel_left]
                      obtain ⟨F, hF⟩ : ∃ F, F = fixedV X := ⟨_, rfl⟩
                      rw [← hF] at HF
                      have hFl : F ≤ 18446744073709551615 := by
                        have h1 := fixedV_lt X
                        have h2 : X.length = 8 := by rw [hXe]; simp; omega
                        rw [h2, show 256 ^ 8 = 18446744073709551616 from by decide +kernel] at h1
                        omega
                      have HX2 : Hid (fixedV ((bs.drop p).take 8) = F) := by show _ = _; rw [← hXe, ← hF]
                      have hFi : (F : Int) ≤ 18446744073709551615 := by omega
                      have hFF : ((F : Int) != (F : Int)) = false := by simp
                      have HFI := Lib.hid hFi
                      have HF := Lib.hid HF
                      clear hXm hXe hX hF hFl hm hFi
                      go_wp2_with fail
                      refine HASK1.out.mono ?_
                      rintro e w' ⟨rfl, rfl⟩
                      clear HASK1
                      go_wp2_with fail
                      refine HF.out.mono ?_
                      rintro e W ⟨rfl, hrd, hgW⟩
                      have hbW := HBW.out.grown hgW HBW.out.size (fun k hk => by cases hk; exact hgl)
                      have HFx := rfixed_any _ bs p 8 W (HROW.out _ (hbe2.trans (hbW.mono hbe2.size))) (by omega) (by decide) hpm
                      rw [HX2.out] at HFx
                      have HFx := Lib.hid HFx
                      clear HF hgW
                      go_wp2_with fail
                      refine HFx.out.mono ?_
                      rintro e W' ⟨rfl, rfl⟩
                      clear HFx
                      have HN := Lib.hid (num_any ea Q HQL.out _ (HE.out _ (hbe2.trans (hbW.mono hbe2.size))))
                      rw [← HERQ.out] at HN
                      go_wp2_with fail
                      refine HN.out.mono ?_
                      rintro e W2 ⟨rfl, hbN⟩
                      have hrd2 := hrd.stays hbN
                      have hbW2 := hbW.trans (hbN.mono hbW.size)
                      have HAt := Lib.hid (at_any g v5 bs R W2 hrd2)
                      have HLf := Lib.hid (left_any g v5 bs R W2 hrd2)
                      have hRi : (R : Int) = p + 8 := by omega
                      clear HN hrd hbN hbW
                      go_wp2_with fail
                      refine HAt.out.mono ?_
                      rintro e W3 ⟨rfl, rfl⟩
                      clear HAt
                      go_wp2_with fail
                      refine HLf.out.mono ?_
                      rintro e W4 ⟨rfl, hbL⟩
                      have hrd4 := hrd2.stays hbL
                      have hbW4 := hbW2.trans (hbL.mono hbW2.size)
                      clear HLf hrd2 hbL hbW2
                      go_wp2_with fail
                      go_roundw
                      case rel => exact ⟨k + 1, R, by omega, by go_num, vint (by omega), hrd4, hbW4⟩
                      case measure => simp [intOf]; omega
                  · as_aux_lemma =>
                      obtain ⟨hRm, hXm⟩ := hqn hq
                      have b0 : ((Q : Int) == 0) = false := by simp; omega
                      have b1 : ((Q : Int) != 0) = true := by simp; omega
                      clear hqz hqn hq
                      have hF0 : fixedV X = 0 := by rw [hXm]; rfl
                      rw [hF0] at HF
                      clear hF0 hX
                      have HF := Lib.hid HF
                      have HXm := Lib.hid hXm
                      clear hXm
                      go_wp2_with fail
                      refine HASK1.out.mono ?_
                      rintro e w' ⟨rfl, rfl⟩
                      clear HASK1
                      go_wp2_with fail
                      refine HF.out.mono ?_
                      rintro e W ⟨rfl, hrd, hgW⟩
                      have hbW := HBW.out.grown hgW HBW.out.size (fun k hk => by cases hk; exact hgl)
                      clear HF hgW
                      have HN := Lib.hid (num_any ea Q HQL.out _ (HE.out _ (hbe2.trans (hbW.mono hbe2.size))))
                      rw [← HERQ.out] at HN
                      go_wp2_with fail
                      refine HN.out.mono ?_
                      rintro e W2 ⟨rfl, hbN⟩
                      have hrd2 := hrd.stays hbN
                      have hbW2 := hbW.trans (hbN.mono hbW.size)
                      have HAt := Lib.hid (at_any g v5 bs R W2 hrd2)
                      have HLf := Lib.hid (left_any g v5 bs R W2 hrd2)
                      have hRi : (R : Int) = p := by omega
                      clear HN hrd hbN hbW
                      go_wp2_with fail
                      refine HAt.out.mono ?_
                      rintro e W3 ⟨rfl, rfl⟩
                      clear HAt
                      go_wp2_with fail
                      refine HLf.out.mono ?_
                      rintro e W4 ⟨rfl, hbL⟩
                      have hrd4 := hrd2.stays hbL
                      have hbW4 := hbW2.trans (hbL.mono hbW2.size)
                      clear HLf hrd2 hbL hbW2
                      go_wp2_with fail
                      go_roundw
                      case rel => exact ⟨k + 1, R, by omega, by go_num, vint (by omega), hrd4, hbW4⟩
                      case measure => simp [intOf]; omega
                · by_cases hK4 : K = 4
                  · subst hK4
                    have HASK1 := HASK.out _ HBW.out N hN1 hN2
                    have HQL : Hid (ask bs p N ≤ 19) := ask_le bs p N
                    have hE := HE.out _ (hbe2.trans (HBW.out.mono hbe2.size))
                    have HF := skip_any ea g v5 bs p _ HRD.out hE.e1 hE.e2 N hN1 hN2
                    have hqz := fun h => ask_zero (bs := bs) (p := p) (n := N) h
                    have hqn := fun h => ask_bad (bs := bs) (p := p) (n := N) h
                    obtain ⟨Q, hQ⟩ : ∃ Q, Q = ask bs p N := ⟨_, rfl⟩
                    obtain ⟨R, hR⟩ : ∃ R, R = rat bs p N := ⟨_, rfl⟩
                    obtain ⟨X, hX⟩ : ∃ X, X = ([] : List UInt8) := ⟨_, rfl⟩
                    rw [← hQ] at HASK1 HQL HF hqz hqn
                    rw [← hR] at HF hqz hqn
                    clear hX
                    have HASK1 := Lib.hid HASK1
                    have bqq : ((Q : Int) != (Q : Int)) = false := by simp
                    have hQ19 : (Q : Int) ≤ 19 := by have := HQL.out; omega
                    obtain ⟨ER, hER⟩ : ∃ ER, ER = EV ea Q := ⟨_, rfl⟩
                    rw [← hER] at HF
                    have HERQ := Lib.hid hER
                    clear hER hQ hR hE
                    by_cases hq : Q = 0
                    · as_aux_lemma =>
                        obtain ⟨m, hm, hpm, hRm, hXm⟩ := hqz hq
                        have b0 : ((Q : Int) == 0) = true := by simp; omega
                        have b1 : ((Q : Int) != 0) = false := by simp; omega
                        clear hqz hqn hq
                        subst hm
                        have HF := Lib.hid HF
                        clear hXm
                        go_wp2_with fail
                        refine HASK1.out.mono ?_
                        rintro e w' ⟨rfl, rfl⟩
                        clear HASK1
                        go_wp2_with fail
                        refine HF.out.mono ?_
                        rintro e W ⟨rfl, hrd, hgW⟩
                        have hbW := HBW.out.grown hgW HBW.out.size (fun k hk => by cases hk; exact hgl)
                        clear HF hgW
                        have HN := Lib.hid (num_any ea Q HQL.out _ (HE.out _ (hbe2.trans (hbW.mono hbe2.size))))
                        rw [← HERQ.out] at HN
                        go_wp2_with fail
                        refine HN.out.mono ?_
                        rintro e W2 ⟨rfl, hbN⟩
                        have hrd2 := hrd.stays hbN
                        have hbW2 := hbW.trans (hbN.mono hbW.size)
                        have HAt := Lib.hid (at_any g v5 bs R W2 hrd2)
                        have HLf := Lib.hid (left_any g v5 bs R W2 hrd2)
                        have hRi : (R : Int) = p + m := by omega
                        clear HN hrd hbN hbW
                        go_wp2_with fail
                        refine HAt.out.mono ?_
                        rintro e W3 ⟨rfl, rfl⟩
                        clear HAt
                        go_wp2_with fail
                        refine HLf.out.mono ?_
                        rintro e W4 ⟨rfl, hbL⟩
                        have hrd4 := hrd2.stays hbL
                        have hbW4 := hbW2.trans (hbL.mono hbW2.size)
                        clear HLf hrd2 hbL hbW2
                        go_wp2_with fail
                        go_roundw
                        case rel => exact ⟨k + 1, R, by omega, by go_num, vint (by omega), hrd4, hbW4⟩
                        case measure => simp [intOf]; omega
                    · as_aux_lemma =>
                        obtain ⟨hRm, hXm⟩ := hqn hq
                        have b0 : ((Q : Int) == 0) = false := by simp; omega
                        have b1 : ((Q : Int) != 0) = true := by simp; omega
                        clear hqz hqn hq
                        have HF := Lib.hid HF
                        have HXm := Lib.hid hXm
                        clear hXm
                        go_wp2_with fail
                        refine HASK1.out.mono ?_
                        rintro e w' ⟨rfl, rfl⟩
                        clear HASK1
                        go_wp2_with fail
                        refine HF.out.mono ?_
                        rintro e W ⟨rfl, hrd, hgW⟩
                        have hbW := HBW.out.grown hgW HBW.out.size (fun k hk => by cases hk; exact hgl)
                        clear HF hgW
                        have HN := Lib.hid (num_any ea Q HQL.out _ (HE.out _ (hbe2.trans (hbW.mono hbe2.size))))
                        rw [← HERQ.out] at HN
                        go_wp2_with fail
                        refine HN.out.mono ?_
                        rintro e W2 ⟨rfl, hbN⟩
                        have hrd2 := hrd.stays hbN
                        have hbW2 := hbW.trans (hbN.mono hbW.size)
                        have HAt := Lib.hid (at_any g v5 bs R W2 hrd2)
                        have HLf := Lib.hid (left_any g v5 bs R W2 hrd2)
                        have hRi : (R : Int) = p := by omega
                        clear HN hrd hbN hbW
                        go_wp2_with fail
                        refine HAt.out.mono ?_
                        rintro e W3 ⟨rfl, rfl⟩
                        clear HAt
                        go_wp2_with fail
                        refine HLf.out.mono ?_
                        rintro e W4 ⟨rfl, hbL⟩
                        have hrd4 := hrd2.stays hbL
                        have hbW4 := hbW2.trans (hbL.mono hbW2.size)
                        clear HLf hrd2 hbL hbW2
                        go_wp2_with fail
                        go_roundw
                        case rel => exact ⟨k + 1, R, by omega, by go_num, vint (by omega), hrd4, hbW4⟩
                        case measure => simp [intOf]; omega
                  · as_aux_lemma =>
                      have d0 : ((K : Int) == 0) = false := by simp; omega
                      have d1 : ((K : Int) == 1) = false := by simp; omega
                      have d2 : ((K : Int) == 2) = false := by simp; omega
                      have d3 : ((K : Int) == 3) = false := by simp; omega
                      have d4 : ((K : Int) == 4) = false := by simp; omega
                      have hbW := HBW.out
                      have hrd := HRD.out
                      obtain ⟨R, hR⟩ : ∃ R, R = p := ⟨_, rfl⟩
                      have HNN := num_any ea 0 (by decide) _ (HE.out _ (hbe2.trans (hbW.mono hbe2.size)))
                      rw [EV_zero] at HNN
                      rw [← hR] at hrd
                      clear hK0 hK1 hK2 hK3 hK4
                      have HN := Lib.hid HNN
                      clear HNN
                      have hRi : (R : Int) = p := by omega
                      clear hR
                      go_wp2_with fail
                      refine HN.out.mono ?_
                      rintro e W2 ⟨rfl, hbN⟩
                      have hrd2 := hrd.stays hbN
                      have hbW2 := hbW.trans (hbN.mono hbW.size)
                      have HAt := Lib.hid (at_any g v5 bs R W2 hrd2)
                      have HLf := Lib.hid (left_any g v5 bs R W2 hrd2)
                      clear HN hrd hbN hbW
                      go_wp2_with fail
                      refine HAt.out.mono ?_
                      rintro e W3 ⟨rfl, rfl⟩
                      clear HAt
                      go_wp2_with fail
                      refine HLf.out.mono ?_
                      rintro e W4 ⟨rfl, hbL⟩
                      have hrd4 := hrd2.stays hbL
                      have hbW4 := hbW2.trans (hbL.mono hbW2.size)
                      clear HLf hrd2 hbL hbW2
                      go_wp2_with fail
                      go_roundw
                      case rel => exact ⟨k + 1, R, by omega, by go_num, vint (by omega), hrd4, hbW4⟩
                      case measure => simp [intOf]; omega
        · obtain rfl : k = acts.length := by omega
          have hbw := hbe2.trans (hbe.mono hbe2.size)
          have HKp := Lib.hid (kept_any _ v5 _ bs wr (HM.out.stays hbe) (HROW.out _ hbw) (by omega))
          clear hrd0
          go_wp2_with fail
          refine HKp.out.mono ?_
          rintro e w9 ⟨rfl, rfl⟩
          go_wp2_with fail
          go_ret
          exact ⟨rfl, hbw⟩
end Go.Proofs.YtjincjgapjekeaaDoor
