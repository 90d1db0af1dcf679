/- Paths: the chapter's example; Long. -/
import Derived.Test.YtcjflglpkpkflaaGreatDoorPaF
import Derived.Test.YtcjflglpkpkflaaGreatDoorPaH
import Derived.Test.YtcjflglpkpkflaaGreatDoorVf
namespace Go.Proofs.YtcjflglpkpkflaaGreatDoor
open Go Go.RowKit
set_option linter.unusedVariables false
def alP : List PS := [⟨1, 1, 0, V0⟩, ⟨2, 0, 0, leafV 2 0 [97]⟩, ⟨3, 2, 0, V0⟩]
def alT : Bs := [46, 49, 123, 39, 54, 49, 39, 125, 91, 50, 93]
theorem al_text : pathT alP = alT := by
  have e1 : decZ 1 = [49] := by show Lib.decDigits 1 = _; rw [dec_small 1 (by decide)]; rfl
  have e2 : decZ 2 = [50] := by show Lib.decDigits 2 = _; rw [dec_small 2 (by decide)]; rfl
  show stepT ⟨1, 1, 0, V0⟩ ++ (stepT ⟨2, 0, 0, leafV 2 0 [97]⟩ ++ (stepT ⟨3, 2, 0, V0⟩ ++ [])) = alT
  have s1 : stepT ⟨1, 1, 0, V0⟩ = [46, 49] := by show 46 :: decZ 1 = _; rw [e1]
  have s2 : stepT ⟨2, 0, 0, leafV 2 0 [97]⟩ = [123, 39, 54, 49, 39, 125] := rfl
  have s3 : stepT ⟨3, 2, 0, V0⟩ = [91, 50, 93] := by show 91 :: (decZ 2 ++ [93]) = _; rw [e2]; rfl
  rw [s1, s2, s3]; rfl
theorem al_pathB : pathB alP = true := by
  simp [pathB, alP, stepB, inB, noB, keyB, V0, leafV, rightV, rightF, rightL, rightP, shapeB, V.k, V.t]
theorem al_parse : parseR alT = some alP := by
  unfold parseR
  rw [← al_text, parseP_back alP al_pathB (by decide)]
  simp only
  rw [al_pathB]; rfl
theorem al_split {ql : List SQ} (h : ql.map Prod.fst = alP) : ∃ a1 a2 a3 : A3, ql = [(⟨1, 1, 0, V0⟩, a1), (⟨2, 0, 0, leafV 2 0 [97]⟩, a2), (⟨3, 2, 0, V0⟩, a3)] := by
  unfold alP at h
  match ql, h with
  | [(s1, a1), (s2, a2), (s3, a3)], h =>
    simp only [List.map_cons, List.map_nil, List.cons.injEq, and_true] at h
    obtain ⟨rfl, rfl, rfl⟩ := h
    exact ⟨a1, a2, a3, rfl⟩
  | [], h => cases h
  | [_], h => simp at h
  | [_, _], h => simp at h
  | _ :: _ :: _ :: _ :: _, h => simp at h
set_option maxRecDepth 100000 in
set_option maxHeartbeats 8000000 in
theorem alive17 {w : World} {aF : Addr} (hE : ErrsN w) (hF : ErrAt w 0 aF) (hp : PowU w) : Calls Tryz.prog 6 #[] w fun e w' => e = .returned (.bool true) ∧ Below w.heap.size w w' := by
  have hC := parse_any hE hF alT (by decide)
  rw [al_parse] at hC
  have HC : Hid (Calls Tryz.prog 9 #[.string ⟨#[46, 49, 123, 39, 54, 49, 39, 125, 91, 50, 93]⟩] w (ParseP (some alP) aF w)) := hC
  have HP : Hid (∀ W, Below w.heap.size w W → PowU W) := fun W h => hp.stays h
  clear hC hE hF hp
  go_enter Tryz.func6, Tryz.ntmps6
  go_wp2_with fail
  refine HC.out.mono ?_
  rintro e w1 ⟨⟨a, c, ql, rfl, hql, hpr⟩, hb1⟩
  obtain ⟨a1, a2, a3, rfl⟩ := al_split hql
  have HTx : Hid (Calls Tryz.prog 10 #[.slice a 3 c] w1 fun e w' => e = .returned (.string ⟨#[46, 49, 123, 39, 54, 49, 39, 125, 91, 50, 93]⟩) ∧ Below w1.heap.size w1 w') := by
    have h := ptext_any (HP.out w1 hb1) hpr (by
      intro q hq
      simp only [List.mem_cons, List.not_mem_nil, or_false] at hq
      rcases hq with rfl | rfl | rfl
      · exact ⟨show (0 : Nat) ≤ 1000000 by decide, show (0 : Nat) < 18446744073709551616 by decide⟩
      · exact ⟨show (1 : Nat) ≤ 1000000 by decide, show (0 : Nat) < 18446744073709551616 by decide⟩
      · exact ⟨show (0 : Nat) ≤ 1000000 by decide, show (0 : Nat) < 18446744073709551616 by decide⟩) (by
      have : pathT (([(⟨1, 1, 0, V0⟩, a1), (⟨2, 0, 0, leafV 2 0 [97]⟩, a2), (⟨3, 2, 0, V0⟩, a3)] : List SQ).map Prod.fst) = alT := al_text
      rw [this]; decide)
    have e : textQ ([(⟨1, 1, 0, V0⟩, a1), (⟨2, 0, 0, leafV 2 0 [97]⟩, a2), (⟨3, 2, 0, V0⟩, a3)] : List SQ) = alT := by
      unfold textQ
      rw [pathQ_map]
      show (if pathB alP then pathT alP else []) = alT
      rw [al_pathB, if_pos rfl, al_text]
    rw [e] at h
    exact h
  obtain ⟨_, _, hv, -, hcl⟩ := hpr.1.shape sC_len
  cases hv
  obtain ⟨b, o, hbo, hc0⟩ := hcl 0 _ rfl
  subst hbo
  obtain ⟨b', o', hbo, hc1⟩ := hcl 1 _ rfl
  cases hbo
  obtain ⟨b', o', hbo, hc2⟩ := hcl 2 _ rfl
  cases hbo
  have c0 : w1.cell? ⟨b, o + 1, none⟩ = some (.int .i64 1) := hc0 1 _ rfl
  have c1 : w1.cell? ⟨b, o + 10 + 5, none⟩ = some (.string ⟨#[97]⟩) := hc1 5 _ rfl
  have c2 : w1.cell? ⟨b, o + 20, none⟩ = some (.int .i64 3) := hc2 0 _ rfl
  have HB1 := Lib.hid hb1
  clear HC HP hb1 hpr hql hcl hc0 hc1 hc2
  go_wp2_with fail
  refine HTx.out.mono ?_
  rintro e w2 ⟨rfl, hb2⟩
  have HB2 := Lib.hid (HB1.out.trans (hb2.mono HB1.out.size))
  clear HTx HB1 hb2 c0 c1 c2
  go_wp2_with fail
  go_ret
  exact ⟨rfl, HB2.out⟩
/-- is there more in a path than is asked? -/
def longQ (p : List SQ) : Bool := decide (20 < p.length) || p.any fun q => decide (greatV q.1.v 10 30 < 0)
theorem long_wV {p : List SQ} (h : longQ p = false) : p.length ≤ 20 ∧ ∀ q ∈ p, wV q.1.v ≤ 8040 := by
  unfold longQ at h
  rw [Bool.or_eq_false_iff] at h
  refine ⟨by have := of_decide_eq_false h.1; omega, fun q hq => ?_⟩
  have h2 := List.any_eq_false.1 h.2 q hq
  simp only [decide_eq_true_eq] at h2
  have := greatV_w q.1.v 10 30 (by omega) (by omega)
  have := greatV_bd q.1.v 10 30 (by omega)
  omega
theorem wV_t (v : V) : v.t.length ≤ wV v := by rw [wV_eq]; omega
theorem drop_any {p : List SQ} {m : Nat} {q : SQ} (h : p[m]? = some q) : (p.drop m).any (fun q => decide (greatV q.1.v 10 30 < 0)) = (decide (greatV q.1.v 10 30 < 0) || (p.drop (m + 1)).any (fun q => decide (greatV q.1.v 10 30 < 0))) := by
  have hi := (List.getElem?_eq_some_iff.1 h).1
  rw [List.drop_eq_getElem_cons hi, List.any_cons, (List.getElem?_eq_some_iff.1 h).2]
section
variable {S : Nat → Prop} {w : World} {a : Option Addr} {c : Nat} {p : List SQ}
set_option maxRecDepth 100000 in
set_option maxHeartbeats 8000000 in
theorem long17_any (hr : PathR S w (.slice a p.length c) p) : Calls Tryz.prog 7 #[.slice a p.length c] w fun e w' => e = .returned (.bool (longQ p)) ∧ Below w.heap.size w w' := by
  have hll := hr.len
  unfold maxLen at hll
  by_cases h20 : 20 < p.length
  · have HZ : Hid (longQ p = true) := by show _ = _; unfold longQ; rw [decide_eq_true h20]; rfl
    have t0 : decide ((20 : Int) < (p.length : Int)) = true := decide_eq_true (by omega)
    clear hr h20
    go_enter Tryz.func7, Tryz.ntmps7
    go_wp2_with fail
    go_ret
    exact ⟨congrArg (fun z => Ending.returned (Value.bool z)) HZ.out.symm, Below.refl _ _⟩
  · have HZ : Hid ((p.drop 0).any (fun q => decide (greatV q.1.v 10 30 < 0)) = longQ p) := by show _ = _; unfold longQ; rw [decide_eq_false h20]; rfl
    have t0 : decide ((20 : Int) < (p.length : Int)) = false := decide_eq_false (by omega)
    have HR : Hid (∀ W, Below w.heap.size w W → PathR S W (.slice a p.length c) p) := fun W hb => hr.stays hb
    clear hr h20
    generalize longQ p = LQ at HZ ⊢
    go_enter Tryz.func7, Tryz.ntmps7
    go_wp2_with fail
    go_loopw [10] (fun i wr => ∃ (m : Nat), m ≤ p.length ∧ i = .int .i64 m ∧ Hid ((p.drop m).any (fun q => decide (greatV q.1.v 10 30 < 0)) = LQ) ∧ Below w.heap.size w wr) (fun i _ => p.length - (intOf i).toNat)
    case atStart => exact ⟨0, Nat.zero_le _, rfl, HZ.out, Below.refl _ _⟩
    case round =>
      clear HZ
      obtain ⟨m, hm, rfl, HI, hbe⟩ := hrel
      by_cases h1 : m < p.length
      · obtain ⟨⟨⟨K, N, T, ⟨k', n', t', fs', r', ls', ps'⟩⟩, ⟨fa', fc', la', lc', pa', pc'⟩⟩, hq⟩ : ∃ x, p[m]? = some x := ⟨_, List.getElem?_eq_getElem h1⟩
        obtain ⟨b, o, rfl, hrx, x0, x1, x2, c0, c1, c2, c3, c4, c5, c6⟩ := (HR.out wr hbe).at hq
        have hI := HI.out
        rw [drop_any hq] at hI
        have HC : Hid (∀ W, Below wr.heap.size wr W → Calls Tryz.prog 12 #[.agg #[.int .i64 k', .int .u64 (n' : Int), .string (strB t'), .slice fa' fs'.length fc', .string (strB r'), .slice la' ls'.length lc', .slice pa' ps'.length pc'], .int .i64 10] W fun e w' => e = .returned (.bool (decide (greatV (.mk k' n' t' fs' r' ls' ps') 10 30 < 0))) ∧ Below W.heap.size W w') := fun W h => Great_any (by decide) (by decide) (hrx.2.stays h)
        simp only at hI
        generalize decide (greatV (.mk k' n' t' fs' r' ls' ps') 10 30 < 0) = R at HC hI
        have HI2 := Lib.hid hI
        have HBW : Hid (∀ x, Below wr.heap.size wr (wr.alloc (.cells x 62))) := fun x => (Below.refl _ _).alloc (Nat.le_refl _) _
        clear hI HI hrx hq
        go_wp2_with fail
        refine (HC.out _ (HBW.out _)).mono ?_
        rintro e w2 ⟨rfl, hb2⟩
        have hbe2 : Below w.heap.size w w2 := (hbe.trans ((HBW.out _).mono hbe.size)).trans (hb2.mono (by simp; have := hbe.size; omega))
        clear HC HBW hb2 x0 x1 x2 c0 c1 c2 c3 c4 c5 c6
        cases R with
        | false =>
          go_wp2_with fail
          go_roundw
          case rel => exact ⟨m + 1, h1, by go_num, by show _ = _; simpa using HI2.out, hbe2⟩
          case measure => simp only [intOf]; omega
        | true =>
          have HZ : Hid (true = LQ) := by have := HI2.out; rw [Bool.true_or] at this; exact this
          go_wp2_with fail
          go_ret
          exact ⟨congrArg (fun z => Ending.returned (Value.bool z)) HZ.out, hbe2⟩
      · have HZ : Hid (false = LQ) := by show _ = _; rw [← HI.out, List.drop_of_length_le (by omega)]; rfl
        clear HI
        go_wp2_with fail
        go_ret
        exact ⟨congrArg (fun z => Ending.returned (Value.bool z)) HZ.out, hbe⟩
end
end Go.Proofs.YtcjflglpkpkflaaGreatDoor
