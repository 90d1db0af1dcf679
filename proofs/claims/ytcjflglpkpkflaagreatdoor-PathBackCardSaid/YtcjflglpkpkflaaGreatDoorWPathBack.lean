/- The walk of PathBack: a right path is parsed from its text as it was. -/
import Derived.Test.YtcjflglpkpkflaaGreatDoorPaJ
import Derived.Test.YtcjflglpkpkflaaGreatDoorPaI
import Derived.Test.YtcjflglpkpkflaaGreatDoorOpenP
namespace Go.Proofs.YtcjflglpkpkflaaGreatDoor
open Go Go.RowKit
set_option linter.unusedVariables false
theorem pathT_len {p : List PS} (h : ∀ s ∈ p, (stepT s).length ≤ 20000) : (pathT p).length ≤ 20000 * p.length := by
  induction p with
  | nil => simp [pathT]
  | cons s p ih =>
    have h1 := h s (by simp)
    have h2 := ih (fun x hx => h x (by simp [hx]))
    rw [pathT, List.length_append, List.length_cons]
    omega
theorem stepT_len {s : PS} (hb : i64 s.n ∧ i64 s.t) (hn : s.v.n < 18446744073709551616) (hw : wV s.v ≤ 8040) : (stepT s).length ≤ 20000 := by
  have h1 := decZ_len hb.1
  have h2 := decZ_len hb.2
  have h3 : (keyT s.v).length ≤ 16100 := by
    unfold keyT
    split
    · have := dec_len20 hn; omega
    · rw [qtB_len]; have := wV_t s.v; omega
  unfold stepT
  repeat' split
  all_goals simp
  all_goals omega
theorem Rep.num {S : Nat → Prop} {w : World} {v : V} {a : A3} (h : Rep S w v a) : v.n < 18446744073709551616 := by cases h; assumption
theorem parseP_leaf : ∀ (k : Nat) (l : Bs) (q : List PS), l.length < k → parseP l = some q → ∀ s ∈ q, s.v.n < 18446744073709551616 ∧ s.v.t.length ≤ l.length := by
  intro k
  induction k with
  | zero => intro l q h; omega
  | succ k ih =>
    intro l q hl h
    by_cases h0 : l = []
    · subst h0; rw [parseP_nil] at h; cases h; intro s hs; cases hs
    · rw [parseP_step h0] at h
      cases hs : stepP l with
      | none => rw [hs] at h; cases h
      | some p =>
        obtain ⟨s, r⟩ := p
        rw [hs] at h
        simp only at h
        have hlt := stepP_lt hs
        cases hp : parseP r with
        | none => rw [hp] at h; cases h
        | some q' =>
          rw [hp] at h
          cases h
          intro x hx
          rcases List.mem_cons.1 hx with rfl | hx
          · have e := stepP_some hs
            have hv : x.v = V0 ∨ ∃ l' r', keyP l' = some (x.v, r') ∧ l'.length ≤ l.length := by
              clear h0 hl ih hp hlt e
              unfold stepP at hs
              split at hs
              · split at hs
                · cases hs; exact .inl rfl
                · cases hs
              · split at hs
                · cases hs; exact .inl rfl
                · split at hs
                  · split at hs
                    · cases hs; exact .inl rfl
                    · cases hs
                  · split at hs
                    · rename_i r1 h1
                      split at hs
                      · cases hs
                      · rename_i v r2 h2
                        split at hs
                        · cases hs
                          exact .inr ⟨_, _, h2, by rw [takeS_some h1]; simp⟩
                        · cases hs
                    · split at hs
                      · cases hs
                      · split at hs
                        · cases hs
                        · split at hs
                          · split at hs
                            · cases hs; exact .inl rfl
                            · cases hs
                          · split at hs
                            · cases hs
                            · split at hs
                              · cases hs; exact .inl rfl
                              · cases hs
            rcases hv with hv | ⟨l', r', hk, hle⟩
            · rw [hv]; exact ⟨by decide, Nat.zero_le _⟩
            · obtain ⟨-, h⟩ := keyP_some hk
              rcases h with ⟨u, hu, hu2⟩ | ⟨t, ht, ht2⟩
              · rw [hu]; exact ⟨hu2, Nat.zero_le _⟩
              · rw [ht]; exact ⟨show (0 : Nat) < 18446744073709551616 by decide, Nat.le_trans ht2 hle⟩
          · obtain ⟨h1, h2⟩ := ih r q' (by omega) hp x hx
            exact ⟨h1, by omega⟩
set_option maxRecDepth 100000 in
set_option maxHeartbeats 16000000 in
theorem walkPathBack (w : World) (x0 : ByteArray) (hx : x0.size ≤ maxLen) (vp : Value) (p : List SQ) (hrp : RowS sC w vp p) (hgp : ∀ q ∈ p, RQ (fun _ => True) w q) {aF : Addr} (hE : ErrsN w) (hF : ErrAt w 0 aF) (hP : PowU w) :
    Calls Tryz.prog 3 #[.string x0, vp] w fun e w' => e = .returned (.bool true) ∧ Below w.heap.size w w' := by
  obtain ⟨s, rfl⟩ : ∃ s, x0 = strB s := ⟨x0.data.toList, by cases x0; simp [strB]⟩
  obtain ⟨a, c, rfl, -, -⟩ := hrp.shape sC_len
  have hr : PathR (fun _ => True) w (.slice a p.length c) p := ⟨hrp, hgp⟩
  have hsz := strB_size s
  have HVV : Hid (∀ W, Below w.heap.size w W → ErrsN W ∧ ErrAt W 0 aF ∧ PowU W) := fun W h => ⟨hE.stays h, hF.stays h, hP.stays h⟩
  have HAL := Lib.hid (alive17 hE hF hP)
  have HR : Hid (∀ W, Below w.heap.size w W → PathR (fun _ => True) W (.slice a p.length c) p) := fun W h => hr.stays h
  clear hE hF hP hrp hgp hr hx
  by_cases hl : 600 < s.length
  · have t0 : (600 : Int) < ((strB s).size : Int) := by omega
    clear hl hsz
    go_enter Tryz.func3, Tryz.ntmps3
    go_wp2_with fail
    refine HAL.out.mono ?_
    rintro e w1 ⟨rfl, hb1⟩
    have HB1 := Lib.hid hb1
    clear hb1 HAL
    go_wp2_with fail
    go_ret
    exact ⟨rfl, HB1.out⟩
  have t0 : ¬ (600 : Int) < ((strB s).size : Int) := by omega
  have HL6 : Hid (s.length ≤ 1000000) := by show _ ≤ _; omega
  clear hl hsz
  go_enter Tryz.func3, Tryz.ntmps3
  go_wp2_with fail
  refine HAL.out.mono ?_
  rintro e w1 ⟨rfl, hb1⟩
  have HB1 := Lib.hid hb1
  have HLo := Lib.hid (long17_any (HR.out w1 hb1))
  clear hb1 HAL
  go_wp2_with fail
  refine HLo.out.mono ?_
  rintro e w2 ⟨rfl, hb2⟩
  have HB2 := Lib.hid (HB1.out.trans (hb2.mono HB1.out.size))
  clear HLo HB1 hb2
  cases hlq : longQ p with
  | true =>
    clear hlq
    go_wp2_with fail
    go_ret
    exact ⟨rfl, HB2.out⟩
  | false =>
    obtain ⟨h20, hwv⟩ := long_wV hlq
    have HRt := Lib.hid (pright_any (HR.out w2 HB2.out))
    have HWV := Lib.hid hwv
    have H20 := Lib.hid h20
    clear hlq hwv h20
    go_wp2_with fail
    refine HRt.out.mono ?_
    rintro e w3 ⟨rfl, hb3⟩
    have HB3 := Lib.hid (HB2.out.trans (hb3.mono HB2.out.size))
    clear HRt HB2 hb3
    cases hpq : pathQ p with
    | false =>
      clear hpq HR
      have HPs := Lib.hid (parse_any (HVV.out w3 HB3.out).1 (HVV.out w3 HB3.out).2.1 s HL6.out)
      cases hps : parseR s with
      | none =>
        rw [hps] at HPs
        clear hps
        go_wp2_with fail
        refine HPs.out.mono ?_
        rintro e wa ⟨rfl, hba⟩
        have HBa := Lib.hid (HB3.out.trans (hba.mono HB3.out.size))
        have hep : EP aF = .iface 191 (.pointer (some aF)) := rfl
        rw [hep]
        clear HPs hba hep
        go_wp2_with fail
        go_ret
        exact ⟨rfl, HBa.out⟩
      | some qq =>
        rw [hps] at HPs
        have hqq : parseP s = some qq ∧ pathB qq = true := by
          unfold parseR at hps
          cases h : parseP s with
          | none => rw [h] at hps; cases hps
          | some z =>
            rw [h] at hps
            simp only at hps
            cases hz : pathB z with
            | false => rw [hz] at hps; cases hps
            | true => rw [hz] at hps; rw [if_pos rfl] at hps; cases hps; exact ⟨rfl, hz⟩
        have HTXT : Hid (pathT qq = s) := parseP_text _ s qq (Nat.lt_succ_self _) hqq.1
        have HLF : Hid (∀ x ∈ qq, x.v.n < 18446744073709551616 ∧ x.v.t.length ≤ s.length) := parseP_leaf _ s qq (Nat.lt_succ_self _) hqq.1
        have HQB := Lib.hid hqq.2
        clear hps hqq
        go_wp2_with fail
        refine HPs.out.mono ?_
        rintro e wa ⟨⟨aq, cq, ql, rfl, hql, hpr⟩, hba⟩
        have HBa := Lib.hid (HB3.out.trans (hba.mono HB3.out.size))
        have hrt : Calls _ _ _ wa _ := pright_any hpr
        have hpq : pathQ ql = true := by rw [pathQ_map, hql]; exact HQB.out
        rw [hpq] at hrt
        have HRt := Lib.hid hrt
        have HTq : Hid (∀ W, Below wa.heap.size wa W → Calls Tryz.prog 10 #[.slice aq ql.length cq] W fun e w' => e = .returned (.string (strB s)) ∧ Below W.heap.size W w') := fun W hW => by
          have h := ptext_any (HVV.out W (HBa.out.trans (hW.mono HBa.out.size))).2.2 (hpr.stays hW) (fun q hq => by
            have hm : q.1 ∈ qq := by rw [← hql]; exact List.mem_map_of_mem hq
            have h1 := HLF.out q.1 hm
            have h2 := HL6.out
            exact ⟨by omega, h1.1⟩) (by rw [hql, HTXT.out]; exact HL6.out)
          have e : textQ ql = s := by unfold textQ; rw [hpq, if_pos rfl, hql, HTXT.out]
          rw [e] at h
          exact h
        have hll := hpr.len
        unfold maxLen at hll
        have tq : ((strB s).toList == (strB s).toList) = true := beq_self_eq_true _
        clear HPs hba hpr hql hrt hpq HQB HTXT HLF
        go_wp2_with fail
        refine HRt.out.mono ?_
        rintro e wb ⟨rfl, hbb⟩
        have HC := Lib.hid (HTq.out wb hbb)
        have HBb := Lib.hid (HBa.out.trans (hbb.mono HBa.out.size))
        clear HRt HTq hbb
        go_wp2_with fail
        refine HC.out.mono ?_
        rintro e wc ⟨rfl, hbc⟩
        have HBc := Lib.hid (HBb.out.trans (hbc.mono HBb.out.size))
        clear HC hbc
        go_wp2_with fail
        go_ret
        exact ⟨rfl, HBc.out⟩

    | true =>
      have hr3 := HR.out w3 HB3.out
      have hst : ∀ x ∈ p, (stepT x.1).length ≤ 20000 := fun x hx => by
        have h1 := hr3.2 x hx
        exact stepT_len h1.1.2 h1.2.num (HWV.out x hx)
      have htl : (pathT (p.map Prod.fst)).length ≤ 1000000 := by
        have h1 := pathT_len (p := p.map Prod.fst) (fun x hx => by
          obtain ⟨q, hq, rfl⟩ := List.mem_map.1 hx
          exact hst q hq)
        rw [List.length_map] at h1
        have := H20.out
        omega
      have HTq : Hid (Calls Tryz.prog 10 #[.slice a p.length c] w3 fun e w' => e = .returned (.string (strB (pathT (p.map Prod.fst)))) ∧ Below w3.heap.size w3 w') := by
        have h := ptext_any (HVV.out w3 HB3.out).2.2 hr3 (fun q hq => ⟨by have := wV_t q.1.v; have := HWV.out q hq; omega, (hr3.2 q hq).2.num⟩) htl
        have e : textQ p = pathT (p.map Prod.fst) := by unfold textQ; rw [hpq, if_pos rfl]
        rw [e] at h
        exact h
      have hback : parseR (pathT (p.map Prod.fst)) = some (p.map Prod.fst) := by
        unfold parseR
        have hpb : pathB (p.map Prod.fst) = true := by rw [← pathQ_map]; exact hpq
        rw [parseP_back _ hpb (fun x hx => by
          obtain ⟨q, hq, rfl⟩ := List.mem_map.1 hx
          exact (hr3.2 q hq).2.num)]
        simp only
        rw [if_pos hpb]
      have HPa : Hid (∀ W, Below w3.heap.size w3 W → Calls Tryz.prog 9 #[.string (strB (pathT (p.map Prod.fst)))] W (ParseP (some (p.map Prod.fst)) aF W)) := fun W hW => by
        have h1 := HVV.out W (HB3.out.trans (hW.mono HB3.out.size))
        have h := parse_any h1.1 h1.2.1 (pathT (p.map Prod.fst)) htl
        rw [hback] at h
        exact h
      clear hr3 hst htl hback hpq
      go_wp2_with fail
      refine HTq.out.mono ?_
      rintro e w4 ⟨rfl, hb4⟩
      have HC := Lib.hid (HPa.out w4 hb4)
      have HB4 := Lib.hid (HB3.out.trans (hb4.mono HB3.out.size))
      clear HTq HPa hb4 HB3
      go_wp2_with fail
      refine HC.out.mono ?_
      rintro e w5 ⟨⟨ab, cb, bl, rfl, hbl, hbr⟩, hb5⟩
      have HB5 := Lib.hid (HB4.out.trans (hb5.mono HB4.out.size))
      have HSa : Hid (Calls Tryz.prog 11 #[.slice ab bl.length cb, .slice a p.length c] w5 fun e w' => e = .returned (.bool true) ∧ Below w5.heap.size w5 w') := by
        have h := psame_any hbr (HR.out w5 HB5.out)
        have e : sameQ bl p = true := by unfold sameQ; rw [hbl]; exact sameP_self _
        rw [e] at h
        exact h
      clear HC HB4 hb5 hbl hbr HR HWV H20
      go_wp2_with fail
      refine HSa.out.mono ?_
      rintro e w6 ⟨rfl, hb6⟩
      have HB6 := Lib.hid (HB5.out.trans (hb6.mono HB5.out.size))
      clear HSa HB5 hb6
      have HPs := Lib.hid (parse_any (HVV.out w6 HB6.out).1 (HVV.out w6 HB6.out).2.1 s HL6.out)
      cases hps : parseR s with
      | none =>
        rw [hps] at HPs
        clear hps
        go_wp2_with fail
        refine HPs.out.mono ?_
        rintro e wa ⟨rfl, hba⟩
        have HBa := Lib.hid (HB6.out.trans (hba.mono HB6.out.size))
        have hep : EP aF = .iface 191 (.pointer (some aF)) := rfl
        rw [hep]
        clear HPs hba hep
        go_wp2_with fail
        go_ret
        exact ⟨rfl, HBa.out⟩
      | some qq =>
        rw [hps] at HPs
        have hqq : parseP s = some qq ∧ pathB qq = true := by
          unfold parseR at hps
          cases h : parseP s with
          | none => rw [h] at hps; cases hps
          | some z =>
            rw [h] at hps
            simp only at hps
            cases hz : pathB z with
            | false => rw [hz] at hps; cases hps
            | true => rw [hz] at hps; rw [if_pos rfl] at hps; cases hps; exact ⟨rfl, hz⟩
        have HTXT : Hid (pathT qq = s) := parseP_text _ s qq (Nat.lt_succ_self _) hqq.1
        have HLF : Hid (∀ x ∈ qq, x.v.n < 18446744073709551616 ∧ x.v.t.length ≤ s.length) := parseP_leaf _ s qq (Nat.lt_succ_self _) hqq.1
        have HQB := Lib.hid hqq.2
        clear hps hqq
        go_wp2_with fail
        refine HPs.out.mono ?_
        rintro e wa ⟨⟨aq, cq, ql, rfl, hql, hpr⟩, hba⟩
        have HBa := Lib.hid (HB6.out.trans (hba.mono HB6.out.size))
        have hrt : Calls _ _ _ wa _ := pright_any hpr
        have hpq : pathQ ql = true := by rw [pathQ_map, hql]; exact HQB.out
        rw [hpq] at hrt
        have HRt := Lib.hid hrt
        have HTq : Hid (∀ W, Below wa.heap.size wa W → Calls Tryz.prog 10 #[.slice aq ql.length cq] W fun e w' => e = .returned (.string (strB s)) ∧ Below W.heap.size W w') := fun W hW => by
          have h := ptext_any (HVV.out W (HBa.out.trans (hW.mono HBa.out.size))).2.2 (hpr.stays hW) (fun q hq => by
            have hm : q.1 ∈ qq := by rw [← hql]; exact List.mem_map_of_mem hq
            have h1 := HLF.out q.1 hm
            have h2 := HL6.out
            exact ⟨by omega, h1.1⟩) (by rw [hql, HTXT.out]; exact HL6.out)
          have e : textQ ql = s := by unfold textQ; rw [hpq, if_pos rfl, hql, HTXT.out]
          rw [e] at h
          exact h
        have hll := hpr.len
        unfold maxLen at hll
        have tq : ((strB s).toList == (strB s).toList) = true := beq_self_eq_true _
        clear HPs hba hpr hql hrt hpq HQB HTXT HLF
        go_wp2_with fail
        refine HRt.out.mono ?_
        rintro e wb ⟨rfl, hbb⟩
        have HC := Lib.hid (HTq.out wb hbb)
        have HBb := Lib.hid (HBa.out.trans (hbb.mono HBa.out.size))
        clear HRt HTq hbb
        go_wp2_with fail
        refine HC.out.mono ?_
        rintro e wc ⟨rfl, hbc⟩
        have HBc := Lib.hid (HBb.out.trans (hbc.mono HBb.out.size))
        clear HC hbc
        go_wp2_with fail
        go_ret
        exact ⟨rfl, HBc.out⟩

end Go.Proofs.YtcjflglpkpkflaaGreatDoor
