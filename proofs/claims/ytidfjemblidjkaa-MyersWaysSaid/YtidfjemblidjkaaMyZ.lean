/- The walk of the program's Tidy. -/
import Derived.Test.YtidfjemblidjkaaMyX
namespace Go.Proofs.Ytidfjemblidjkaa
open Go Go.RowKit
set_option linter.unusedVariables false
theorem addR_last {rs : List Rn} {n : Nat} (hg : GoodR n rs) {k c : Int} (hc : 1 ≤ c) : ∃ L d, addR rs k c = L ++ [(k, d)] ∧ 1 ≤ d ∧ d ≤ n + c ∧ L.length ≤ rs.length := by
  rcases List.eq_nil_or_concat rs with rfl | ⟨L, r, rfl⟩
  · exact ⟨[], c, by rw [addR_nil k (by omega)]; rfl, hc, by omega, by simp⟩
  · obtain ⟨k2, d⟩ := r
    rw [List.concat_eq_append] at hg ⊢
    have hd := hg (k2, d) (by simp)
    simp only [] at hd
    by_cases hk : k2 = k
    · subst hk
      exact ⟨L, d + c, addR_same (by omega), by omega, by omega, by simp⟩
    · exact ⟨L ++ [(k2, d)], c, addR_other (by omega) hk, hc, by omega, by simp⟩
set_option maxRecDepth 100000 in
set_option maxHeartbeats 8000000 in
theorem tidyProg_any (vr : Value) (rs : List Rn) (w : World) (hr : RowS rnC w vr rs) (hN : ∀ r ∈ rs, r.2 ≤ 200) (hl : rs.length ≤ 40) :
    Calls Try.prog 22 #[vr] w fun e w' => ∃ v', e = .returned v' ∧ RowS rnC w' v' (tidyV rs) ∧ Below w.heap.size w w' := by
  have HCL := Lib.hid (cloneR_any vr rs w hr (by omega))
  have HTL := Lib.hid (tdAll_len hN)
  obtain ⟨RS, hRS⟩ : ∃ RS : List Rn, RS = rs ++ [(1, 1048576)] := ⟨_, rfl⟩
  have hRl : RS.length = rs.length + 1 := by rw [hRS]; simp
  have hRN : ∀ r ∈ RS, r.2 ≤ 1048576 := fun r h => by
    rw [hRS] at h
    rcases List.mem_append.1 h with h | h
    · have := hN r h; omega
    · obtain rfl : r = (1, 1048576) := by simpa using h
      exact Int.le_refl _
  have HRT : Hid (∀ m, m ≤ rs.length → RS.take m = rs.take m) := fun m h => by rw [hRS, List.take_append_of_le_length h]
  have HRE : Hid (tdAll RS = tdStep (tdAll rs) 1 1048576) := by show _ = _; rw [hRS, tdAll_snoc]; rfl
  have HRN := Lib.hid hRN
  have HRS := Lib.hid hRS
  have HRL := Lib.hid hRl
  have HNN := Lib.hid hN
  clear hr hN hRN hRS
  go_enter Try.func22, Try.ntmps22
  go_wp2_with fail
  refine HCL.out.mono ?_
  rintro e w1 ⟨v9, rfl, o9, hb1⟩
  have hs1 := hb1.size
  go_wp2_with (at_builtin; go_must (refine wpList_pushS rnC_len rnC_one Try.underlying28 infoP rfl (by decide) o9 (1, 1048576) (by omega) hs1 rfl _ _ rfl (by rfl) _ _ _ (by rfl) (by rfl) ?_))
  intro v12 w2 o12 g2 n2
  rw [← HRS.out] at o12
  have hb2 := OwnS.below o9 hb1 g2 hs1
  have hs2 := hb2.size
  obtain ⟨a12, c12, hv, -, hin⟩ := o12.row.shape rnC_len
  subst hv
  have HIN := Lib.hid hin
  obtain ⟨M, hM⟩ : ∃ M, M = RS.length := ⟨_, rfl⟩
  rw [← hM]
  have hMl : M = rs.length + 1 := hM.trans hRl
  have HM := Lib.hid hM
  have HML := Lib.hid hMl
  have hM41 : (M : Int) ≤ 41 := by omega
  clear g2 n2 o9 o12 hin hb1 hRl hM hMl
  go_wp2_with fail
  go_loopw [3, 4, 5, 14] (fun x dd pp i wr => ∃ (m : Nat) (s : TdS), m ≤ M ∧ i = .int .i64 m ∧ dd = .int .i64 s.d ∧ pp = .int .i64 s.p ∧ Hid (tdAll (RS.take m) = s) ∧ OwnP w2.heap.size wr x (runsV s.ss) ∧ Below w2.heap.size w2 wr) (fun _ _ _ i _ => M - (intOf i).toNat)
  case atStart => exact ⟨0, ⟨[], 0, 0⟩, Nat.zero_le _, rfl, rfl, rfl, rfl, OwnS.nil _ _, Below.refl _ _⟩
  case round =>
    obtain ⟨m, s, hm, rfl, rfl, rfl, HS, how, hbe⟩ := hrel
    have hsz := hbe.size
    by_cases h1 : m < M
    · have hmr : m ≤ rs.length := by have := HML.out; omega
      have hsl : tdLen s ≤ 8000 := by have h5 := HTL.out m; rw [← HRT.out m hmr, HS.out] at h5; omega
      have hsd : (s.d : Int) ≤ 8000 := by unfold tdLen at hsl; omega
      have hsp : (s.p : Int) ≤ 8000 := by unfold tdLen at hsl; omega
      have hss : s.ss.length ≤ 8000 := by unfold tdLen at hsl; omega
      obtain ⟨⟨k, c⟩, hq⟩ : ∃ r, RS[m]? = some r := ⟨_, List.getElem?_eq_getElem (by have := HM.out; omega)⟩
      have hc2 : c ≤ 1048576 := HRN.out (k, c) (List.mem_of_getElem? hq)
      have HNX : Hid (tdAll (RS.take (m + 1)) = tdStep s k c.toNat) := by show _ = _; rw [List.take_add_one, hq]; show tdAll (_ ++ [_]) = _; rw [tdAll_snoc, HS.out]
      obtain ⟨gb, ob, rfl, hc⟩ := HIN.out m _ hq
      have d0 := cell_below hbe (hc 0 (.int .i64 k) rfl)
      have d1 := cell_below hbe (hc 1 (.int .i64 c) rfl)
      rw [Nat.add_zero] at d0
      rw [← Nat.add_assoc] at d1
      have hbA : Below wr.heap.size wr (wr.alloc (.cells #[.int .i64 k, .int .i64 c] 41)) := (Below.refl _ _).alloc (Nat.le_refl _) _
      have hcA := CellsAt.new wr #[.int .i64 k, .int .i64 c] 41
      have HRI := Lib.hid (right_any k c (wr.alloc (.cells #[.int .i64 k, .int .i64 c] 41)) hc2)
      have hgd := runsV_good s.ss
      clear hc hq hsl
      go_wp2_with fail
      refine HRI.out.mono ?_
      rintro e W ⟨rfl, hbR⟩
      have hbW := hbA.trans (hbR.mono hbA.size)
      have hcB := hcA.stays hbR
      have f0 := hcB.cell 0 (v := .int .i64 k) rfl
      have f1 := hcB.cell 1 (v := .int .i64 c) rfl
      have howW := OwnP_stays how hbW
      have hbeW := hbe.trans (hbW.mono hsz)
      have hsW := hbW.size
      have HOLT := Lib.hid (fun q hq => (how.lt q hq).2)
      clear hbA hcA hbR d0 d1 how hbW hbe HRI
      cases hr : rightR (k, c) with
      | false =>
        have HS2 := Lib.hid (HNX.out.trans (tdStep_bad hr))
        clear hr hgd
        go_wp2_with fail
        go_roundw
        case rel => exact ⟨m + 1, s, by omega, by go_num, rfl, rfl, HS2, howW, hbeW⟩
        case measure => simp only [intOf]; omega
      | true =>
        have hr' := hr
        unfold rightR at hr'
        simp at hr'
        have hk1 : 1 ≤ k := hr'.1
        have hk2 : k ≤ 3 := hr'.2.1
        have hc1 : 1 ≤ c := hr'.2.2
        clear hr' hr
        rcases (show k = 1 ∨ k = 2 ∨ k = 3 by omega) with rfl | rfl | rfl
        · have HS2 : Hid (tdAll (RS.take (m + 1)) = tdStep s 1 c.toNat) := HNX
          have HV := Lib.hid (tidy_one s (c := c.toNat) (by omega))
          have hct : ((c.toNat : Nat) : Int) = c := by omega
          rw [hct] at HV
          have hz : (tdStep s 1 c.toNat).d = 0 ∧ (tdStep s 1 c.toNat).p = 0 := by rw [tdStep_one (by omega)]; exact ⟨rfl, rfl⟩
          have HZ := Lib.hid hz
          have G1 : GoodR 8000 (runsV s.ss) := fun r h => by have := hgd.1 r h; omega
          have L1 : (runsV s.ss).length ≤ 8000 := Nat.le_trans hgd.2 hss
          have G2 := addR_goodZ (m := 8000) (k := 2) (c := (s.d : Int)) G1 (by omega) hsd
          have L2 := addR_len (runsV s.ss) 2 (s.d : Int)
          have G3 := addR_goodZ (m := 8000) (k := 3) (c := (s.p : Int)) G2 (by omega) hsp
          have L3 := addR_len (addR (runsV s.ss) 2 (s.d : Int)) 3 (s.p : Int)
          have HG2 := Lib.hid (And.intro G2 (show (addR (runsV s.ss) 2 (s.d : Int)).length ≤ 8001 by omega))
          have HG3 := Lib.hid (And.intro G3 (show (addR (addR (runsV s.ss) 2 (s.d : Int)) 3 (s.p : Int)).length ≤ 8002 by omega))
          have A1 := Lib.hid (add_any w2.heap.size _ (runsV s.ss) 2 (s.d : Int) W 8000 howW (by omega) (by omega) G1 (by omega) (by omega) (by omega))
          have OW := Lib.hid howW
          have hgsW := hcB.lt
          clear hgd G1 L1 G2 L2 G3 L3 hct hz howW
          go_wp2_with fail
          refine A1.out.mono ?_
          rintro e W1 ⟨va, rfl, oa, ga, na⟩
          have hba := OwnS.below OW.out hbeW ga (by omega)
          have hcC := hcB.grown ga (fun h => by have := HOLT.out _ h; omega)
          have hsa := ga.size
          have HNa : Hid (va.ownBlock ≠ some wr.heap.size) := ne_new (fun h => by have := HOLT.out _ h; omega) na hgsW
          have A2 := Lib.hid (add_any w2.heap.size va _ 3 (s.p : Int) W1 _ oa (by omega) (by have := HG2.out.2; omega) HG2.out.1 (by omega) (by omega) (by omega))
          have OA := Lib.hid oa
          clear ga na oa hcB f1 f0 hbeW
          go_wp2_with fail
          refine A2.out.mono ?_
          rintro e W2 ⟨vb, rfl, ob, gb2, nb⟩
          have hbb := OwnS.below OA.out hba gb2 (by omega)
          have hcD := hcC.grown gb2 (fun h => HNa.out h)
          have hsb := gb2.size
          have f1 := hcD.cell 1 (v := .int .i64 c) rfl
          have A3 := Lib.hid (add_any w2.heap.size vb _ 1 c W2 _ ob (by omega) (by have := HG3.out.2; omega) HG3.out.1 (by omega) (by omega) (by omega))
          have OB := Lib.hid ob
          clear gb2 nb ob hcC hcD hba
          go_wp2_with fail
          refine A3.out.mono ?_
          rintro e W3 ⟨vc, rfl, oc, gc, nc⟩
          have hbc := OwnS.below OB.out hbb gc (by omega)
          clear gc nc hbb f1
          go_wp2_with fail
          go_roundw
          case rel => exact ⟨m + 1, _, by omega, by go_num, by rw [HZ.out.1]; rfl, by rw [HZ.out.2]; rfl, HS2, by rw [HV.out]; exact oc, hbc⟩
          case measure => simp only [intOf]; omega
        · have HS2 : Hid (tdAll (RS.take (m + 1)) = ⟨s.ss, s.d + c.toNat, s.p⟩) := HNX.out.trans (tdStep_two s _)
          clear hgd
          go_wp2_with fail
          go_roundw
          case rel => exact ⟨m + 1, ⟨s.ss, s.d + c.toNat, s.p⟩, by omega, by go_num, vint (by push_cast; omega), rfl, HS2, howW, hbeW⟩
          case measure => simp only [intOf]; omega
        · have HS2 : Hid (tdAll (RS.take (m + 1)) = ⟨s.ss, s.d, s.p + c.toNat⟩) := HNX.out.trans (tdStep_three s _)
          clear hgd
          go_wp2_with fail
          go_roundw
          case rel => exact ⟨m + 1, ⟨s.ss, s.d, s.p + c.toNat⟩, by omega, by go_num, rfl, vint (by push_cast; omega), HS2, howW, hbeW⟩
          case measure => simp only [intOf]; omega
    · obtain rfl : m = M := by omega
      have hend : s = tdStep (tdAll rs) 1 1048576 := by rw [← HS.out, HM.out, List.take_length, HRE.out]
      have hrun : runsV s.ss = addR (tidyV rs) 1 1048576 := by
        rw [hend, tidy_one _ (by decide)]
        unfold tidyV
        rw [tidy_run]; rfl
      have hlen : (tdEnd (tdAll rs)).length ≤ 8000 := by
        have h5 := HTL.out rs.length
        rw [List.take_length] at h5
        rw [tdEnd_len]; omega
      have hgd := runsV_good (tdEnd (tdAll rs))
      obtain ⟨L, d, hL, hd1, hd2, hLl⟩ := addR_last (k := 1) (c := 1048576) hgd.1 (by decide)
      have HTR : Hid (trimR (L ++ [(1, d)]) 1048576 = tidyV rs) := by show _ = _; rw [← hL]; exact trim_add hgd.1 (by decide)
      have hru2 : runsV s.ss = L ++ [(1, d)] := hrun.trans hL
      rw [hru2] at how
      have HTM := Lib.hid (trim_any w2.heap.size _ L 1 d wr how (by have := hgd.2; omega) (by omega) (by omega))
      have HOW := Lib.hid how
      clear hend hrun hlen hgd hL hd1 hd2 hLl hru2 how
      go_wp2_with fail
      refine HTM.out.mono ?_
      rintro e w9 ⟨v', rfl, hrow, hg9⟩
      have hb9 := OwnS.below HOW.out hbe hg9 hsz
      go_wp2_with fail
      go_ret
      exact ⟨_, rfl, by rw [← HTR.out]; exact hrow, hb2.trans (hb9.mono hs2)⟩
end Go.Proofs.Ytidfjemblidjkaa
