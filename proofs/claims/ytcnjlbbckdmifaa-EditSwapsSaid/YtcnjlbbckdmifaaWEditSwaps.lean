/- The walk of EditSwaps: the edit from every right value to every other one. -/
import Derived.Test.YtcnjlbbckdmifaaEd
import Derived.Test.YtcnjlbbckdmifaaOpenV
namespace Go.Proofs.Ytcnjlbbckdmifaa
open Go Go.RowKit
set_option linter.unusedVariables false
set_option maxRecDepth 100000 in
set_option maxHeartbeats 8000000 in
theorem walkEditSwaps (w : World) (va : V) (aa : A3) (hra : Rep (fun _ => True) w va aa) (vb : V) (ab : A3) (hrb : Rep (fun _ => True) w vb ab) :
    Calls Try.prog 7 #[vG (va, aa), vG (vb, ab)] w fun e w' => e = .returned (.bool true) ∧ Below w.heap.size w w' := by
  obtain ⟨o0, o1, o2, o3, o4, o5, o6, e1, hA, h1⟩ := VV.letters hra
  obtain ⟨n0, n1, n2, n3, n4, n5, n6, e2, hB, h2⟩ := VV.letters hrb
  rw [e1, e2]
  clear e1 e2 hra hrb
  have h21 : (#[.int .i64 1, o0, o1, o2, o3, o4, o5, o6, n0, n1, n2, n3, n4, n5, n6, .slice none 0 0, .bool false, .string ⟨#[]⟩, .string ⟨#[]⟩, .slice none 0 0, .slice none 0 0] : Array Value).all (·.oneCell') = true := by
    simp at h1 h2
    simp [h1, h2]
    decide
  have H21 := Lib.hid h21
  obtain ⟨W0, hW0⟩ : ∃ W0, W0 = (w.alloc (.cells #[o0, o1, o2, o3, o4, o5, o6] 27)).alloc (.cells #[n0, n1, n2, n3, n4, n5, n6] 27) := ⟨_, rfl⟩
  obtain ⟨g, hg⟩ : ∃ g, g = w.heap.size := ⟨_, rfl⟩
  have hBA : Below w.heap.size w W0 := by rw [hW0]; exact ((Below.refl _ _).alloc (Nat.le_refl _) _).alloc (by simp) _
  have hcx : CellsAt W0 g 27 #[o0, o1, o2, o3, o4, o5, o6] := by rw [hW0, hg]; exact CellsAt.allocE (CellsAt.new w _ _)
  have hcy : CellsAt W0 (g + 1) 27 #[n0, n1, n2, n3, n4, n5, n6] := by rw [hW0, hg]; exact CellsAt.newE (by simp)
  have HX : Hid (∀ W, Below W0.heap.size W0 W → CellsAt W g 27 #[o0, o1, o2, o3, o4, o5, o6] ∧ CellsAt W (g + 1) 27 #[n0, n1, n2, n3, n4, n5, n6] ∧ Below w.heap.size w W ∧ VV (fun _ => True) W #[o0, o1, o2, o3, o4, o5, o6] va ∧ VV (fun _ => True) W #[n0, n1, n2, n3, n4, n5, n6] vb) := fun W hb => ⟨hcx.stays hb, hcy.stays hb, hBA.trans (hb.mono hBA.size), hA.stays (hBA.trans (hb.mono hBA.size)), hB.stays (hBA.trans (hb.mono hBA.size))⟩
  have HW := Lib.hid hW0
  have HG := Lib.hid hg
  clear hW0 hg hBA hcx hcy hA hB h1 h2 h21
  go_enter Try.func7, Try.ntmps7
  go_upto_region 1 with fail
  rw [← HW.out, ← HG.out]
  clear HW HG
  go_wp2_with fail
  refine (alive21 _).mono ?_
  rintro e w1 ⟨rfl, hb1⟩
  obtain ⟨hcx, hcy, hbw, hA, hB⟩ := HX.out w1 hb1
  have a0 := hcx.cell 0 (v := o0) rfl; have a1 := hcx.cell 1 (v := o1) rfl; have a2 := hcx.cell 2 (v := o2) rfl; have a3 := hcx.cell 3 (v := o3) rfl; have a4 := hcx.cell 4 (v := o4) rfl; have a5 := hcx.cell 5 (v := o5) rfl; have a6 := hcx.cell 6 (v := o6) rfl
  have b0 := hcy.cell 0 (v := n0) rfl; have b1 := hcy.cell 1 (v := n1) rfl; have b2 := hcy.cell 2 (v := n2) rfl; have b3 := hcy.cell 3 (v := n3) rfl; have b4 := hcy.cell 4 (v := n4) rfl; have b5 := hcy.cell 5 (v := n5) rfl; have b6 := hcy.cell 6 (v := n6) rfl
  have HBW1 := Lib.hid hbw
  have HA1 := Lib.hid hA
  have HB1 := Lib.hid hB
  clear hcx hcy hbw hA hB
  go_wp2_with fail
  refine (great_op (by omega) (by omega) HA1.out).mono ?_
  rintro e w2 ⟨rfl, hbx⟩
  have hb2 := hb1.trans (hbx.mono hb1.size)
  clear hbx a0 a1 a2 a3 a4 a5 a6 b0 b1 b2 b3 b4 b5 b6 HBW1 HA1 HB1
  obtain ⟨hcx, hcy, hbw, hA, hB⟩ := HX.out w2 hb2
  have a0 := hcx.cell 0 (v := o0) rfl; have a1 := hcx.cell 1 (v := o1) rfl; have a2 := hcx.cell 2 (v := o2) rfl; have a3 := hcx.cell 3 (v := o3) rfl; have a4 := hcx.cell 4 (v := o4) rfl; have a5 := hcx.cell 5 (v := o5) rfl; have a6 := hcx.cell 6 (v := o6) rfl
  have b0 := hcy.cell 0 (v := n0) rfl; have b1 := hcy.cell 1 (v := n1) rfl; have b2 := hcy.cell 2 (v := n2) rfl; have b3 := hcy.cell 3 (v := n3) rfl; have b4 := hcy.cell 4 (v := n4) rfl; have b5 := hcy.cell 5 (v := n5) rfl; have b6 := hcy.cell 6 (v := n6) rfl
  have HBW2 := Lib.hid hbw
  have HA2 := Lib.hid hA
  have HB2 := Lib.hid hB
  clear hcx hcy hbw hA hB
  obtain ⟨G1, hG1⟩ : ∃ G, G = decide (greatV va 80 30 < 0) := ⟨_, rfl⟩
  rw [← hG1]
  clear hG1
  cases G1 with
  | true =>
    clear a0 a1 a2 a3 a4 a5 a6 b0 b1 b2 b3 b4 b5 b6
    go_wp2_with fail
    go_ret
    exact ⟨rfl, HBW2.out⟩
  | false =>
    go_wp2_with fail
    refine (great_op (by omega) (by omega) HB2.out).mono ?_
    rintro e w3 ⟨rfl, hbx⟩
    have hb3 := hb2.trans (hbx.mono hb2.size)
    clear hbx a0 a1 a2 a3 a4 a5 a6 b0 b1 b2 b3 b4 b5 b6 HBW2 HA2 HB2
    obtain ⟨hcx, hcy, hbw, hA, hB⟩ := HX.out w3 hb3
    have a0 := hcx.cell 0 (v := o0) rfl; have a1 := hcx.cell 1 (v := o1) rfl; have a2 := hcx.cell 2 (v := o2) rfl; have a3 := hcx.cell 3 (v := o3) rfl; have a4 := hcx.cell 4 (v := o4) rfl; have a5 := hcx.cell 5 (v := o5) rfl; have a6 := hcx.cell 6 (v := o6) rfl
    have b0 := hcy.cell 0 (v := n0) rfl; have b1 := hcy.cell 1 (v := n1) rfl; have b2 := hcy.cell 2 (v := n2) rfl; have b3 := hcy.cell 3 (v := n3) rfl; have b4 := hcy.cell 4 (v := n4) rfl; have b5 := hcy.cell 5 (v := n5) rfl; have b6 := hcy.cell 6 (v := n6) rfl
    have HBW3 := Lib.hid hbw
    have HA3 := Lib.hid hA
    have HB3 := Lib.hid hB
    clear hcx hcy hbw hA hB
    obtain ⟨G2, hG2⟩ : ∃ G, G = decide (greatV vb 80 30 < 0) := ⟨_, rfl⟩
    rw [← hG2]
    clear hG2
    cases G2 with
    | true =>
      clear a0 a1 a2 a3 a4 a5 a6 b0 b1 b2 b3 b4 b5 b6
      go_wp2_with fail
      go_ret
      exact ⟨rfl, HBW3.out⟩
    | false =>
      go_wp2_with fail
      refine (right_op HA3.out).mono ?_
      rintro e w4 ⟨rfl, hbx⟩
      have hb4 := hb3.trans (hbx.mono hb3.size)
      clear hbx a0 a1 a2 a3 a4 a5 a6 b0 b1 b2 b3 b4 b5 b6 HBW3 HA3 HB3
      obtain ⟨hcx, hcy, hbw, hA, hB⟩ := HX.out w4 hb4
      have a0 := hcx.cell 0 (v := o0) rfl; have a1 := hcx.cell 1 (v := o1) rfl; have a2 := hcx.cell 2 (v := o2) rfl; have a3 := hcx.cell 3 (v := o3) rfl; have a4 := hcx.cell 4 (v := o4) rfl; have a5 := hcx.cell 5 (v := o5) rfl; have a6 := hcx.cell 6 (v := o6) rfl
      have b0 := hcy.cell 0 (v := n0) rfl; have b1 := hcy.cell 1 (v := n1) rfl; have b2 := hcy.cell 2 (v := n2) rfl; have b3 := hcy.cell 3 (v := n3) rfl; have b4 := hcy.cell 4 (v := n4) rfl; have b5 := hcy.cell 5 (v := n5) rfl; have b6 := hcy.cell 6 (v := n6) rfl
      have HBW4 := Lib.hid hbw
      have HA4 := Lib.hid hA
      have HB4 := Lib.hid hB
      clear hcx hcy hbw hA hB
      obtain ⟨R1, hR1⟩ : ∃ G, G = rightV va := ⟨_, rfl⟩
      rw [← hR1]
      have HR1 := Lib.hid hR1
      clear hR1
      cases R1 with
      | false =>
        clear a0 a1 a2 a3 a4 a5 a6 b0 b1 b2 b3 b4 b5 b6
        go_wp2_with fail
        go_ret
        exact ⟨rfl, HBW4.out⟩
      | true =>
        go_wp2_with fail
        refine (right_op HB4.out).mono ?_
        rintro e w5 ⟨rfl, hbx⟩
        have hb5 := hb4.trans (hbx.mono hb4.size)
        clear hbx a0 a1 a2 a3 a4 a5 a6 b0 b1 b2 b3 b4 b5 b6 HBW4 HA4 HB4
        obtain ⟨hcx, hcy, hbw, hA, hB⟩ := HX.out w5 hb5
        have a0 := hcx.cell 0 (v := o0) rfl; have a1 := hcx.cell 1 (v := o1) rfl; have a2 := hcx.cell 2 (v := o2) rfl; have a3 := hcx.cell 3 (v := o3) rfl; have a4 := hcx.cell 4 (v := o4) rfl; have a5 := hcx.cell 5 (v := o5) rfl; have a6 := hcx.cell 6 (v := o6) rfl
        have b0 := hcy.cell 0 (v := n0) rfl; have b1 := hcy.cell 1 (v := n1) rfl; have b2 := hcy.cell 2 (v := n2) rfl; have b3 := hcy.cell 3 (v := n3) rfl; have b4 := hcy.cell 4 (v := n4) rfl; have b5 := hcy.cell 5 (v := n5) rfl; have b6 := hcy.cell 6 (v := n6) rfl
        have HBW5 := Lib.hid hbw
        have HA5 := Lib.hid hA
        have HB5 := Lib.hid hB
        clear hcx hcy hbw hA hB
        obtain ⟨R2, hR2⟩ : ∃ G, G = rightV vb := ⟨_, rfl⟩
        rw [← hR2]
        have HR2 := Lib.hid hR2
        clear hR2
        cases R2 with
        | false =>
          clear a0 a1 a2 a3 a4 a5 a6 b0 b1 b2 b3 b4 b5 b6
          go_wp2_with fail
          go_ret
          exact ⟨rfl, HBW5.out⟩
        | true =>
          by_cases hC : cmpV va vb = 0
          · have hsw := swapped_op HA5.out HB5.out H21.out
            rw [if_pos hC] at hsw
            have HCC : Hid ((cmpV va vb == 0) = true) := by show _ = _; simpa using hC
            have hrt : ∀ W, VV (fun _ => True) W #[o0, o1, o2, o3, o4, o5, o6] va → VV (fun _ => True) W #[n0, n1, n2, n3, n4, n5, n6] vb → Calls Try.prog 37 #[.agg #[.int .i64 0, .int .i64 0, .int .u64 0, .string ⟨#[]⟩, .slice none 0 0, .string ⟨#[]⟩, .slice none 0 0, .slice none 0 0, .int .i64 0, .int .u64 0, .string ⟨#[]⟩, .slice none 0 0, .string ⟨#[]⟩, .slice none 0 0, .slice none 0 0, .slice none 0 0, .bool false, .string ⟨#[]⟩, .string ⟨#[]⟩, .slice none 0 0, .slice none 0 0]] W fun e w' => e = .returned (.bool true) ∧ Below W.heap.size W w' := fun W hA hB => by
              exact eright_0 W
            have h1 : (#[.int .i64 0, .int .i64 0, .int .u64 0, .string ⟨#[]⟩, .slice none 0 0, .string ⟨#[]⟩, .slice none 0 0, .slice none 0 0, .int .i64 0, .int .u64 0, .string ⟨#[]⟩, .slice none 0 0, .string ⟨#[]⟩, .slice none 0 0, .slice none 0 0, .slice none 0 0, .bool false, .string ⟨#[]⟩, .string ⟨#[]⟩, .slice none 0 0, .slice none 0 0] : Array Value).all (·.oneCell') = true := by simp [Value.oneCell']
            obtain ⟨RR, hRR⟩ : ∃ A, A = (#[.int .i64 0, .int .i64 0, .int .u64 0, .string ⟨#[]⟩, .slice none 0 0, .string ⟨#[]⟩, .slice none 0 0, .slice none 0 0, .int .i64 0, .int .u64 0, .string ⟨#[]⟩, .slice none 0 0, .string ⟨#[]⟩, .slice none 0 0, .slice none 0 0, .slice none 0 0, .bool false, .string ⟨#[]⟩, .string ⟨#[]⟩, .slice none 0 0, .slice none 0 0] : Array Value) := ⟨_, rfl⟩
            have sR : RR.size = 21 := by rw [hRR]; rfl
            rw [← hRR] at hsw hrt h1
            have HEQ : Hid (∀ W : World, Calls Try.prog 38 #[.agg RR, .agg #[.int .i64 0, .int .i64 0, .int .u64 0, .string ⟨#[]⟩, .slice none 0 0, .string ⟨#[]⟩, .slice none 0 0, .slice none 0 0, .int .i64 0, .int .u64 0, .string ⟨#[]⟩, .slice none 0 0, .string ⟨#[]⟩, .slice none 0 0, .slice none 0 0, .slice none 0 0, .bool false, .string ⟨#[]⟩, .string ⟨#[]⟩, .slice none 0 0, .slice none 0 0]] W fun e w' => e = .returned (.bool true) ∧ Below W.heap.size W w') := fun W => by rw [hRR]; exact equal_z W
            have HRT := Lib.hid hrt
            have HSW := Lib.hid hsw
            have HRR := Lib.hid hRR
            clear hC hsw hrt hRR
            go_wp2_with fail
            refine HSW.out.mono ?_
            rintro e w6 ⟨rfl, hbx⟩
            have hb6 := hb5.trans (hbx.mono hb5.size)
            clear hbx a0 a1 a2 a3 a4 a5 a6 b0 b1 b2 b3 b4 b5 b6 HBW5 HA5 HB5 HSW
            go_upto_region 6 with (first | (refine wpList_storeW rfl 60 _ _ rfl w6.heap.size (by rfl) RR (by rfl) 60 #[.int .i64 0, .int .i64 0, .int .u64 0, .string ⟨#[]⟩, .slice none 0 0, .string ⟨#[]⟩, .slice none 0 0, .slice none 0 0, .int .i64 0, .int .u64 0, .string ⟨#[]⟩, .slice none 0 0, .string ⟨#[]⟩, .slice none 0 0, .slice none 0 0, .slice none 0 0, .bool false, .string ⟨#[]⟩, .string ⟨#[]⟩, .slice none 0 0, .slice none 0 0] (CellsAt.new w6 _ _) (by rw [sR]; rfl) (by rw [sR]; exact sizeE) h1 ?_; intro W7 hc7 hg7))
            have hb67 : Below w6.heap.size w6 W7 := ((Below.refl _ _).alloc (Nat.le_refl _) _).grown hg7 (by simp) (fun k hk => by cases hk; exact Nat.le_refl _)
            have hb7 := hb6.trans (hb67.mono hb6.size)
            obtain ⟨g7, hgw⟩ : ∃ g7, g7 = w6.heap.size := ⟨_, rfl⟩
            rw [← hgw] at hc7 ⊢
            have HZ : Hid (∀ W, Below W7.heap.size W7 W → CellsAt W g7 60 RR) := fun W hb => hc7.stays hb
            clear hg7 hb67 hb6 hgw
            obtain ⟨-, -, hbw, hA, hB⟩ := HX.out W7 hb7
            have HRT7 := Lib.hid (HRT.out W7 hA hB)
            clear hbw hA hB HRT
            go_wp2_with (first | (refine wpList_loadW rfl 60 _ rfl g7 (by rfl) 60 _ hc7 _ Try.underlying60 rfl (by rw [sR]; exact sizeE) ?_))
            refine HRT7.out.mono ?_
            rintro e w8 ⟨rfl, hb78⟩
            clear hc7 HRT7
            have hb8 := hb7.trans (hb78.mono hb7.size)
            obtain ⟨hcx, hcy, hbw, hA, hB⟩ := HX.out w8 hb8
            have a0 := hcx.cell 0 (v := o0) rfl; have a1 := hcx.cell 1 (v := o1) rfl; have a2 := hcx.cell 2 (v := o2) rfl; have a3 := hcx.cell 3 (v := o3) rfl; have a4 := hcx.cell 4 (v := o4) rfl; have a5 := hcx.cell 5 (v := o5) rfl; have a6 := hcx.cell 6 (v := o6) rfl
            have b0 := hcy.cell 0 (v := n0) rfl; have b1 := hcy.cell 1 (v := n1) rfl; have b2 := hcy.cell 2 (v := n2) rfl; have b3 := hcy.cell 3 (v := n3) rfl; have b4 := hcy.cell 4 (v := n4) rfl; have b5 := hcy.cell 5 (v := n5) rfl; have b6 := hcy.cell 6 (v := n6) rfl
            have HSM := Lib.hid (same_op hA hB)
            rw [HCC.out] at HSM
            clear hcx hcy hbw hA hB
            go_wp2_with fail
            refine HSM.out.mono ?_
            rintro e w9 ⟨rfl, hb89⟩
            clear a0 a1 a2 a3 a4 a5 a6 b0 b1 b2 b3 b4 b5 b6 HSM
            have hb79 := hb78.trans (hb89.mono hb78.size)
            have hb9 := hb7.trans (hb79.mono hb7.size)
            have hc9 := HZ.out w9 hb79
            clear hb78 hb89
            have HL := Lib.hid hb9
            clear hb79 hb9
            go_wp2_with (first | (refine wpList_loadW rfl 60 _ rfl g7 (by rfl) 60 _ hc9 _ Try.underlying60 rfl (by rw [sR]; exact sizeE) ?_))
            refine (HEQ.out _).mono ?_
            rintro e w10 ⟨rfl, hbx⟩
            have hb10 := HL.out.trans (hbx.mono HL.out.size)
            have HBW := Lib.hid (HX.out w10 hb10).2.2.1
            clear hb10 hbx hc9
            go_wp2_with fail
            go_ret
            exact ⟨rfl, HBW.out⟩
          · have hsw := swapped_op HA5.out HB5.out H21.out
            rw [if_neg hC] at hsw
            have HCC : Hid ((cmpV va vb == 0) = false) := by show _ = _; simpa using hC
            have hrt : ∀ W, VV (fun _ => True) W #[o0, o1, o2, o3, o4, o5, o6] va → VV (fun _ => True) W #[n0, n1, n2, n3, n4, n5, n6] vb → Calls Try.prog 37 #[.agg #[.int .i64 1, o0, o1, o2, o3, o4, o5, o6, n0, n1, n2, n3, n4, n5, n6, .slice none 0 0, .bool false, .string ⟨#[]⟩, .string ⟨#[]⟩, .slice none 0 0, .slice none 0 0]] W fun e w' => e = .returned (.bool true) ∧ Below W.heap.size W w' := fun W hA hB => by
              have h := eright_1 hA hB; rwa [← HR1.out, ← HR2.out, HCC.out] at h
            have h1 : (#[.int .i64 1, o0, o1, o2, o3, o4, o5, o6, n0, n1, n2, n3, n4, n5, n6, .slice none 0 0, .bool false, .string ⟨#[]⟩, .string ⟨#[]⟩, .slice none 0 0, .slice none 0 0] : Array Value).all (·.oneCell') = true := by exact H21.out
            obtain ⟨RR, hRR⟩ : ∃ A, A = (#[.int .i64 1, o0, o1, o2, o3, o4, o5, o6, n0, n1, n2, n3, n4, n5, n6, .slice none 0 0, .bool false, .string ⟨#[]⟩, .string ⟨#[]⟩, .slice none 0 0, .slice none 0 0] : Array Value) := ⟨_, rfl⟩
            have sR : RR.size = 21 := by rw [hRR]; rfl
            rw [← hRR] at hsw hrt h1
            have HRT := Lib.hid hrt
            have HSW := Lib.hid hsw
            have HRR := Lib.hid hRR
            clear hC hsw hrt hRR
            go_wp2_with fail
            refine HSW.out.mono ?_
            rintro e w6 ⟨rfl, hbx⟩
            have hb6 := hb5.trans (hbx.mono hb5.size)
            clear hbx a0 a1 a2 a3 a4 a5 a6 b0 b1 b2 b3 b4 b5 b6 HBW5 HA5 HB5 HSW
            go_upto_region 6 with (first | (refine wpList_storeW rfl 60 _ _ rfl w6.heap.size (by rfl) RR (by rfl) 60 #[.int .i64 0, .int .i64 0, .int .u64 0, .string ⟨#[]⟩, .slice none 0 0, .string ⟨#[]⟩, .slice none 0 0, .slice none 0 0, .int .i64 0, .int .u64 0, .string ⟨#[]⟩, .slice none 0 0, .string ⟨#[]⟩, .slice none 0 0, .slice none 0 0, .slice none 0 0, .bool false, .string ⟨#[]⟩, .string ⟨#[]⟩, .slice none 0 0, .slice none 0 0] (CellsAt.new w6 _ _) (by rw [sR]; rfl) (by rw [sR]; exact sizeE) h1 ?_; intro W7 hc7 hg7))
            have hb67 : Below w6.heap.size w6 W7 := ((Below.refl _ _).alloc (Nat.le_refl _) _).grown hg7 (by simp) (fun k hk => by cases hk; exact Nat.le_refl _)
            have hb7 := hb6.trans (hb67.mono hb6.size)
            obtain ⟨g7, hgw⟩ : ∃ g7, g7 = w6.heap.size := ⟨_, rfl⟩
            rw [← hgw] at hc7 ⊢
            have HZ : Hid (∀ W, Below W7.heap.size W7 W → CellsAt W g7 60 RR) := fun W hb => hc7.stays hb
            clear hg7 hb67 hb6 hgw
            obtain ⟨-, -, hbw, hA, hB⟩ := HX.out W7 hb7
            have HRT7 := Lib.hid (HRT.out W7 hA hB)
            clear hbw hA hB HRT
            go_wp2_with (first | (refine wpList_loadW rfl 60 _ rfl g7 (by rfl) 60 _ hc7 _ Try.underlying60 rfl (by rw [sR]; exact sizeE) ?_))
            refine HRT7.out.mono ?_
            rintro e w8 ⟨rfl, hb78⟩
            clear hc7 HRT7
            have hb8 := hb7.trans (hb78.mono hb7.size)
            obtain ⟨hcx, hcy, hbw, hA, hB⟩ := HX.out w8 hb8
            have a0 := hcx.cell 0 (v := o0) rfl; have a1 := hcx.cell 1 (v := o1) rfl; have a2 := hcx.cell 2 (v := o2) rfl; have a3 := hcx.cell 3 (v := o3) rfl; have a4 := hcx.cell 4 (v := o4) rfl; have a5 := hcx.cell 5 (v := o5) rfl; have a6 := hcx.cell 6 (v := o6) rfl
            have b0 := hcy.cell 0 (v := n0) rfl; have b1 := hcy.cell 1 (v := n1) rfl; have b2 := hcy.cell 2 (v := n2) rfl; have b3 := hcy.cell 3 (v := n3) rfl; have b4 := hcy.cell 4 (v := n4) rfl; have b5 := hcy.cell 5 (v := n5) rfl; have b6 := hcy.cell 6 (v := n6) rfl
            have HSM := Lib.hid (same_op hA hB)
            rw [HCC.out] at HSM
            clear hcx hcy hbw hA hB
            go_wp2_with fail
            refine HSM.out.mono ?_
            rintro e w9 ⟨rfl, hb89⟩
            clear a0 a1 a2 a3 a4 a5 a6 b0 b1 b2 b3 b4 b5 b6 HSM
            have hb79 := hb78.trans (hb89.mono hb78.size)
            have hb9 := hb7.trans (hb79.mono hb7.size)
            have hc9 := HZ.out w9 hb79
            have z0 := hc9.cell 0 (v := .int .i64 1) (by rw [HRR.out]; rfl); have z1 := hc9.cell 1 (v := o0) (by rw [HRR.out]; rfl); have z2 := hc9.cell 2 (v := o1) (by rw [HRR.out]; rfl); have z3 := hc9.cell 3 (v := o2) (by rw [HRR.out]; rfl); have z4 := hc9.cell 4 (v := o3) (by rw [HRR.out]; rfl); have z5 := hc9.cell 5 (v := o4) (by rw [HRR.out]; rfl); have z6 := hc9.cell 6 (v := o5) (by rw [HRR.out]; rfl); have z7 := hc9.cell 7 (v := o6) (by rw [HRR.out]; rfl); have z8 := hc9.cell 8 (v := n0) (by rw [HRR.out]; rfl); have z9 := hc9.cell 9 (v := n1) (by rw [HRR.out]; rfl); have z10 := hc9.cell 10 (v := n2) (by rw [HRR.out]; rfl); have z11 := hc9.cell 11 (v := n3) (by rw [HRR.out]; rfl); have z12 := hc9.cell 12 (v := n4) (by rw [HRR.out]; rfl); have z13 := hc9.cell 13 (v := n5) (by rw [HRR.out]; rfl); have z14 := hc9.cell 14 (v := n6) (by rw [HRR.out]; rfl)
            clear hb78 hb89 hc9
            obtain ⟨hcx, hcy, hbw, hA, hB⟩ := HX.out w9 hb9
            have a0 := hcx.cell 0 (v := o0) rfl; have a1 := hcx.cell 1 (v := o1) rfl; have a2 := hcx.cell 2 (v := o2) rfl; have a3 := hcx.cell 3 (v := o3) rfl; have a4 := hcx.cell 4 (v := o4) rfl; have a5 := hcx.cell 5 (v := o5) rfl; have a6 := hcx.cell 6 (v := o6) rfl
            have sA := same_op hA hA
            rw [show (cmpV va va == 0) = true from by simp [cmpV_self]] at sA
            have SA := Lib.hid sA
            clear hcx hcy hbw hA hB sA
            have HL := Lib.hid hb79
            have HL9 := Lib.hid hb9
            clear hb79 hb9
            go_wp2_with fail
            refine SA.out.mono ?_
            rintro e w10 ⟨rfl, hbx⟩
            have hb710 := HL.out.trans (hbx.mono HL.out.size)
            have hb10 := HL9.out.trans (hbx.mono HL9.out.size)
            clear z0 z1 z2 z3 z4 z5 z6 z7 z8 z9 z10 z11 z12 z13 z14 a0 a1 a2 a3 a4 a5 a6
            obtain ⟨hcx, hcy, hbw, hA, hB⟩ := HX.out w10 hb10
            have hc10 := HZ.out w10 hb710
            have z8 := hc10.cell 8 (v := n0) (by rw [HRR.out]; rfl); have z9 := hc10.cell 9 (v := n1) (by rw [HRR.out]; rfl); have z10 := hc10.cell 10 (v := n2) (by rw [HRR.out]; rfl); have z11 := hc10.cell 11 (v := n3) (by rw [HRR.out]; rfl); have z12 := hc10.cell 12 (v := n4) (by rw [HRR.out]; rfl); have z13 := hc10.cell 13 (v := n5) (by rw [HRR.out]; rfl); have z14 := hc10.cell 14 (v := n6) (by rw [HRR.out]; rfl)
            have b0 := hcy.cell 0 (v := n0) rfl; have b1 := hcy.cell 1 (v := n1) rfl; have b2 := hcy.cell 2 (v := n2) rfl; have b3 := hcy.cell 3 (v := n3) rfl; have b4 := hcy.cell 4 (v := n4) rfl; have b5 := hcy.cell 5 (v := n5) rfl; have b6 := hcy.cell 6 (v := n6) rfl
            have sB := same_op hB hB
            rw [show (cmpV vb vb == 0) = true from by simp [cmpV_self]] at sB
            have SB := Lib.hid sB
            have HL10 := Lib.hid hb10
            clear hcx hcy hbw hA hB sB hc10 hb710 hb10 hbx SA
            go_wp2_with fail
            refine SB.out.mono ?_
            rintro e w11 ⟨rfl, hbx⟩
            have hb11 := HL10.out.trans (hbx.mono HL10.out.size)
            have HBW := Lib.hid (HX.out w11 hb11).2.2.1
            clear hb11 hbx z8 z9 z10 z11 z12 z13 z14 b0 b1 b2 b3 b4 b5 b6
            go_wp2_with fail
            go_ret
            exact ⟨rfl, HBW.out⟩
end Go.Proofs.Ytcnjlbbckdmifaa
