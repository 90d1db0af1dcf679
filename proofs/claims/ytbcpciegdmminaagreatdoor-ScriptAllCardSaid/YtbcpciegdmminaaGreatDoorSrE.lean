/- Scripts, the document's: which acts are the same. -/
import Derived.Test.YtbcpciegdmminaaGreatDoorSrD
import Derived.Test.YtbcpciegdmminaaGreatDoorSameZ
namespace Go.Proofs.YtbcpciegdmminaaGreatDoor
open Go Go.RowKit
set_option linter.unusedVariables false
set_option maxRecDepth 100000 in
set_option maxHeartbeats 4000000 in
theorem rsame_any {w : World} (k a b c n k' a' b' c' n' : Int) (bs bs' : Bs) {vk vt vk' vt' : Value} {keep keep' : List Int} {torn torn' : List (Int × Bs)} (hA : RActI w vk vt keep torn) (hA' : RActI w vk' vt' keep' torn')
    (l1 : keep.length ≤ 2000000) (l2 : keep'.length ≤ 2000000) (l3 : torn.length ≤ 2000000) (l4 : torn'.length ≤ 2000000) :
    Calls Tryz.prog 15 #[.agg (rCells k a b c n bs vk vt), .agg (rCells k' a' b' c' n' bs' vk' vt')] w fun e w' => e = .returned (.bool (sameA ⟨k, a, b, c, n, bs, keep, torn⟩ ⟨k', a', b', c', n', bs', keep', torn'⟩)) ∧ Below w.heap.size w w' := by
  obtain ⟨R, hR⟩ : ∃ R, R = sameA ⟨k, a, b, c, n, bs, keep, torn⟩ ⟨k', a', b', c', n', bs', keep', torn'⟩ := ⟨_, rfl⟩
  rw [← hR]
  have HR : Hid (R = ((k == k' && a == a' && b == b' && c == c' && n == n') && decide (bs = bs') && eqB keep keep' && decide (torn = torn'))) := hR
  obtain ⟨W0, hW0⟩ : ∃ W0, W0 = (w.alloc (.cells (rCells k a b c n bs vk vt) 31)).alloc (.cells (rCells k' a' b' c' n' bs' vk' vt') 31) := ⟨_, rfl⟩
  obtain ⟨g, hg⟩ : ∃ g, g = w.heap.size := ⟨_, rfl⟩
  obtain ⟨g', hg'⟩ : ∃ g', g' = w.heap.size + 1 := ⟨_, rfl⟩
  have hb : Below w.heap.size w W0 := by rw [hW0]; exact ((Below.refl _ _).alloc (Nat.le_refl _) _).alloc (by simp) _
  have hc : CellsAt W0 g 31 (rCells k a b c n bs vk vt) := by rw [hW0, hg]; exact CellsAt.stays (CellsAt.new w _ _) ((Below.refl _ _).alloc (Nat.le_refl _) _)
  have hc' : CellsAt W0 g' 31 (rCells k' a' b' c' n' bs' vk' vt') := by
    have := CellsAt.new (w.alloc (.cells (rCells k a b c n bs vk vt) 31)) (rCells k' a' b' c' n' bs' vk' vt') 31
    rw [hW0, hg']
    simpa using this
  obtain ⟨h2, h3⟩ := hA.stays hb
  obtain ⟨k2, k3⟩ := hA'.stays hb
  obtain ⟨ak, ck, rfl, -, -⟩ := h2.shape
  obtain ⟨at', ct, rfl, -, -⟩ := h3.shape rtC_len
  obtain ⟨ak', ck', rfl, -, -⟩ := k2.shape
  obtain ⟨at'', ct', rfl, -, -⟩ := k3.shape rtC_len
  have HE2 := Lib.hid (sameZ_any _ _ _ _ W0 h2 k2 (by omega) (by omega))
  have HT : Hid (∀ W, Below W0.heap.size W0 W → RowS rtC W (.slice at' torn.length ct) torn ∧ RowS rtC W (.slice at'' torn'.length ct') torn') := fun W h => ⟨h3.stays h, k3.stays h⟩
  have c0 := hc.cell 0 (v := .int .i64 k) rfl
  have c1 := hc.cell 1 (v := .int .i64 a) rfl
  have c2 := hc.cell 2 (v := .int .i64 b) rfl
  have c3 := hc.cell 3 (v := .int .i64 c) rfl
  have c4 := hc.cell 4 (v := .int .i64 n) rfl
  have c5 := hc.cell 5 (v := .string (strB bs)) rfl
  have d0 := hc'.cell 0 (v := .int .i64 k') rfl
  have d1 := hc'.cell 1 (v := .int .i64 a') rfl
  have d2 := hc'.cell 2 (v := .int .i64 b') rfl
  have d3 := hc'.cell 3 (v := .int .i64 c') rfl
  have d4 := hc'.cell 4 (v := .int .i64 n') rfl
  have d5 := hc'.cell 5 (v := .string (strB bs')) rfl
  have HC : Hid (∀ W, Below W0.heap.size W0 W → W.cell? ⟨g, 6, none⟩ = some (.slice ak keep.length ck) ∧ W.cell? ⟨g', 6, none⟩ = some (.slice ak' keep'.length ck') ∧ W.cell? ⟨g, 7, none⟩ = some (.slice at' torn.length ct) ∧ W.cell? ⟨g', 7, none⟩ = some (.slice at'' torn'.length ct')) := fun W h => ⟨(hc.stays h).cell 6 rfl, (hc'.stays h).cell 6 rfl, (hc.stays h).cell 7 rfl, (hc'.stays h).cell 7 rfl⟩
  obtain ⟨z1, z2, z3, z4⟩ := HC.out W0 (Below.refl _ _)
  have HW := Lib.hid hW0
  have HG := Lib.hid hg
  have HG' := Lib.hid hg'
  have HB := Lib.hid hb
  have hbb := strB_eqL bs bs'
  clear hR hW0 hg hg' hb hc hc' hA hA' h2 h3 k2 k3
  go_enter Tryz.func15, Tryz.ntmps15
  go_upto_region 1 with fail
  rw [← HW.out, ← HG'.out, ← HG.out]
  clear HW HG HG'
  by_cases s0 : k = k'
  · have e0 : (k == k') = true := by simpa using s0
    have e0n : (k != k') = false := by simp [s0]
    clear s0
    by_cases s1 : a = a'
    · have e1 : (a == a') = true := by simpa using s1
      have e1n : (a != a') = false := by simp [s1]
      clear s1
      by_cases s2 : b = b'
      · have e2 : (b == b') = true := by simpa using s2
        have e2n : (b != b') = false := by simp [s2]
        clear s2
        by_cases s3 : c = c'
        · have e3 : (c == c') = true := by simpa using s3
          have e3n : (c != c') = false := by simp [s3]
          clear s3
          by_cases s4 : n = n'
          · have e4 : (n == n') = true := by simpa using s4
            have e4n : (n != n') = false := by simp [s4]
            clear s4
            have HR2 : Hid (R = (decide (bs = bs') && eqB keep keep' && decide (torn = torn'))) := by show _ = _; rw [HR.out, e0, e1, e2, e3, e4]; rfl
            clear HR
            generalize decide (bs = bs') = B1 at HR2 hbb
            generalize eqB keep keep' = B2 at HR2 HE2
            cases B1 with
            | false =>
              have HZ : Hid (R = false) := by show _ = _; rw [HR2.out]; rfl
              clear HR2
              go_wp2_with fail
              go_ret
              exact ⟨congrArg (fun z => Ending.returned (Value.bool z)) HZ.out.symm, HB.out⟩
            | true =>
              go_wp2_with fail
              refine HE2.out.mono ?_
              rintro e w2 ⟨rfl, hb2⟩
              obtain ⟨y1, y2, y3, y4⟩ := HC.out w2 hb2
              have HB2 := Lib.hid (HB.out.trans (hb2.mono HB.out.size))
              have HB02 := Lib.hid hb2
              clear HE2 hb2 c0 c1 c2 c3 c4 c5 d0 d1 d2 d3 d4 d5 z1 z2 z3 z4
              cases B2 with
              | false =>
                have HZ : Hid (R = false) := by show _ = _; rw [HR2.out]; rfl
                clear HR2
                go_wp2_with fail
                go_ret
                exact ⟨congrArg (fun z => Ending.returned (Value.bool z)) HZ.out.symm, HB2.out⟩
              | true =>
                have HQ : Hid (R = decide (torn = torn')) := by show _ = _; rw [HR2.out]; rfl
                clear HR2
                by_cases hlen : torn.length = torn'.length
                · have q1 : ((torn.length : Int) != (torn'.length : Int)) = false := by rw [hlen]; exact bne_self_eq_false _
                  have HL := Lib.hid hlen
                  have HQ0 : Hid (decide (torn.drop 0 = torn'.drop 0) = R) := HQ.out.symm
                  clear hlen HQ
                  go_wp2_with fail
                  go_loopw [67] (fun x wr => ∃ m : Nat, m ≤ torn.length ∧ x = .int .i64 m ∧ Hid (decide (torn.drop m = torn'.drop m) = R) ∧ Below w2.heap.size w2 wr) (fun x _ => torn.length - (intOf x).toNat)
                  case atStart => exact ⟨0, Nat.zero_le _, rfl, HQ0.out, Below.refl _ _⟩
                  case round =>
                    obtain ⟨m, hm, rfl, HI, hbe⟩ := hrel
                    have hb0 := HB02.out.trans (hbe.mono HB02.out.size)
                    have HBW := Lib.hid (HB2.out.trans (hbe.mono HB2.out.size))
                    by_cases h1 : m < torn.length
                    · have h2 : m < torn'.length := by rw [← HL.out]; exact h1
                      obtain ⟨⟨z, zs⟩, hx⟩ : ∃ x, torn[m]? = some x := ⟨_, List.getElem?_eq_getElem h1⟩
                      obtain ⟨⟨z', zs'⟩, hy⟩ : ∃ x, torn'[m]? = some x := ⟨_, List.getElem?_eq_getElem h2⟩
                      obtain ⟨r1, r2⟩ := HT.out wr hb0
                      obtain ⟨y1, y2, y3, y4⟩ := HC.out wr hb0
                      obtain ⟨aq, cq, hv, -, hcl⟩ := r1.shape rtC_len
                      cases hv
                      obtain ⟨b', o, rfl, hcx⟩ := hcl m _ hx
                      obtain ⟨aq2, cq2, hv2, -, hcl2⟩ := r2.shape rtC_len
                      cases hv2
                      obtain ⟨b2, o2, rfl, hcy⟩ := hcl2 m _ hy
                      have x0 := hcx 0 _ rfl
                      have x1 := hcx 1 _ rfl
                      have x2 := hcy 0 _ rfl
                      have x3 := hcy 1 _ rfl
                      have hbb1 : b' < wr.heap.size := World.block_lt_of_cell? wr _ x0
                      have hbb2 : b2 < wr.heap.size := World.block_lt_of_cell? wr _ x2
                      have hgg : g' < wr.heap.size := World.block_lt_of_cell? wr _ y4
                      replace x0 : wr.cell? ⟨b', o + m * 2, none⟩ = some (.int .i64 z) := x0
                      replace x1 : wr.cell? ⟨b', o + m * 2 + 1, none⟩ = some (.string (strB zs)) := x1
                      replace x2 : wr.cell? ⟨b2, o2 + m * 2, none⟩ = some (.int .i64 z') := x2
                      replace x3 : wr.cell? ⟨b2, o2 + m * 2 + 1, none⟩ = some (.string (strB zs')) := x3
                      have hI := HI.out
                      have hI3 : decide (torn.drop m = torn'.drop m) = ((decide (z = z') && decide (zs = zs')) && decide (torn.drop (m + 1) = torn'.drop (m + 1))) := by
                        rw [← Bool.decide_and, ← Bool.decide_and]
                        have := drop_eq hx hy
                        rw [Prod.mk.injEq] at this
                        exact decide_eq_decide.2 this
                      rw [hI3] at hI
                      have hzz := strB_eqL zs zs'
                      have m0 : (0 : Int) ≤ (m : Int) := by omega
                      have m1 : (m : Int) < (torn'.length : Int) := by omega
                      have m2 : (m : Int) < (torn.length : Int) := by omega
                      clear HI hx hy hcx hcl hcy hcl2 r1 r2 hI3 hb0
                      have HBA : Hid (∀ x : Array Value, Below w2.heap.size w2 (wr.alloc (.cells x 59))) := fun x => hbe.alloc hbe.size _
                      by_cases hz : z = z'
                      · have ez : (z == z') = true := by simpa using hz
                        rw [decide_eq_true hz, Bool.true_and] at hI
                        clear hz
                        by_cases hs : zs = zs'
                        · rw [decide_eq_true hs] at hzz
                          rw [decide_eq_true hs, Bool.true_and] at hI
                          have HI2 := Lib.hid hI
                          clear hI hs
                          go_wp2_with fail
                          go_quiet (fail)
                          go_wp2_with fail
                          go_roundw
                          case rel => exact ⟨m + 1, h1, by go_num, HI2.out, below_drewS (HBA.out _)⟩
                          case measure => simp only [intOf]; omega
                        · rw [decide_eq_false hs] at hzz
                          have HZ : Hid (R = false) := by show _ = _; rw [← hI, decide_eq_false hs]; rfl
                          clear hI hs
                          go_wp2_with fail
                          go_quiet (fail)
                          go_wp2_with fail
                          go_ret
                          exact ⟨congrArg (fun z => Ending.returned (Value.bool z)) HZ.out.symm, below_drewS (HBW.out.alloc HBW.out.size _)⟩
                      · have ez : (z == z') = false := by simpa using hz
                        have HZ : Hid (R = false) := by show _ = _; rw [← hI, decide_eq_false hz]; rfl
                        clear hI hz
                        go_wp2_with fail
                        go_quiet (fail)
                        go_wp2_with fail
                        go_ret
                        exact ⟨congrArg (fun z => Ending.returned (Value.bool z)) HZ.out.symm, below_drewS (HBW.out.alloc HBW.out.size _)⟩
                    · have HZ : Hid (R = true) := by show _ = _; rw [← HI.out, List.drop_of_length_le (by omega), List.drop_of_length_le (by rw [← HL.out]; omega)]; rfl
                      clear HI hb0
                      go_wp2_with fail
                      go_ret
                      exact ⟨congrArg (fun z => Ending.returned (Value.bool z)) HZ.out.symm, HBW.out⟩
                · have q1 : ((torn.length : Int) != (torn'.length : Int)) = true := by simpa using (show ¬ (torn.length : Int) = (torn'.length : Int) from by omega)
                  have HZ : Hid (R = false) := by show _ = _; rw [HQ.out]; exact decide_eq_false (fun e => hlen (by rw [e]))
                  clear HQ hlen
                  go_wp2_with fail
                  go_ret
                  exact ⟨congrArg (fun z => Ending.returned (Value.bool z)) HZ.out.symm, HB2.out⟩
          · have e4 : (n == n') = false := by simpa using s4
            have e4n : (n != n') = true := by simpa using s4
            clear s4
            have HZ : Hid (R = false) := by show _ = _; rw [HR.out, e0, e1, e2, e3, e4]; simp
            clear HR
            go_wp2_with fail
            go_ret
            exact ⟨congrArg (fun z => Ending.returned (Value.bool z)) HZ.out.symm, HB.out⟩
        · have e3 : (c == c') = false := by simpa using s3
          have e3n : (c != c') = true := by simpa using s3
          clear s3
          have HZ : Hid (R = false) := by show _ = _; rw [HR.out, e0, e1, e2, e3]; simp
          clear HR
          go_wp2_with fail
          go_ret
          exact ⟨congrArg (fun z => Ending.returned (Value.bool z)) HZ.out.symm, HB.out⟩
      · have e2 : (b == b') = false := by simpa using s2
        have e2n : (b != b') = true := by simpa using s2
        clear s2
        have HZ : Hid (R = false) := by show _ = _; rw [HR.out, e0, e1, e2]; simp
        clear HR
        go_wp2_with fail
        go_ret
        exact ⟨congrArg (fun z => Ending.returned (Value.bool z)) HZ.out.symm, HB.out⟩
    · have e1 : (a == a') = false := by simpa using s1
      have e1n : (a != a') = true := by simpa using s1
      clear s1
      have HZ : Hid (R = false) := by show _ = _; rw [HR.out, e0, e1]; simp
      clear HR
      go_wp2_with fail
      go_ret
      exact ⟨congrArg (fun z => Ending.returned (Value.bool z)) HZ.out.symm, HB.out⟩
  · have e0 : (k == k') = false := by simpa using s0
    have e0n : (k != k') = true := by simpa using s0
    clear s0
    have HZ : Hid (R = false) := by show _ = _; rw [HR.out, e0]; simp
    clear HR
    go_wp2_with fail
    go_ret
    exact ⟨congrArg (fun z => Ending.returned (Value.bool z)) HZ.out.symm, HB.out⟩
end Go.Proofs.YtbcpciegdmminaaGreatDoor
