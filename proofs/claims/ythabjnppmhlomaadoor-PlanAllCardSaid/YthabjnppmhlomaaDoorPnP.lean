/- The document's edges; which are right. -/
import Derived.Test.YthabjnppmhlomaaDoorPnO
namespace Go.Proofs.YthabjnppmhlomaaDoor
open Go Go.RowKit
set_option linter.unusedVariables false
theorem infoRE : (Tryd.prog.info? 67).map (fun i => (i.zero, i.size, i.bytes)) = some (some (.agg #[.int .i64 0, .int .i64 0, .int .i64 0]), 3, 24) := by kernel_rfl
section
variable {w : World} {L : List Eg} {la : Option Addr} {lc : Nat}
set_option maxRecDepth 100000 in
theorem ofE_any (hr : RowS eC w (.slice la L.length lc) L) (hl : L.length ≤ 3000) :
    Calls Tryd.prog 10 #[.slice la L.length lc] w fun e w' => ∃ v', e = .returned v' ∧ OwnS 67 3 eC w.heap.size w' v' L ∧ Below w.heap.size w w' := by
  have HR : Hid (∀ W, Below w.heap.size w W → RowS eC W (.slice la L.length lc) L) := fun W hb => hr.stays hb
  have hm : OwnS 67 3 eC w.heap.size (w.alloc (.cells #[] 67)) (.slice (some ⟨w.heap.size, 0, none⟩) 0 0) [] := World.ownsRow_made (base := w.heap.size) (e := 67) (size := 3) w #[] 0 (Nat.le_refl _) (Nat.zero_le _) rfl
  have hbA : Below w.heap.size w (w.alloc (.cells #[] 67)) := (Below.refl _ _).alloc (Nat.le_refl _) _
  clear hr
  go_enter Tryd.func10, Tryd.ntmps10
  go_wp2_with fail
  generalize w.alloc (.cells #[] 67) = wm at hm hbA ⊢
  generalize Value.slice (some ⟨w.heap.size, 0, none⟩) 0 0 = vm at hm ⊢
  go_loopw [3, 9] (fun v i wr => ∃ k : Nat, k ≤ L.length ∧ i = .int .i64 k ∧ OwnS 67 3 eC w.heap.size wr v (L.take k) ∧ Below w.heap.size w wr) (fun _ i _ => L.length - (intOf i).toNat)
  case atStart => exact ⟨0, Nat.zero_le _, rfl, by simpa using hm, hbA⟩
  case round =>
    clear hm hbA
    obtain ⟨k, hk, rfl, how, hbe⟩ := hrel
    have hsz := hbe.size
    by_cases h1 : k < L.length
    · obtain ⟨e, hq⟩ : ∃ e, L[k]? = some e := ⟨_, List.getElem?_eq_getElem h1⟩
      obtain ⟨gb, ob, rfl, -, d0, d1, d2⟩ := edgeAt (HR.out wr hbe) hq
      have how2 := how.alloc (.cells #[.int .i64 e.src, .int .i64 e.dst, .int .i64 e.cost] 52)
      have hbW := hbe.alloc hbe.size (.cells #[.int .i64 e.src, .int .i64 e.dst, .int .i64 e.cost] 52)
      have htl : (L.take k).length = k := by rw [List.length_take]; omega
      have HTL := Lib.hid htl
      have HN : Hid (L.take (k + 1) = L.take k ++ [e]) := take_next hq
      have hsW : w.heap.size ≤ (wr.alloc (.cells #[.int .i64 e.src, .int .i64 e.dst, .int .i64 e.cost] 52)).heap.size := by simp; omega
      have HSW := Lib.hid hsW
      clear hq hbe how htl hsW
      go_wp2_with (at_builtin; go_must (refine wpList_pushS eC_len eC_one Tryd.underlying33 infoRE rfl (by decide) how2 e (by rw [HTL.out]; omega) HSW.out rfl _ _ rfl (by rfl) _ _ _ (by rw [World.size_alloc]; rfl) (by rfl) ?_))
      intro v2 w2 how3 hg3 hn3
      have hb3 := OwnS.below how2 hbW hg3 HSW.out
      clear hg3 hn3 how2 hbW d0 d1 d2
      go_wp2_with fail
      go_roundw
      case rel => exact ⟨k + 1, h1, by go_num, by rw [HN.out]; exact how3, hb3⟩
      case measure => simp only [intOf]; omega
    · obtain rfl : k = L.length := by omega
      rw [List.take_length] at how
      have HO := Lib.hid how
      have HB := Lib.hid hbe
      clear how hbe
      go_wp2_with fail
      go_ret
      exact ⟨_, rfl, HO.out, HB.out⟩
set_option maxRecDepth 100000 in
set_option maxHeartbeats 1000000 in
theorem rright_any (hr : RowS eC w (.slice la L.length lc) L) (hl : L.length ≤ 3000) :
    Calls Tryd.prog 12 #[.slice la L.length lc] w fun e w' => e = .returned (.bool (rightL L)) ∧ Below w.heap.size w w' := by
  have HR : Hid (∀ W, Below w.heap.size w W → RowS eC W (.slice la L.length lc) L) := fun W hb => hr.stays hb
  obtain ⟨R, hR⟩ : ∃ R, R = rightL L := ⟨_, rfl⟩
  rw [← hR]
  have HRR := Lib.hid hR
  clear hr hR
  go_enter Tryd.func12, Tryd.ntmps12
  go_wp2_with fail
  go_loopw [10] (fun i wr => ∃ (m : Nat), m ≤ L.length ∧ i = .int .i64 m ∧ Hid (R = rightL (L.drop m)) ∧ Below w.heap.size w wr) (fun i _ => L.length - (intOf i).toNat)
  case atStart => exact ⟨0, Nat.zero_le _, rfl, HRR.out, Below.refl _ _⟩
  case round =>
    obtain ⟨m, hm, rfl, HI, hbe⟩ := hrel
    by_cases h1 : m < L.length
    · obtain ⟨⟨s, d, c⟩, hq⟩ : ∃ p, L[m]? = some p := ⟨_, List.getElem?_eq_getElem h1⟩
      obtain ⟨b, o, rfl, -, c0, c1, c2⟩ := edgeAt (HR.out wr hbe) hq
      have hI := HI.out
      have hdr : L.drop m = ⟨s, d, c⟩ :: L.drop (m + 1) := by
        rw [List.drop_eq_getElem_cons h1]
        rw [List.getElem?_eq_getElem h1] at hq
        rw [Option.some.inj hq]
      rw [hdr, rightL_cons] at hI
      have HBA : Hid (Below w.heap.size w (wr.alloc (.cells #[.int .i64 s, .int .i64 d, .int .i64 c] 67))) := hbe.alloc hbe.size _
      simp only at c0 c1 c2
      have hE : rightE1 ⟨s, d, c⟩ = (decide (-1 ≤ s) && decide (d < 400) && decide (s < d) && decide (0 ≤ c) && decide (c ≤ 1048576)) := rfl
      rw [hE] at hI
      clear HI hq hdr hbe hE HRR
      by_cases a1 : s < -1
      · have HZ : Hid (R = false) := by show _ = _; rw [hI]; simp; omega
        clear hI
        go_wp2_with fail
        go_ret
        exact ⟨congrArg (fun z => Ending.returned (Value.bool z)) HZ.out.symm, HBA.out⟩
      · by_cases a2 : d < 0
        · have HZ : Hid (R = false) := by show _ = _; rw [hI]; simp; omega
          clear hI
          go_wp2_with fail
          go_ret
          exact ⟨congrArg (fun z => Ending.returned (Value.bool z)) HZ.out.symm, HBA.out⟩
        · by_cases a3 : 399 < d
          · have HZ : Hid (R = false) := by show _ = _; rw [hI]; simp; omega
            clear hI
            go_wp2_with fail
            go_ret
            exact ⟨congrArg (fun z => Ending.returned (Value.bool z)) HZ.out.symm, HBA.out⟩
          · by_cases a4 : d ≤ s
            · have HZ : Hid (R = false) := by show _ = _; rw [hI]; simp; omega
              clear hI
              go_wp2_with fail
              go_ret
              exact ⟨congrArg (fun z => Ending.returned (Value.bool z)) HZ.out.symm, HBA.out⟩
            · by_cases a5 : c < 0
              · have HZ : Hid (R = false) := by show _ = _; rw [hI]; simp; omega
                clear hI
                go_wp2_with fail
                go_ret
                exact ⟨congrArg (fun z => Ending.returned (Value.bool z)) HZ.out.symm, HBA.out⟩
              · by_cases a6 : 1048576 < c
                · have HZ : Hid (R = false) := by show _ = _; rw [hI]; simp; omega
                  clear hI
                  go_wp2_with fail
                  go_ret
                  exact ⟨congrArg (fun z => Ending.returned (Value.bool z)) HZ.out.symm, HBA.out⟩
                · have HZ : Hid (R = rightL (L.drop (m + 1))) := by
                    show _ = _
                    rw [hI, decide_eq_true (show -1 ≤ s by omega), decide_eq_true (show d < 400 by omega), decide_eq_true (show s < d by omega), decide_eq_true (show 0 ≤ c by omega), decide_eq_true (show c ≤ 1048576 by omega)]
                    rfl
                  clear hI
                  go_wp2_with fail
                  go_roundw
                  case rel => exact ⟨m + 1, h1, by go_num, HZ, HBA.out⟩
                  case measure => simp only [intOf]; omega
    · have HZ : Hid (R = true) := by show _ = _; rw [HI.out, List.drop_of_length_le (by omega), rightL_nil]
      clear HI HRR
      go_wp2_with fail
      go_ret
      exact ⟨congrArg (fun z => Ending.returned (Value.bool z)) HZ.out.symm, hbe⟩
end
end Go.Proofs.YthabjnppmhlomaaDoor
