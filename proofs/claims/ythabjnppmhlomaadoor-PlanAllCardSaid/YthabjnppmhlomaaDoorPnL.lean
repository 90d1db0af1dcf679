/- Which edges are right: the program's. -/
import Derived.Test.YthabjnppmhlomaaDoorPnH
namespace Go.Proofs.YthabjnppmhlomaaDoor
open Go Go.RowKit
set_option linter.unusedVariables false
def rightE1 (e : Eg) : Bool := decide (-1 ≤ e.src) && decide (e.dst < 400) && decide (e.src < e.dst) && decide (0 ≤ e.cost) && decide (e.cost ≤ 1048576)
def rightL (L : List Eg) : Bool := L.all rightE1
theorem rightL_cons (e : Eg) (L : List Eg) : rightL (e :: L) = (rightE1 e && rightL L) := rfl
theorem rightL_nil : rightL [] = true := rfl
theorem rightL_iff (L : List Eg) : rightL L = true ↔ RightE L := by
  unfold rightL RightE
  rw [List.all_eq_true]
  refine forall_congr' fun e => forall_congr' fun _ => ?_
  unfold rightE1
  simp only [Bool.and_eq_true, decide_eq_true_eq]
  omega
/-- the edges' row, one by one -/
theorem edgeAt {w : World} {a : Option Addr} {n c : Nat} {L : List Eg} (h : RowS eC w (.slice a n c) L) {i : Nat} {e : Eg} (he : L[i]? = some e) : ∃ b o, a = some ⟨b, o, none⟩ ∧ n = L.length ∧ w.cell? ⟨b, o + i * 3, none⟩ = some (.int .i64 e.src) ∧ w.cell? ⟨b, o + i * 3 + 1, none⟩ = some (.int .i64 e.dst) ∧ w.cell? ⟨b, o + i * 3 + 2, none⟩ = some (.int .i64 e.cost) := by
  obtain ⟨a', c', h1, h2, h3⟩ := h.shape eC_len
  obtain ⟨rfl, rfl, rfl⟩ := Value.slice.inj h1
  obtain ⟨b, o, rfl, hc⟩ := h3 i e he
  exact ⟨b, o, rfl, rfl, by simpa using hc 0 _ rfl, by rw [Nat.add_assoc]; exact hc 1 _ rfl, by rw [Nat.add_assoc]; exact hc 2 _ rfl⟩
theorem edge_any (e : Eg) (w : World) : Calls Tryd.prog 20 #[.agg #[.int .i64 e.src, .int .i64 e.dst, .int .i64 e.cost]] w fun e' w' => e' = .returned (.bool (rightE1 e)) ∧ Below w.heap.size w w' := by
  obtain ⟨s, d, c⟩ := e
  have HZ : Hid (rightE1 ⟨s, d, c⟩ = (decide (-1 ≤ s) && decide (d < 400) && decide (s < d) && decide (0 ≤ c) && decide (c ≤ 1048576))) := rfl
  generalize rightE1 ⟨s, d, c⟩ = R at HZ ⊢
  simp only
  by_cases h1 : -1 ≤ s
  · by_cases h2 : d < 400
    · by_cases h3 : s < d
      · by_cases h4 : 0 ≤ c
        · by_cases h5 : c ≤ 1048576
          · have HR : Hid (R = true) := by show _ = _; rw [HZ.out]; simp [h1, h2, h3, h4, h5]
            go_enter Tryd.func20, Tryd.ntmps20
            go_wp2_with fail
            go_ret
            exact ⟨congrArg (fun z => Ending.returned (Value.bool z)) HR.out.symm, (Below.refl _ _).alloc (Nat.le_refl _) _⟩
          · have HR : Hid (R = false) := by show _ = _; rw [HZ.out]; simp [h1, h2, h3, h4, h5]
            go_enter Tryd.func20, Tryd.ntmps20
            go_wp2_with fail
            go_ret
            exact ⟨congrArg (fun z => Ending.returned (Value.bool z)) HR.out.symm, (Below.refl _ _).alloc (Nat.le_refl _) _⟩
        · have HR : Hid (R = false) := by show _ = _; rw [HZ.out]; simp [h1, h2, h3, h4]
          go_enter Tryd.func20, Tryd.ntmps20
          go_wp2_with fail
          go_ret
          exact ⟨congrArg (fun z => Ending.returned (Value.bool z)) HR.out.symm, (Below.refl _ _).alloc (Nat.le_refl _) _⟩
      · have HR : Hid (R = false) := by show _ = _; rw [HZ.out]; simp [h1, h2, h3]
        go_enter Tryd.func20, Tryd.ntmps20
        go_wp2_with fail
        go_ret
        exact ⟨congrArg (fun z => Ending.returned (Value.bool z)) HR.out.symm, (Below.refl _ _).alloc (Nat.le_refl _) _⟩
    · have HR : Hid (R = false) := by show _ = _; rw [HZ.out]; simp [h1, h2]
      go_enter Tryd.func20, Tryd.ntmps20
      go_wp2_with fail
      go_ret
      exact ⟨congrArg (fun z => Ending.returned (Value.bool z)) HR.out.symm, (Below.refl _ _).alloc (Nat.le_refl _) _⟩
  · have HR : Hid (R = false) := by show _ = _; rw [HZ.out]; simp [h1]
    go_enter Tryd.func20, Tryd.ntmps20
    go_wp2_with fail
    go_ret
    exact ⟨congrArg (fun z => Ending.returned (Value.bool z)) HR.out.symm, (Below.refl _ _).alloc (Nat.le_refl _) _⟩
theorem eclo_any (e : Eg) (w : World) : Calls Tryd.prog 19 #[.agg #[.int .i64 e.src, .int .i64 e.dst, .int .i64 e.cost]] w fun e' w' => e' = .returned (.bool (!(rightE1 e))) ∧ Below w.heap.size w w' := by
  have hba : Below w.heap.size w (w.alloc (.cells #[.int .i64 e.src, .int .i64 e.dst, .int .i64 e.cost] 52)) := (Below.refl _ _).alloc (Nat.le_refl _) _
  have HC := Lib.hid (edge_any e (w.alloc (.cells #[.int .i64 e.src, .int .i64 e.dst, .int .i64 e.cost] 52)))
  have HBA := Lib.hid hba
  clear hba
  go_enter Tryd.func19, Tryd.ntmps19
  go_wp2_with fail
  refine HC.out.mono ?_
  rintro e' w1 ⟨rfl, hb1⟩
  have HB1 := Lib.hid (HBA.out.trans (hb1.mono HBA.out.size))
  clear hb1
  go_wp2_with fail
  go_ret
  exact ⟨rfl, HB1.out⟩
theorem indexE_any {L : List Eg} {w : World} {a : Option Addr} {c : Nat} (hr : RowS eC w (.slice a L.length c) L) (hl : L.length ≤ 100000) :
    Calls Tryd.prog 29 #[.slice a L.length c, .func (.func 19) #[] #[]] w fun e w' => (∃ z : Int, e = .returned (.int .i64 z) ∧ decide (0 ≤ z) = !(rightL L)) ∧ Below w.heap.size w w' := by
  have HR : Hid (∀ W, Below w.heap.size w W → RowS eC W (.slice a L.length c) L) := fun W hb => hr.stays hb
  clear hr
  go_enter Tryd.func29, Tryd.ntmps29
  go_wp2_with fail
  go_loopw [8] (fun i wr => ∃ (m : Nat), m ≤ L.length ∧ i = .int .i64 m ∧ Hid (rightL (L.drop m) = rightL L) ∧ Below w.heap.size w wr) (fun i _ => L.length - (intOf i).toNat)
  case atStart => exact ⟨0, Nat.zero_le _, rfl, rfl, Below.refl _ _⟩
  case round =>
    obtain ⟨m, hm, rfl, HI, hbe⟩ := hrel
    by_cases h1 : m < L.length
    · obtain ⟨⟨es, ed, ec⟩, hq⟩ : ∃ p, L[m]? = some p := ⟨_, List.getElem?_eq_getElem h1⟩
      obtain ⟨b, o, rfl, -, c0, c1, c2⟩ := edgeAt (HR.out wr hbe) hq
      have hI := HI.out
      have hdr : L.drop m = ⟨es, ed, ec⟩ :: L.drop (m + 1) := by
        rw [List.drop_eq_getElem_cons h1]
        rw [List.getElem?_eq_getElem h1] at hq
        rw [Option.some.inj hq]
      rw [hdr, rightL_cons] at hI
      have HC := Lib.hid (eclo_any ⟨es, ed, ec⟩ wr)
      generalize rightE1 ⟨es, ed, ec⟩ = R at HC hI
      have HI2 := Lib.hid hI
      clear hI HI hq hdr
      simp only at c0 c1 c2
      go_wp2_with fail
      refine HC.out.mono ?_
      rintro e w2 ⟨rfl, hb2⟩
      have hbe2 : Below w.heap.size w w2 := hbe.trans (hb2.mono hbe.size)
      clear HC hb2 c0 c1 c2
      cases R with
      | true =>
        go_wp2_with fail
        go_roundw
        case rel => exact ⟨m + 1, h1, by go_num, by show _ = _; simpa using HI2.out, hbe2⟩
        case measure => simp only [intOf]; omega
      | false =>
        have HZ : Hid (decide (0 ≤ (m : Int)) = !(rightL L)) := by have := HI2.out; rw [Bool.false_and] at this; show _ = _; rw [← this, decide_eq_true (by omega)]; rfl
        go_wp2_with fail
        go_ret
        exact ⟨⟨m, rfl, HZ.out⟩, hbe2⟩
    · have HZ : Hid (decide (0 ≤ (-1 : Int)) = !(rightL L)) := by show _ = _; rw [← HI.out, List.drop_of_length_le (by omega), rightL_nil]; rfl
      clear HI
      go_wp2_with fail
      go_ret
      exact ⟨⟨-1, rfl, HZ.out⟩, hbe⟩
theorem containsE_any {L : List Eg} {w : World} {a : Option Addr} {c : Nat} (hr : RowS eC w (.slice a L.length c) L) (hl : L.length ≤ 100000) :
    Calls Tryd.prog 18 #[.slice a L.length c, .func (.func 19) #[] #[]] w fun e w' => e = .returned (.bool (!(rightL L))) ∧ Below w.heap.size w w' := by
  have HC := Lib.hid (indexE_any hr hl)
  clear hr
  go_enter Tryd.func18, Tryd.ntmps18
  go_wp2_with fail
  refine HC.out.mono ?_
  rintro e w1 ⟨⟨z, rfl, hz⟩, hb1⟩
  have HZ := Lib.hid hz
  clear hz
  go_wp2_with fail
  go_ret
  exact ⟨congrArg (fun z => Ending.returned (Value.bool z)) HZ.out, hb1⟩
theorem right_any {L : List Eg} {w : World} {a : Option Addr} {c : Nat} (hr : RowS eC w (.slice a L.length c) L) (hl : L.length ≤ 3000) :
    Calls Tryd.prog 7 #[.slice a L.length c] w fun e w' => e = .returned (.bool (rightL L)) ∧ Below w.heap.size w w' := by
  have HC := Lib.hid (containsE_any hr (by omega))
  generalize rightL L = R at HC ⊢
  clear hr
  go_enter Tryd.func7, Tryd.ntmps7
  go_wp2_with fail
  refine HC.out.mono ?_
  rintro e w1 ⟨rfl, hb1⟩
  clear HC
  go_wp2_with fail
  go_ret
  exact ⟨rfl, hb1⟩
end Go.Proofs.YthabjnppmhlomaaDoor
