/- Scripts: an act that came in; whether all its numbers and torn sectors are as they may be (ContainsFunc). -/
import Derived.Test.YtbcpciegdmminaaGreatDoorScO
import Derived.Test.YtbcpciegdmminaaGreatDoorScN
namespace Go.Proofs.YtbcpciegdmminaaGreatDoor
open Go Go.RowKit
set_option linter.unusedVariables false
set_option maxRecDepth 100000 in
theorem cloI_any (n : Int) (w : World) : Calls Tryz.prog 28 #[.int .i64 n] w fun e w' => e = .returned (.bool (!inN n)) ∧ w' = w := by
  have HC := Lib.hid (in_any n w)
  generalize inN n = R at HC ⊢
  go_enter Tryz.func28, Tryz.ntmps28
  go_wp2_with fail
  refine HC.out.mono ?_
  rintro e w1 ⟨rfl, rfl⟩
  cases R
  all_goals
    go_wp2_with fail
    go_ret
    exact ⟨rfl, rfl⟩
set_option maxRecDepth 100000 in
theorem cloT_any (n : Int) {bs : Bs} {a : Option Addr} {c : Nat} (hl : bs.length ≤ maxLen) (w : World) : Calls Tryz.prog 25 #[.agg #[.int .i64 n, .slice a bs.length c]] w fun e w' => e = .returned (.bool (!tornOk (n, bs))) ∧ Below w.heap.size w w' := by
  have HC : Hid (∀ W, Calls Tryz.prog 26 #[.int .i64 n] W fun e w' => e = .returned (.bool (inN n)) ∧ w' = W) := fun W => in_any n W
  have HZ : Hid (tornOk (n, bs) = (inN n && decide (bs.length ≤ 4096))) := rfl
  generalize tornOk (n, bs) = R at HZ ⊢
  unfold maxLen at hl
  generalize bs.length = L at hl HZ ⊢
  have HB : Hid (Below w.heap.size w (w.alloc (.cells #[.int .i64 n, .slice a L c] 57))) := (Below.refl _ _).alloc (Nat.le_refl _) _
  go_enter Tryz.func25, Tryz.ntmps25
  cases hn : inN n with
  | false =>
    rw [hn] at HC HZ
    clear hn
    go_wp2_with fail
    refine (HC.out _).mono ?_
    rintro e w1 ⟨rfl, rfl⟩
    go_wp2_with fail
    go_ret
    exact ⟨by rw [HZ.out]; rfl, HB.out⟩
  | true =>
    rw [hn] at HC HZ
    clear hn
    by_cases h : L ≤ 4096
    · have HR : Hid (R = true) := by show _ = _; rw [HZ.out, decide_eq_true h]; rfl
      have t1 : decide ((4096 : Int) < (L : Int)) = false := decide_eq_false (by omega)
      clear h HZ
      go_wp2_with fail
      refine (HC.out _).mono ?_
      rintro e w1 ⟨rfl, rfl⟩
      go_wp2_with fail
      go_ret
      exact ⟨by rw [HR.out]; rfl, HB.out⟩
    · have HR : Hid (R = false) := by show _ = _; rw [HZ.out, decide_eq_false h]; rfl
      have t1 : decide ((4096 : Int) < (L : Int)) = true := decide_eq_true (by omega)
      clear h HZ
      go_wp2_with fail
      refine (HC.out _).mono ?_
      rintro e w1 ⟨rfl, rfl⟩
      go_wp2_with fail
      go_ret
      exact ⟨by rw [HR.out]; rfl, HB.out⟩
theorem rowCell {α : Type} {f : α → Value} {w : World} {a : Option Addr} {n c : Nat} {xs : List α} (h : RowL f w (.slice a n c) xs) {i : Nat} {x : α} (hx : xs[i]? = some x) : ∃ b o, a = some ⟨b, o, none⟩ ∧ w.cell? ⟨b, o + i, none⟩ = some (f x) := by
  obtain ⟨aq, cq, hv, -, hc⟩ := h.shape
  cases hv
  exact hc i x hx
theorem all_drop {α : Type} (p : α → Bool) {xs : List α} {i : Nat} {x : α} (hx : xs[i]? = some x) : (xs.drop i).all p = (p x && (xs.drop (i + 1)).all p) := by
  have hi := (List.getElem?_eq_some_iff.1 hx).1
  rw [List.drop_eq_getElem_cons hi, List.all_cons, (List.getElem?_eq_some_iff.1 hx).2]
set_option maxRecDepth 100000 in
set_option maxHeartbeats 1000000 in
theorem indexI_any {w : World} {a : Option Addr} {c : Nat} {xs : List Int} (hr : RowL IV w (.slice a xs.length c) xs) (hl : xs.length ≤ maxLen) :
    Calls Tryz.prog 46 #[.slice a xs.length c, .func (.func 28) #[] #[]] w fun e w' => (∃ z : Int, e = .returned (.int .i64 z) ∧ decide (0 ≤ z) = !(xs.all inN)) ∧ w' = w := by
  have HR := Lib.hid hr
  have HALL : Hid ((xs.drop 0).all inN = xs.all inN) := rfl
  unfold maxLen at hl
  clear hr
  go_enter Tryz.func46, Tryz.ntmps46
  go_wp2_with fail
  go_loopw [8] (fun i wr => ∃ m : Nat, m ≤ xs.length ∧ i = .int .i64 m ∧ Hid ((xs.drop m).all inN = xs.all inN) ∧ wr = w) (fun i _ => xs.length - (intOf i).toNat)
  case atStart => exact ⟨0, Nat.zero_le _, rfl, HALL.out, rfl⟩
  case round =>
    obtain ⟨m, hm, rfl, HI, rfl⟩ := hrel
    by_cases h1 : m < xs.length
    · obtain ⟨x, hx⟩ : ∃ x, xs[m]? = some x := ⟨_, List.getElem?_eq_getElem h1⟩
      obtain ⟨b, o, rfl, c0⟩ := rowCell HR.out hx
      replace c0 : wr.cell? ⟨b, o + m, none⟩ = some (.int .i64 x) := c0
      have hI := HI.out
      rw [all_drop inN hx] at hI
      have HC := Lib.hid (cloI_any x wr)
      generalize inN x = R at HC hI
      have HI2 := Lib.hid hI
      clear hI HI hx
      go_wp2_with fail
      refine HC.out.mono ?_
      rintro e w2 ⟨rfl, rfl⟩
      clear HC
      cases R with
      | true =>
        go_wp2_with fail
        go_roundw
        case rel => exact ⟨m + 1, h1, by go_num, by show _ = _; simpa using HI2.out, trivial⟩
        case measure => simp only [intOf]; omega
      | false =>
        have HZ : Hid (decide (0 ≤ (m : Int)) = !(xs.all inN)) := by have := HI2.out; rw [Bool.false_and] at this; show _ = _; rw [← this, decide_eq_true (by omega)]; rfl
        go_wp2_with fail
        go_ret
        exact ⟨⟨m, rfl, HZ.out⟩, rfl⟩
    · have HZ : Hid (decide (0 ≤ (-1 : Int)) = !(xs.all inN)) := by show _ = _; rw [← HI.out, List.drop_of_length_le (by omega)]; rfl
      clear HI
      go_wp2_with fail
      go_ret
      exact ⟨⟨-1, rfl, HZ.out⟩, rfl⟩
theorem containsI_any {w : World} {a : Option Addr} {c : Nat} {xs : List Int} (hr : RowL IV w (.slice a xs.length c) xs) (hl : xs.length ≤ maxLen) :
    Calls Tryz.prog 27 #[.slice a xs.length c, .func (.func 28) #[] #[]] w fun e w' => e = .returned (.bool (!(xs.all inN))) ∧ w' = w := by
  have HC := Lib.hid (indexI_any hr hl)
  clear hr hl
  go_enter Tryz.func27, Tryz.ntmps27
  go_wp2_with fail
  refine HC.out.mono ?_
  rintro e w1 ⟨⟨z, rfl, hz⟩, rfl⟩
  have HZ := Lib.hid hz
  clear hz
  go_wp2_with fail
  go_ret
  exact ⟨congrArg (fun z => Ending.returned (Value.bool z)) HZ.out, rfl⟩
set_option maxRecDepth 100000 in
set_option maxHeartbeats 1000000 in
theorem indexT_any {w : World} {a : Option Addr} {c : Nat} {xs : List TQ} (hr : RowS tqC w (.slice a xs.length c) xs) (hb : ∀ y ∈ xs, y.1.2.length ≤ maxLen) (hl : xs.length ≤ 1000) :
    Calls Tryz.prog 47 #[.slice a xs.length c, .func (.func 25) #[] #[]] w fun e w' => (∃ z : Int, e = .returned (.int .i64 z) ∧ decide (0 ≤ z) = !((xs.map Prod.fst).all tornOk)) ∧ Below w.heap.size w w' := by
  have HR : Hid (∀ W, Below w.heap.size w W → RowS tqC W (.slice a xs.length c) xs) := fun W hW => hr.stays hW
  have HB := Lib.hid hb
  have hA : (xs.map Prod.fst).all tornOk = xs.all (fun y => tornOk y.1) := by rw [List.all_map]; rfl
  rw [hA]
  have HALL : Hid ((xs.drop 0).all (fun y => tornOk y.1) = xs.all (fun y => tornOk y.1)) := rfl
  clear hr hb hA
  go_enter Tryz.func47, Tryz.ntmps47
  go_wp2_with fail
  go_loopw [8] (fun i wr => ∃ m : Nat, m ≤ xs.length ∧ i = .int .i64 m ∧ Hid ((xs.drop m).all (fun y => tornOk y.1) = xs.all (fun y => tornOk y.1)) ∧ Below w.heap.size w wr) (fun i _ => xs.length - (intOf i).toNat)
  case atStart => exact ⟨0, Nat.zero_le _, rfl, HALL.out, Below.refl _ _⟩
  case round =>
    obtain ⟨m, hm, rfl, HI, hbe⟩ := hrel
    by_cases h1 : m < xs.length
    · obtain ⟨⟨⟨n, bs⟩, ⟨ay, cy⟩⟩, hx⟩ : ∃ x, xs[m]? = some x := ⟨_, List.getElem?_eq_getElem h1⟩
      obtain ⟨aq, cq, hv, -, hcl⟩ := (HR.out wr hbe).shape tqC_len
      cases hv
      obtain ⟨b, o, rfl, hc⟩ := hcl m _ hx
      have c0 := hc 0 _ rfl
      have c1 := hc 1 _ rfl
      have hbl := HB.out _ (List.mem_of_getElem? hx)
      have hI := HI.out
      rw [all_drop _ hx] at hI
      have HC := Lib.hid (cloT_any n (bs := bs) (a := ay) (c := cy) hbl wr)
      simp only at hI
      generalize tornOk (n, bs) = R at HC hI
      have HI2 := Lib.hid hI
      clear hI HI hx hc hcl hbl
      replace c0 : wr.cell? ⟨b, o + m * 2, none⟩ = some (.int .i64 n) := c0
      replace c1 : wr.cell? ⟨b, o + m * 2 + 1, none⟩ = some (.slice ay bs.length cy) := c1
      go_wp2_with fail
      refine HC.out.mono ?_
      rintro e w2 ⟨rfl, hb2⟩
      have hbe2 : Below w.heap.size w w2 := hbe.trans (hb2.mono hbe.size)
      clear HC hb2 c0 c1
      cases R with
      | true =>
        go_wp2_with fail
        go_roundw
        case rel => exact ⟨m + 1, h1, by go_num, by show _ = _; simpa using HI2.out, hbe2⟩
        case measure => simp only [intOf]; omega
      | false =>
        have HZ : Hid (decide (0 ≤ (m : Int)) = !(xs.all (fun y => tornOk y.1))) := by have := HI2.out; rw [Bool.false_and] at this; show _ = _; rw [← this, decide_eq_true (by omega)]; rfl
        go_wp2_with fail
        go_ret
        exact ⟨⟨m, rfl, HZ.out⟩, hbe2⟩
    · have HZ : Hid (decide (0 ≤ (-1 : Int)) = !(xs.all (fun y => tornOk y.1))) := by show _ = _; rw [← HI.out, List.drop_of_length_le (by omega)]; rfl
      clear HI
      go_wp2_with fail
      go_ret
      exact ⟨⟨-1, rfl, HZ.out⟩, hbe⟩
theorem containsT_any {w : World} {a : Option Addr} {c : Nat} {xs : List TQ} (hr : RowS tqC w (.slice a xs.length c) xs) (hb : ∀ y ∈ xs, y.1.2.length ≤ maxLen) (hl : xs.length ≤ 1000) :
    Calls Tryz.prog 29 #[.slice a xs.length c, .func (.func 25) #[] #[]] w fun e w' => e = .returned (.bool (!((xs.map Prod.fst).all tornOk))) ∧ Below w.heap.size w w' := by
  have HC := Lib.hid (indexT_any hr hb hl)
  clear hr hl hb
  go_enter Tryz.func29, Tryz.ntmps29
  go_wp2_with fail
  refine HC.out.mono ?_
  rintro e w1 ⟨⟨z, rfl, hz⟩, hb1⟩
  have HZ := Lib.hid hz
  clear hz
  go_wp2_with fail
  go_ret
  exact ⟨congrArg (fun z => Ending.returned (Value.bool z)) HZ.out, hb1⟩
end Go.Proofs.YtbcpciegdmminaaGreatDoor
