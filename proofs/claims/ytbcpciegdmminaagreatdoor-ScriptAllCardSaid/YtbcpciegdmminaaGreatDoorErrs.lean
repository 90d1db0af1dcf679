/- The nineteen errors of package api, by their numbers; redlinenum.Num answers the number. -/
import Derived.Test.YtbcpciegdmminaaGreatDoorLib
import Derived.Test.YtbcpciegdmminaaGreatDoorIs
namespace Go.Proofs.YtbcpciegdmminaaGreatDoor
open Go Go.RowKit
set_option linter.unusedVariables false
/-- the text of error number k -/
def errTx : Nat → List UInt8
  | 1 => [97, 32, 110, 117, 109, 98, 101, 114, 32, 105, 115, 32, 111, 117, 116, 32, 111, 102, 32, 105, 116, 115, 32, 114, 97, 110, 103, 101]
  | 2 => [115, 111, 109, 101, 116, 104, 105, 110, 103, 32, 105, 115, 32, 109, 105, 115, 115, 105, 110, 103, 32, 97, 116, 32, 116, 104, 101, 32, 101, 110, 100]
  | 3 => [116, 104, 101, 114, 101, 32, 105, 115, 32, 109, 111, 114, 101, 32, 116, 104, 97, 110, 32, 109, 97, 121, 32, 98, 101]
  | 4 => [105, 116, 32, 105, 115, 32, 110, 111, 32, 118, 97, 114, 105, 110, 116]
  | 5 => [105, 116, 32, 105, 115, 32, 110, 111, 32, 116, 97, 103]
  | 6 => [116, 104, 101, 114, 101, 32, 97, 114, 101, 32, 110, 111, 32, 103, 114, 111, 117, 112, 115]
  | 7 => [105, 116, 32, 105, 115, 32, 110, 111, 32, 85, 84, 70, 45, 56]
  | 8 => [105, 116, 32, 103, 111, 101, 115, 32, 116, 111, 111, 32, 100, 101, 101, 112]
  | 9 => [105, 116, 32, 105, 115, 32, 110, 111, 116, 32, 111, 102, 32, 105, 116, 115, 32, 102, 111, 114, 109]
  | 10 => [116, 104, 101, 114, 101, 32, 105, 115, 32, 110, 111, 32, 115, 117, 99, 104, 32, 110, 97, 109, 101]
  | 11 => [105, 116, 32, 105, 115, 32, 116, 104, 101, 114, 101, 32, 97, 108, 114, 101, 97, 100, 121]
  | 12 => [105, 116, 32, 105, 115, 32, 111, 102, 32, 97, 110, 111, 116, 104, 101, 114, 32, 107, 105, 110, 100]
  | 13 => [105, 116, 32, 105, 115, 32, 110, 111, 116, 32, 119, 104, 97, 116, 32, 105, 116, 32, 119, 97, 115]
  | 14 => [116, 104, 101, 114, 101, 32, 105, 115, 32, 110, 111, 110, 101]
  | 15 => [116, 104, 101, 114, 101, 32, 105, 115, 32, 110, 111, 32, 109, 111, 114, 101, 32, 114, 111, 111, 109]
  | 16 => [105, 116, 32, 99, 97, 110, 32, 110, 111, 116, 32, 98, 101, 32, 100, 111, 110, 101, 32, 105, 110, 32, 116, 104, 105, 115, 32, 115, 116, 97, 116, 101]
  | 17 => [116, 104, 101, 32, 112, 111, 119, 101, 114, 32, 105, 115, 32, 103, 111, 110, 101]
  | 18 => [116, 104, 101, 32, 115, 117, 109, 32, 105, 115, 32, 110, 111, 116, 32, 114, 105, 103, 104, 116]
  | 19 => [98, 111, 116, 104, 32, 115, 105, 100, 101, 115, 32, 99, 104, 97, 110, 103, 101, 100, 32, 105, 116]
  | _ => []
/-- its variable -/
def gErr : Nat → Nat
  | 1 => 3
  | 2 => 4
  | 3 => 2
  | 4 => 5
  | 5 => 6
  | 6 => 7
  | 7 => 8
  | 8 => 9
  | 9 => 1
  | 10 => 10
  | 11 => 11
  | 12 => 12
  | 13 => 13
  | 14 => 14
  | 15 => 15
  | 16 => 16
  | 17 => 17
  | 18 => 18
  | 19 => 19
  | _ => 0
theorem errTx_all : ((List.range 20).all fun j => (List.range 20).all fun k => j == k || errTx j != errTx k) = true := by decide +kernel
theorem errTx_inj {j k : Nat} (hj : j ≤ 19) (hk : k ≤ 19) (h : errTx j = errTx k) : j = k := by
  have h1 := List.all_eq_true.1 errTx_all j (List.mem_range.2 (by omega))
  have h2 := List.all_eq_true.1 h1 k (List.mem_range.2 (by omega))
  simp only [Bool.or_eq_true, beq_iff_eq, bne_iff_ne] at h2
  rcases h2 with h2 | h2
  · exact h2
  · exact absurd h h2
/-- at a lies the text of error number k, in a row of its own -/
def ErrTx (w : World) (a : Addr) (k : Nat) : Prop := ∃ (s : ByteArray) (c : Array Value) (t : TypeId), w.cell? a = some (.string s) ∧ s.data.toList = errTx k ∧ w.heap[a.block]? = some (.cells c t (0, 0))
theorem ErrTx.stays {w w' : World} {a : Addr} {k : Nat} (h : ErrTx w a k) (hb : Below w.heap.size w w') : ErrTx w' a k := by
  obtain ⟨s, c, t, h1, h2, h3⟩ := h
  have hlt := lt_of_block h3
  exact ⟨s, c, t, (hb.cell (p := a) hlt).trans h1, h2, (hb.block _ hlt).trans h3⟩
/-- the nineteen variables hold the nineteen errors -/
def ErrsAll (ea : Nat → Addr) (w : World) : Prop := ∀ k, 1 ≤ k → k ≤ 19 → ErrAt w (gErr k) (ea k) ∧ ErrTx w (ea k) k
theorem ErrsAll.stays {ea : Nat → Addr} {w w' : World} (h : ErrsAll ea w) (hb : Below w.heap.size w w') : ErrsAll ea w' := fun k h1 h2 => ⟨(h k h1 h2).1.stays hb, (h k h1 h2).2.stays hb⟩
theorem ErrsAll.ne {ea : Nat → Addr} {w : World} (h : ErrsAll ea w) {j k : Nat} (h1 : 1 ≤ j) (h2 : j ≤ 19) (h3 : 1 ≤ k) (h4 : k ≤ 19) (hjk : j ≠ k) : ea j ≠ ea k := by
  intro e
  obtain ⟨s, c, t, a1, a2, a3⟩ := (h j h1 h2).2
  obtain ⟨s', c', t', b1, b2, b3⟩ := (h k h3 h4).2
  rw [e, b1] at a1
  cases a1
  exact hjk (errTx_inj h2 h4 (a2.symm.trans b2))
theorem ErrsAll.e1 {ea : Nat → Addr} {w : World} (h : ErrsAll ea w) : ErrAt w 3 (ea 1) := (h 1 (by decide) (by decide)).1
theorem ErrsAll.e2 {ea : Nat → Addr} {w : World} (h : ErrsAll ea w) : ErrAt w 4 (ea 2) := (h 2 (by decide) (by decide)).1
theorem ErrsAll.e3 {ea : Nat → Addr} {w : World} (h : ErrsAll ea w) : ErrAt w 2 (ea 3) := (h 3 (by decide) (by decide)).1
theorem ErrsAll.e4 {ea : Nat → Addr} {w : World} (h : ErrsAll ea w) : ErrAt w 5 (ea 4) := (h 4 (by decide) (by decide)).1
theorem ErrsAll.e5 {ea : Nat → Addr} {w : World} (h : ErrsAll ea w) : ErrAt w 6 (ea 5) := (h 5 (by decide) (by decide)).1
theorem ErrsAll.e6 {ea : Nat → Addr} {w : World} (h : ErrsAll ea w) : ErrAt w 7 (ea 6) := (h 6 (by decide) (by decide)).1
theorem ErrsAll.e7 {ea : Nat → Addr} {w : World} (h : ErrsAll ea w) : ErrAt w 8 (ea 7) := (h 7 (by decide) (by decide)).1
theorem ErrsAll.e8 {ea : Nat → Addr} {w : World} (h : ErrsAll ea w) : ErrAt w 9 (ea 8) := (h 8 (by decide) (by decide)).1
theorem ErrsAll.e9 {ea : Nat → Addr} {w : World} (h : ErrsAll ea w) : ErrAt w 1 (ea 9) := (h 9 (by decide) (by decide)).1
theorem ErrsAll.e10 {ea : Nat → Addr} {w : World} (h : ErrsAll ea w) : ErrAt w 10 (ea 10) := (h 10 (by decide) (by decide)).1
theorem ErrsAll.e11 {ea : Nat → Addr} {w : World} (h : ErrsAll ea w) : ErrAt w 11 (ea 11) := (h 11 (by decide) (by decide)).1
theorem ErrsAll.e12 {ea : Nat → Addr} {w : World} (h : ErrsAll ea w) : ErrAt w 12 (ea 12) := (h 12 (by decide) (by decide)).1
theorem ErrsAll.e13 {ea : Nat → Addr} {w : World} (h : ErrsAll ea w) : ErrAt w 13 (ea 13) := (h 13 (by decide) (by decide)).1
theorem ErrsAll.e14 {ea : Nat → Addr} {w : World} (h : ErrsAll ea w) : ErrAt w 14 (ea 14) := (h 14 (by decide) (by decide)).1
theorem ErrsAll.e15 {ea : Nat → Addr} {w : World} (h : ErrsAll ea w) : ErrAt w 15 (ea 15) := (h 15 (by decide) (by decide)).1
theorem ErrsAll.e16 {ea : Nat → Addr} {w : World} (h : ErrsAll ea w) : ErrAt w 16 (ea 16) := (h 16 (by decide) (by decide)).1
theorem ErrsAll.e17 {ea : Nat → Addr} {w : World} (h : ErrsAll ea w) : ErrAt w 17 (ea 17) := (h 17 (by decide) (by decide)).1
theorem ErrsAll.e18 {ea : Nat → Addr} {w : World} (h : ErrsAll ea w) : ErrAt w 18 (ea 18) := (h 18 (by decide) (by decide)).1
theorem ErrsAll.e19 {ea : Nat → Addr} {w : World} (h : ErrsAll ea w) : ErrAt w 19 (ea 19) := (h 19 (by decide) (by decide)).1
theorem errsAll {ea : Nat → Addr} {w : World} (e1 : ErrAt w 3 (ea 1)) (t1 : ErrTx w (ea 1) 1) (e2 : ErrAt w 4 (ea 2)) (t2 : ErrTx w (ea 2) 2) (e3 : ErrAt w 2 (ea 3)) (t3 : ErrTx w (ea 3) 3) (e4 : ErrAt w 5 (ea 4)) (t4 : ErrTx w (ea 4) 4) (e5 : ErrAt w 6 (ea 5)) (t5 : ErrTx w (ea 5) 5) (e6 : ErrAt w 7 (ea 6)) (t6 : ErrTx w (ea 6) 6) (e7 : ErrAt w 8 (ea 7)) (t7 : ErrTx w (ea 7) 7) (e8 : ErrAt w 9 (ea 8)) (t8 : ErrTx w (ea 8) 8) (e9 : ErrAt w 1 (ea 9)) (t9 : ErrTx w (ea 9) 9) (e10 : ErrAt w 10 (ea 10)) (t10 : ErrTx w (ea 10) 10) (e11 : ErrAt w 11 (ea 11)) (t11 : ErrTx w (ea 11) 11) (e12 : ErrAt w 12 (ea 12)) (t12 : ErrTx w (ea 12) 12) (e13 : ErrAt w 13 (ea 13)) (t13 : ErrTx w (ea 13) 13) (e14 : ErrAt w 14 (ea 14)) (t14 : ErrTx w (ea 14) 14) (e15 : ErrAt w 15 (ea 15)) (t15 : ErrTx w (ea 15) 15) (e16 : ErrAt w 16 (ea 16)) (t16 : ErrTx w (ea 16) 16) (e17 : ErrAt w 17 (ea 17)) (t17 : ErrTx w (ea 17) 17) (e18 : ErrAt w 18 (ea 18)) (t18 : ErrTx w (ea 18) 18) (e19 : ErrAt w 19 (ea 19)) (t19 : ErrTx w (ea 19) 19) : ErrsAll ea w := by
  intro k h1 h2
  match k, h1, h2 with
  | 1, _, _ => exact ⟨e1, t1⟩
  | 2, _, _ => exact ⟨e2, t2⟩
  | 3, _, _ => exact ⟨e3, t3⟩
  | 4, _, _ => exact ⟨e4, t4⟩
  | 5, _, _ => exact ⟨e5, t5⟩
  | 6, _, _ => exact ⟨e6, t6⟩
  | 7, _, _ => exact ⟨e7, t7⟩
  | 8, _, _ => exact ⟨e8, t8⟩
  | 9, _, _ => exact ⟨e9, t9⟩
  | 10, _, _ => exact ⟨e10, t10⟩
  | 11, _, _ => exact ⟨e11, t11⟩
  | 12, _, _ => exact ⟨e12, t12⟩
  | 13, _, _ => exact ⟨e13, t13⟩
  | 14, _, _ => exact ⟨e14, t14⟩
  | 15, _, _ => exact ⟨e15, t15⟩
  | 16, _, _ => exact ⟨e16, t16⟩
  | 17, _, _ => exact ⟨e17, t17⟩
  | 18, _, _ => exact ⟨e18, t18⟩
  | 19, _, _ => exact ⟨e19, t19⟩
  | k + 20, _, h => omega
set_option maxRecDepth 100000 in
theorem all_any (ea : Nat → Addr) (w : World) (h : ErrsAll ea w) :
    Calls Tryz.prog 43 #[] w fun e w' => e = .returned (.slice (some ⟨w.heap.size, 0, none⟩) 19 19) ∧ (∀ i, i < 19 → w'.cell? ⟨w.heap.size, i, none⟩ = some (EP (ea (i + 1)))) ∧ Below w.heap.size w w' := by
  have h1 := h.e1
  have h2 := h.e2
  have h3 := h.e3
  have h4 := h.e4
  have h5 := h.e5
  have h6 := h.e6
  have h7 := h.e7
  have h8 := h.e8
  have h9 := h.e9
  have h10 := h.e10
  have h11 := h.e11
  have h12 := h.e12
  have h13 := h.e13
  have h14 := h.e14
  have h15 := h.e15
  have h16 := h.e16
  have h17 := h.e17
  have h18 := h.e18
  have h19 := h.e19
  unfold ErrAt at h1 h2 h3 h4 h5 h6 h7 h8 h9 h10 h11 h12 h13 h14 h15 h16 h17 h18 h19
  clear h
  go_enter Tryz.func43, Tryz.ntmps43
  go_wp2
  go_ret
  refine ⟨rfl, fun i hi => ?_, (Below.refl _ _).alloc (Nat.le_refl _) _⟩
  refine (cell_of_row _ _ i _ _ (0, 0) (heap_alloc_new w _)).trans ?_
  show (((List.range 19).map fun i => EP (ea (i + 1))).toArray)[i]? = _
  simp [hi]

set_option maxRecDepth 100000 in
theorem num_any (ea : Nat → Addr) (k : Nat) (hk : k ≤ 19) (w : World) (h : ErrsAll ea w) :
    Calls Tryz.prog 19 #[EV ea k] w fun e w' => e = .returned (.int .i64 k) ∧ Below w.heap.size w w' := by
  by_cases h0 : k = 0
  · subst h0
    rw [EV_zero]
    clear h
    go_enter Tryz.func19, Tryz.ntmps19
    go_wp2
    go_ret
    exact ⟨rfl, Below.refl _ _⟩
  · rw [EV_pos ea h0]
    have hk1 : 1 ≤ k := by omega
    have hsame := Lib.hid (fun w => is_same (ea k) w)
    unfold EP at hsame
    go_enter Tryz.func19, Tryz.ntmps19
    go_wp2_with fail
    refine (all_any ea w h).mono ?_
    rintro e w1 ⟨rfl, hc, hb⟩
    have h1 := h.stays hb
    have HC := Lib.hid hc
    clear h hc
    go_wp2_with fail
    go_loopw [9] (fun i wr => ∃ j : Nat, j < k ∧ i = .int .i64 j ∧ wr = w1) (fun i _ => k - (intOf i).toNat)
    case atStart => exact ⟨0, by omega, rfl, rfl⟩
    case round =>
      obtain ⟨j, hj, rfl, rfl⟩ := hrel
      have hcj := HC.out j (by omega)
      unfold EP at hcj
      go_wp2_with fail
      by_cases hjk : j + 1 = k
      · subst hjk
        refine (is_same (ea (j + 1)) wr).mono ?_
        rintro e w2 ⟨rfl, rfl⟩
        go_wp2_with fail
        go_ret
        exact ⟨ret1 (vint (by push_cast; rfl)), hb⟩
      · obtain ⟨_, ca, ta, _, _, ha⟩ := (h1 k hk1 hk).2
        obtain ⟨_, cb, tb, _, _, hb'⟩ := (h1 (j + 1) (by omega) (by omega)).2
        refine (is_other (ea k) (ea (j + 1)) ca cb ta tb wr (h1.ne hk1 hk (by omega) (by omega) (by omega)) ha hb').mono ?_
        rintro e w2 ⟨rfl, rfl⟩
        clear ha hb'
        go_wp2_with fail
        go_roundw
        case rel => exact ⟨j + 1, by omega, by go_num, trivial⟩
        case measure => simp [intOf]; omega
end Go.Proofs.YtbcpciegdmminaaGreatDoor
