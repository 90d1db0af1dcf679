/- All parts joined: slices.Grow (of nil), slices.Concat, octets.Join. -/
import Derived.Test.YtgehbabcpmkgaaaDoorStr
import Derived.Lib.AppendZeros
import Derived.BigQuiet
import Derived.Deep.QuietTactic
namespace Go.Proofs.YtgehbabcpmkgaaaDoor
open Go Go.RowKit
set_option linter.unusedVariables false
theorem zeros_bytes (n m : Nat) : Builtin.zeroCells (Value.cells (.int .u8 0)) n ++ Builtin.zeroCells (Value.cells (.int .u8 0)) m = ((List.replicate (n + m) (b8 0)).map BV).toArray := by
  have one : ∀ n, Builtin.zeroCells (Value.cells (.int .u8 0)) n = ((List.replicate n (b8 0)).map BV).toArray := fun n => by
    apply Array.ext
    · simp [Builtin.zeroCells, Value.cells]
    · intro i h1 h2
      simp [Builtin.zeroCells, Value.cells, BV_b8, Nat.mod_one]
  rw [one, one, ← List.replicate_append_replicate, List.map_append]
  simp
theorem grow_any (n : Nat) (w : World) (hn : n ≤ 100000000) :
    Calls Tryd.prog 133 #[.slice none 0 0, .int .i64 n] w fun e w' => ∃ v', e = .returned v' ∧ OwnB w.heap.size w' v' [] ∧ Below w.heap.size w w' := by
  by_cases h0 : n = 0
  · subst h0
    go_enter Tryd.func133, Tryd.ntmps133
    go_wp2
    go_ret
    exact ⟨_, rfl, OwnB.nil _ _, Below.refl _ _⟩
  · obtain ⟨i, hi, hz0, hz1, hz2⟩ := info_parts infoB
    have hge := grownCap_ge w n 0 5
    have hle := grownCap_le_maxLen w n 0 5 (by unfold maxLen; omega)
    have hrz : ∀ ty, (Builtin.append_ #[23, 3] ty #[.slice none 0 0, .int .i64 n]).run Tryd.prog w =
        .ok (.slice (some ⟨w.heap.size, 0, none⟩) n (grownCap w n 0 5)) (w.drew.alloc (.cells ((List.replicate (n + (grownCap w n 0 5 - n)) (b8 0)).map BV).toArray 5)) := fun ty => by
      have h := Lib.run_append_nil_zeros w 23 3 ty 5 i (.int .u8 0) .i64 .i64 Tryd.underlying23 Tryd.underlying3 hi hz0 n (by omega) (by omega) (by omega) (by rw [hz2]; omega)
      rw [zeros_bytes] at h
      exact h
    obtain ⟨G, hG⟩ : ∃ G, G = grownCap w n 0 5 := ⟨_, rfl⟩
    rw [← hG] at hrz hge hle
    have hGi : (G : Int) ≤ 9223372036854775807 := by unfold maxLen at hle; omega
    have hbl : BlockB (w.drew.alloc (.cells ((List.replicate (n + (G - n)) (b8 0)).map BV).toArray 5)) w.heap.size (List.replicate (n + (G - n)) (b8 0)) := heap_alloc_new w.drew _
    have hown : OwnB w.heap.size (w.drew.alloc (.cells ((List.replicate (n + (G - n)) (b8 0)).map BV).toArray 5)) (.slice (some ⟨w.heap.size, 0, none⟩) ([] : List UInt8).length G) [] :=
      BlockB.own (cs := List.replicate (n + (G - n)) (b8 0)) hbl (Nat.le_refl _) (by simp; omega) hle
    have hbe : Below w.heap.size w (w.drew.alloc (.cells ((List.replicate (n + (G - n)) (b8 0)).map BV).toArray 5)) := ((Below.refl _ _).drew).alloc (Nat.le_refl _) _
    obtain ⟨w2, hw2⟩ : ∃ w2, w2 = w.drew.alloc (.cells ((List.replicate (n + (G - n)) (b8 0)).map BV).toArray 5) := ⟨_, rfl⟩
    rw [← hw2] at hrz hown hbe
    have HO := Lib.hid hown
    have HB := Lib.hid hbe
    have HR := Lib.hid hrz
    clear hown hbe hbl hw2 hG hle hz0 hz1 hz2 hi hrz
    go_enter Tryd.func133, Tryd.ntmps133
    go_wp2_with (at_builtin; go_must (refine Lib.wpList_append_run _ rfl _ _ _ _ rfl _ _ rfl rfl _ _ (HR.out _) ?_))
    go_ret
    exact ⟨_, rfl, HO.out, HB.out⟩
/-- the parts' bytes -/
def joined (ps : List (Value × List UInt8)) : List UInt8 := (ps.map Prod.snd).flatten
theorem joined_take (ps : List (Value × List UInt8)) (k : Nat) {p : Value × List UInt8} (h : ps[k]? = some p) : joined (ps.take (k + 1)) = joined (ps.take k) ++ p.2 := by
  unfold joined
  rw [List.take_add_one, h]; simp
theorem joined_take_le (ps : List (Value × List UInt8)) (k : Nat) : (joined (ps.take k)).length ≤ (joined ps).length := by
  have h := List.take_append_drop k ps
  have e : joined ps = joined (ps.take k) ++ joined (ps.drop k) := by
    conv => lhs; rw [← h]
    unfold joined; simp
    rw [← List.flatten_append, List.take_append_drop]
  rw [e]; simp
set_option maxRecDepth 100000 in
theorem concat_any (v : Value) (ps : List (Value × List UInt8)) (w : World) (hr : RowL Prod.fst w v ps) (hp : ∀ p ∈ ps, RowB w p.1 p.2) (hlen : (joined ps).length ≤ 10000000) (hpl : ps.length ≤ 1000000) :
    Calls Tryd.prog 115 #[v] w fun e w' => ∃ v', e = .returned v' ∧ OwnB w.heap.size w' v' (joined ps) ∧ Below w.heap.size w w' := by
  obtain ⟨a, c, rfl, _, hin⟩ := hr.shape
  clear hr
  have HI := Lib.hid hin
  have HP := Lib.hid hp
  have HG := Lib.hid (grow_any (joined ps).length w (by omega))
  clear hin hp
  go_enter Tryd.func115, Tryd.ntmps115
  go_wp2_with fail
  go_loopw [3, 11] (fun s i wr => ∃ k : Nat, k ≤ ps.length ∧ i = .int .i64 k ∧ s = .int .i64 (joined (ps.take k)).length ∧ w = wr) (fun _ i _ => ps.length - (intOf i).toNat)
  case atStart => exact ⟨0, Nat.zero_le _, rfl, rfl, rfl⟩
  case round =>
    obtain ⟨k, hk, rfl, rfl, rfl⟩ := hrel
    by_cases hlt : k < ps.length
    · obtain ⟨p, hx⟩ : ∃ p, ps[k]? = some p := ⟨_, List.getElem?_eq_getElem hlt⟩
      obtain ⟨b, o, rfl, hcx⟩ := HI.out k p hx
      have hj := joined_take ps k hx
      have hle := joined_take_le ps (k + 1)
      have hrp := HP.out p (List.mem_of_getElem? hx)
      obtain ⟨v1, bs⟩ := p
      dsimp only at hrp hcx hj
      obtain ⟨pa, pc, rfl, _, _⟩ := hrp.gen.shape
      replace hj := congrArg List.length hj
      rw [List.length_append] at hj
      obtain ⟨J0, hJ0⟩ : ∃ J, J = (joined (ps.take k)).length := ⟨_, rfl⟩
      obtain ⟨J1, hJ1⟩ : ∃ J, J = (joined (ps.take (k + 1))).length := ⟨_, rfl⟩
      rw [← hJ0, ← hJ1] at hj
      rw [← hJ1] at hle
      rw [← hJ0]
      have HJ1 := Lib.hid hJ1
      clear hx hrp hJ0 hJ1
      go_wp2_with fail
      go_roundw
      case rel => exact ⟨k + 1, by omega, by go_num, vint (by rw [← HJ1.out]; omega), trivial⟩
      case measure => simp [intOf]; omega
    · obtain rfl : k = ps.length := by omega
      rw [List.take_length]
      go_wp2_with fail
      refine HG.out.mono ?_
      rintro e w1 ⟨v1, rfl, ho1, hb1⟩
      clear HG
      go_wp2_with fail
      go_loopw [6, 27] (fun v6 i wr => ∃ k : Nat, k ≤ ps.length ∧ i = .int .i64 k ∧ OwnB w.heap.size wr v6 (joined (ps.take k)) ∧ Below w.heap.size w wr) (fun _ i _ => ps.length - (intOf i).toNat)
      case atStart => exact ⟨0, Nat.zero_le _, rfl, ho1, hb1⟩
      case round =>
        obtain ⟨k, hk, rfl, how, hbe⟩ := hrel
        by_cases hlt : k < ps.length
        · obtain ⟨p, hx⟩ : ∃ p, ps[k]? = some p := ⟨_, List.getElem?_eq_getElem hlt⟩
          obtain ⟨b, o, rfl, hcx⟩ := HI.out k p hx
          have hj := Lib.hid (joined_take ps k hx)
          have hle := joined_take_le ps (k + 1)
          rw [hj.out, List.length_append] at hle
          have hrp := (HP.out p (List.mem_of_getElem? hx)).stays hbe
          have hcx' : wr.cell? ⟨b, o + k, none⟩ = some p.1 := (hbe.cell (p := ⟨b, o + k, none⟩) (World.block_lt_of_cell? w ⟨b, o + k, none⟩ hcx)).trans hcx
          clear hx hcx
          go_wp2_with (at_builtin; go_must (refine wpList_appendB how hrp (by omega) hbe.size rfl _ _ rfl (by rfl) (by rfl) ?_))
          intro v' w' how' hg _ _
          have hbe' := how.below hbe hg hbe.size
          clear hg how hbe hrp hcx'
          go_wp2_with fail
          go_roundw
          case rel => exact ⟨k + 1, by omega, by go_num, by rw [hj.out]; exact how', hbe'⟩
          case measure => simp [intOf]; omega
        · obtain rfl : k = ps.length := by omega
          go_wp2_with fail
          go_ret
          exact ⟨_, rfl, by rw [List.take_length] at how; exact how, hbe⟩
theorem join_any (v : Value) (ps : List (Value × List UInt8)) (w : World) (hr : RowL Prod.fst w v ps) (hp : ∀ p ∈ ps, RowB w p.1 p.2) (hlen : (joined ps).length ≤ 10000000) (hpl : ps.length ≤ 1000000) :
    Calls Tryd.prog 75 #[v] w fun e w' => ∃ v', e = .returned v' ∧ OwnB w.heap.size w' v' (joined ps) ∧ Below w.heap.size w w' := by
  have HC := Lib.hid (concat_any v ps w hr hp hlen hpl)
  clear hr hp
  go_enter Tryd.func75, Tryd.ntmps75
  go_wp2_with fail
  refine HC.out.mono ?_
  rintro e w1 ⟨v1, rfl, ho1, hb1⟩
  go_wp2_with fail
  go_ret
  exact ⟨_, rfl, ho1, hb1⟩
end Go.Proofs.YtgehbabcpmkgaaaDoor
