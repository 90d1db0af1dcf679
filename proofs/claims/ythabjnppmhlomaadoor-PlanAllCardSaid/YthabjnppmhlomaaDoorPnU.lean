/- slices.Grow (of nil) and slices.Concat at rows of ints. -/
import Derived.Test.YthabjnppmhlomaaDoorPnT
import Derived.Lib.AppendZeros
namespace Go.Proofs.YthabjnppmhlomaaDoor
open Go Go.RowKit
set_option linter.unusedVariables false
theorem zeros_ints (n m : Nat) : Builtin.zeroCells (Value.cells (.int .i64 0)) n ++ Builtin.zeroCells (Value.cells (.int .i64 0)) m = ((List.replicate (n + m) (0 : Int)).map IV).toArray := by
  have one : ∀ n, Builtin.zeroCells (Value.cells (.int .i64 0)) n = ((List.replicate n (0 : Int)).map IV).toArray := fun n => by
    apply Array.ext
    · simp [Builtin.zeroCells, Value.cells]
    · intro i h1 h2
      simp [Builtin.zeroCells, Value.cells, Nat.mod_one, IV]
  rw [one, one, ← List.replicate_append_replicate, List.map_append]
  simp
theorem growZ_any (n : Nat) (w : World) (hn : n ≤ 100000000) :
    Calls Tryd.prog 36 #[.slice none 0 0, .int .i64 n] w fun e w' => ∃ v', e = .returned v' ∧ OwnL 3 IV w.heap.size w' v' [] ∧ Below w.heap.size w w' := by
  by_cases h0 : n = 0
  · subst h0
    go_enter Tryd.func36, Tryd.ntmps36
    go_wp2
    go_ret
    exact ⟨_, rfl, OwnL.nil _ _, Below.refl _ _⟩
  · obtain ⟨i, hi, hz0, hz1, hz2⟩ := info_parts infoZ
    have hge := grownCap_ge w n 0 3
    have hle := grownCap_le_maxLen w n 0 3 (by unfold maxLen; omega)
    have hrz : ∀ ty, (Builtin.append_ #[23, 3] ty #[.slice none 0 0, .int .i64 n]).run Tryd.prog w =
        .ok (.slice (some ⟨w.heap.size, 0, none⟩) n (grownCap w n 0 3)) (w.drew.alloc (.cells ((List.replicate (n + (grownCap w n 0 3 - n)) (0 : Int)).map IV).toArray 3)) := fun ty => by
      have h := Lib.run_append_nil_zeros w 23 3 ty 3 i (.int .i64 0) .i64 .i64 Tryd.underlying23 Tryd.underlying3 hi hz0 n (by omega) (by omega) (by omega) (by rw [hz2]; omega)
      rw [zeros_ints] at h
      exact h
    obtain ⟨G, hG⟩ : ∃ G, G = grownCap w n 0 3 := ⟨_, rfl⟩
    rw [← hG] at hrz hge hle
    have hGi : (G : Int) ≤ 9223372036854775807 := by unfold maxLen at hle; omega
    have hown : OwnL 3 IV w.heap.size (w.drew.alloc (.cells ((List.replicate (n + (G - n)) (0 : Int)).map IV).toArray 3)) (.slice (some ⟨w.heap.size, 0, none⟩) ([] : List Int).length G) [] :=
      ⟨rfl, .inr ⟨w.heap.size, G, _, rfl, Nat.le_refl _, heap_alloc_new w.drew _, Nat.zero_le _, hle, by simp; omega, by simp⟩⟩
    have hbe : Below w.heap.size w (w.drew.alloc (.cells ((List.replicate (n + (G - n)) (0 : Int)).map IV).toArray 3)) := ((Below.refl _ _).drew).alloc (Nat.le_refl _) _
    obtain ⟨w2, hw2⟩ : ∃ w2, w2 = w.drew.alloc (.cells ((List.replicate (n + (G - n)) (0 : Int)).map IV).toArray 3) := ⟨_, rfl⟩
    rw [← hw2] at hrz hown hbe
    have HO := Lib.hid hown
    have HB := Lib.hid hbe
    have HR := Lib.hid hrz
    clear hown hbe hw2 hG hle hz0 hz1 hz2 hi hrz
    go_enter Tryd.func36, Tryd.ntmps36
    go_wp2_with (at_builtin; go_must (refine Lib.wpList_append_run _ rfl _ _ _ _ rfl _ _ rfl rfl _ _ (HR.out _) ?_))
    go_ret
    exact ⟨_, rfl, HO.out, HB.out⟩
/-- the rows' elements -/
def joinZ (ps : List ZM) : List Int := (ps.map Prod.fst).flatten
theorem joinZ_take (ps : List ZM) (k : Nat) {p : ZM} (h : ps[k]? = some p) : joinZ (ps.take (k + 1)) = joinZ (ps.take k) ++ p.1 := by
  unfold joinZ
  rw [List.take_add_one, h]; simp
theorem joinZ_take_le (ps : List ZM) (k : Nat) : (joinZ (ps.take k)).length ≤ (joinZ ps).length := by
  have h := List.take_append_drop k ps
  have e : joinZ ps = joinZ (ps.take k) ++ joinZ (ps.drop k) := by
    conv => lhs; rw [← h]
    unfold joinZ; simp
    rw [← List.flatten_append, List.take_append_drop]
  rw [e]; simp
set_option maxRecDepth 100000 in
theorem concatZ_any (v : Value) (ps : List ZM) (w : World) (hr : RowL zV w v ps) (hp : ∀ p ∈ ps, RowZ w (zV p) p.1) (hlen : (joinZ ps).length ≤ 10000000) (hpl : ps.length ≤ 1000000) :
    Calls Tryd.prog 25 #[v] w fun e w' => ∃ v', e = .returned v' ∧ OwnL 3 IV w.heap.size w' v' (joinZ ps) ∧ Below w.heap.size w w' := by
  obtain ⟨a, c, rfl, _, hin⟩ := hr.shape
  clear hr
  have HI := Lib.hid hin
  have HP := Lib.hid hp
  have HG := Lib.hid (growZ_any (joinZ ps).length w (by omega))
  clear hin hp
  go_enter Tryd.func25, Tryd.ntmps25
  go_wp2_with fail
  go_loopw [3, 11] (fun s i wr => ∃ k : Nat, k ≤ ps.length ∧ i = .int .i64 k ∧ s = .int .i64 (joinZ (ps.take k)).length ∧ w = wr) (fun _ i _ => ps.length - (intOf i).toNat)
  case atStart => exact ⟨0, Nat.zero_le _, rfl, rfl, rfl⟩
  case round =>
    obtain ⟨k, hk, rfl, rfl, rfl⟩ := hrel
    by_cases hlt : k < ps.length
    · obtain ⟨p, hx⟩ : ∃ p, ps[k]? = some p := ⟨_, List.getElem?_eq_getElem hlt⟩
      obtain ⟨b, o, rfl, hcx⟩ := HI.out k p hx
      have hj := joinZ_take ps k hx
      have hle := joinZ_take_le ps (k + 1)
      obtain ⟨bs, pa, pc⟩ := p
      dsimp only [zV] at hcx hj
      replace hj := congrArg List.length hj
      rw [List.length_append] at hj
      obtain ⟨J0, hJ0⟩ : ∃ J, J = (joinZ (ps.take k)).length := ⟨_, rfl⟩
      obtain ⟨J1, hJ1⟩ : ∃ J, J = (joinZ (ps.take (k + 1))).length := ⟨_, rfl⟩
      rw [← hJ0, ← hJ1] at hj
      rw [← hJ1] at hle
      rw [← hJ0]
      have HJ1 := Lib.hid hJ1
      clear hx hJ0 hJ1
      go_wp2_with fail
      go_roundw
      case rel => exact ⟨k + 1, by omega, by go_num, vint (by rw [← HJ1.out]; omega), trivial⟩
      case measure => simp [intOf]; omega
    · obtain rfl : k = ps.length := by omega
      rw [List.take_length]
      go_wp2_with fail
      refine HG.out.mono ?_
      rintro e w1 ⟨v1, rfl, ho1, hb1⟩
      clear HG
      go_wp2_with fail
      go_loopw [6, 27] (fun v6 i wr => ∃ k : Nat, k ≤ ps.length ∧ i = .int .i64 k ∧ OwnL 3 IV w.heap.size wr v6 (joinZ (ps.take k)) ∧ Below w.heap.size w wr) (fun _ i _ => ps.length - (intOf i).toNat)
      case atStart => exact ⟨0, Nat.zero_le _, rfl, ho1, hb1⟩
      case round =>
        obtain ⟨k, hk, rfl, how, hbe⟩ := hrel
        by_cases hlt : k < ps.length
        · obtain ⟨p, hx⟩ : ∃ p, ps[k]? = some p := ⟨_, List.getElem?_eq_getElem hlt⟩
          obtain ⟨b, o, rfl, hcx⟩ := HI.out k p hx
          have hj := Lib.hid (joinZ_take ps k hx)
          have hle := joinZ_take_le ps (k + 1)
          rw [hj.out, List.length_append] at hle
          have hrp : RowZ wr (zV p) p.1 := Row.stays (HP.out p (List.mem_of_getElem? hx)) hbe
          have hcx' : wr.cell? ⟨b, o + k, none⟩ = some (zV p) := (hbe.cell (p := ⟨b, o + k, none⟩) (World.block_lt_of_cell? w ⟨b, o + k, none⟩ hcx)).trans hcx
          obtain ⟨Z, hZ⟩ : ∃ Z, Z = zV p := ⟨_, rfl⟩
          rw [← hZ] at hrp hcx'
          obtain ⟨za, zc, hzz, -, -⟩ := hrp.gen.shape
          subst hzz
          clear hx hcx hZ
          go_wp2_with (at_builtin; go_must (refine wpList_appendL IV_one Tryd.underlying23 infoZ rfl (by decide) how hrp.gen (by omega) hbe.size rfl _ _ rfl (by rfl) (by rfl) ?_))
          intro v' w' how' hg _ _
          have hbe' := how.below hbe hg hbe.size
          clear hg how hbe hrp hcx'
          go_wp2_with fail
          go_roundw
          case rel => exact ⟨k + 1, by omega, by go_num, by rw [hj.out]; exact how', hbe'⟩
          case measure => simp [intOf]; omega
        · obtain rfl : k = ps.length := by omega
          go_wp2_with fail
          go_ret
          exact ⟨_, rfl, by rw [List.take_length] at how; exact how, hbe⟩
end Go.Proofs.YthabjnppmhlomaaDoor
