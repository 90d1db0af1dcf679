/- The law's alive of layer 19. -/
import Derived.Test.YtidfjemblidjkaaMyC
namespace Go.Proofs.Ytidfjemblidjkaa
open Go Go.RowKit
set_option linter.unusedVariables false
/-- a row in new memory -/
theorem RowL.new {α : Type} {f : α → Value} (w : World) (cs : Array Value) (E : TypeId) (xs : List α) (n : Nat) (h : cs.toList = xs.map f) (hn : n = xs.length) (hm : n ≤ maxLen) : RowL f (w.alloc (.cells cs E)) (.slice (some ⟨w.heap.size, 0, none⟩) n n) xs := by
  subst hn
  refine .inr ⟨w.heap.size, 0, _, rfl, Nat.le_refl _, hm, by simp, fun j u hu => ?_⟩
  rw [Nat.zero_add, (CellsAt.new w cs E).cell j (v := u) ?_]
  rw [← h] at hu
  simpa using hu
theorem RowS.new {α : Type} {f : α → List Value} (w : World) (cs : Array Value) (E : TypeId) (xs : List α) (n : Nat) (h : cs.toList = xs.flatMap f) (hn : n = xs.length) (hm : n ≤ maxLen) : RowS f (w.alloc (.cells cs E)) (.slice (some ⟨w.heap.size, 0, none⟩) n n) xs := by
  subst hn
  refine .inr ⟨w.heap.size, 0, _, rfl, Nat.le_refl _, hm, by simp, fun j u hu => ?_⟩
  rw [Nat.zero_add, (CellsAt.new w cs E).cell j (v := u) ?_]
  rw [← h] at hu
  simpa using hu
theorem alive_align : alignV [1, 2, 3] [1, 3, 4] = [(1, 1), (2, 1), (1, 1), (3, 1)] := by
  have h : ¬ 400 < dist [1, 2, 3] [1, 3, 4] := by
    have := dist_le _ [1, 2, 3] [1, 3, 4] (Nat.le_refl _)
    simp at this; omega
  unfold alignV stepsV
  rw [if_neg h, stepsT_same, stepsT_drop (by decide) (by simp [dist]), stepsT_same, stepsT_nil]
  rfl
theorem alive_far : farV [1] [] = 1 := by unfold farV; rw [dist_nil']; rfl
set_option maxRecDepth 100000 in
set_option maxHeartbeats 4000000 in
theorem alive19 (w : World) : Calls Try.prog 10 #[] w fun e w' => e = .returned (.bool true) ∧ Below w.heap.size w w' := by
  have hb0 : Below w.heap.size w ((w.alloc (.cells #[.int .i64 1, .int .i64 2, .int .i64 3] 3)).alloc (.cells #[.int .i64 1, .int .i64 3, .int .i64 4] 3)) := ((Below.refl _ _).alloc (Nat.le_refl _) _).alloc (by simp) _
  have ra : RowZ ((w.alloc (.cells #[.int .i64 1, .int .i64 2, .int .i64 3] 3)).alloc (.cells #[.int .i64 1, .int .i64 3, .int .i64 4] 3)) (.slice (some ⟨w.heap.size, 0, none⟩) 3 3) [1, 2, 3] := (RowL.new (f := IV) w _ _ [1, 2, 3] 3 rfl rfl (by decide)).alloc _
  have rb : RowZ ((w.alloc (.cells #[.int .i64 1, .int .i64 2, .int .i64 3] 3)).alloc (.cells #[.int .i64 1, .int .i64 3, .int .i64 4] 3)) (.slice (some ⟨w.heap.size + 1, 0, none⟩) 3 3) [1, 3, 4] := by
    have := RowL.new (f := IV) (w.alloc (.cells #[.int .i64 1, .int .i64 2, .int .i64 3] 3)) #[.int .i64 1, .int .i64 3, .int .i64 4] 3 [1, 3, 4] 3 rfl rfl (by decide)
    rwa [World.size_alloc] at this
  have hal := align_any _ _ _ _ _ ra rb (by decide) (by decide)
  rw [alive_align] at hal
  have HAL := Lib.hid hal
  clear ra rb hal
  go_enter Try.func10, Try.ntmps10
  go_wp2_with fail
  refine HAL.out.mono ?_
  rintro e w1 ⟨v', rfl, how, hb1⟩
  have hb1 := hb0.trans (hb1.mono hb0.size)
  have hs := hb1.size
  have r1 := how.row.stays ((Below.refl w1.heap.size w1).alloc (Nat.le_refl _) (.cells #[.int .i64 1, .int .i64 1, .int .i64 2, .int .i64 1, .int .i64 1, .int .i64 1, .int .i64 3, .int .i64 1] 42))
  have r2 : RowS rnC (w1.alloc (.cells #[.int .i64 1, .int .i64 1, .int .i64 2, .int .i64 1, .int .i64 1, .int .i64 1, .int .i64 3, .int .i64 1] 42)) (.slice (some ⟨w1.heap.size, 0, none⟩) 4 4) [(1, 1), (2, 1), (1, 1), (3, 1)] := RowS.new w1 _ _ _ 4 rfl rfl (by decide)
  have HS := Lib.hid (same_any v' _ _ _ r1 r2 (by decide))
  have hb2 := hb1.alloc hb1.size (.cells #[.int .i64 1, .int .i64 1, .int .i64 2, .int .i64 1, .int .i64 1, .int .i64 1, .int .i64 3, .int .i64 1] 42)
  clear r1 r2 how hb0 hb1
  go_wp2_with fail
  refine HS.out.mono ?_
  rintro e w2 ⟨rfl, hb3⟩
  have hb4 := hb2.trans (hb3.mono hb2.size)
  have r3 : RowZ (w2.alloc (.cells #[.int .i64 1] 3)) (.slice (some ⟨w2.heap.size, 0, none⟩) 1 1) [1] := RowL.new (f := IV) w2 _ _ [1] 1 rfl rfl (by decide)
  have hd := distance_any _ _ _ _ _ (by decide) (by decide) r3 (RowL.nil _ : RowZ _ (.slice none 0 0) [])
  rw [alive_far] at hd
  have HD := Lib.hid hd
  have hb5 := hb4.alloc hb4.size (.cells #[.int .i64 1] 3)
  clear r3 hd hb2 hb3 hb4
  go_wp2_with fail
  refine HD.out.mono ?_
  rintro e w3 ⟨rfl, hb6⟩
  go_wp2_with fail
  go_ret
  exact ⟨rfl, hb5.trans (hb6.mono hb5.size)⟩
end Go.Proofs.Ytidfjemblidjkaa
