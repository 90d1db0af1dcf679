/- strings.Builder: WriteByte, WriteString, String. -/
import Derived.Test.YtcjflglpkpkflaaDoorLib
import Derived.Test.YtcjflglpkpkflaaDoorStr
import Derived.Test.YtcjflglpkpkflaaDoorShelfB
import Derived.Lib.Builder
namespace Go.Proofs.YtcjflglpkpkflaaDoor
open Go Go.RowKit
set_option linter.unusedVariables false
/-- a builder in block b that holds bytes -/
abbrev Bd (B : Nat) (w : World) (b : Nat) (bs : List UInt8) : Prop := Lib.IsBuilder 73 5 B b (bs.map BV) w
theorem bd_new (w : World) : Bd w.heap.size (w.alloc (.cells #[.pointer none, .slice none 0 0] 73)) w.heap.size [] :=
  .inl ⟨Nat.le_refl _, .slice none 0 0, heap_alloc_new w _, OwnB.nil _ _, by simp [Value.ownBlock]⟩
theorem bd_open {B : Nat} {w : World} {b : Nat} {bs : List UInt8} (h : Bd B w b bs) : ∃ p v, (p = none ∨ p = some ⟨b, 0, none⟩) ∧ B ≤ b ∧ CellsAt w b 73 #[.pointer p, v] ∧ OwnB B w v bs ∧ v.ownBlock ≠ some b := by
  rcases h with ⟨h1, v, h2, h3, h4⟩ | ⟨h1, v, h2, h3, h4⟩
  · exact ⟨none, v, .inl rfl, h1, h2, by simpa [OwnB] using h3, h4⟩
  · exact ⟨some ⟨b, 0, none⟩, v, .inr rfl, h1, h2, by simpa [OwnB] using h3, h4⟩
theorem bd_own {B : Nat} {w : World} {v : Value} {bs : List UInt8} (h : OwnB B w v bs) : w.ownsRow B 5 1 v (bs.map BV).length (bs.map BV) := by simpa [OwnB] using h
theorem bd_used {B : Nat} {w : World} {b : Nat} {v : Value} {bs : List UInt8} (h1 : B ≤ b) (h2 : CellsAt w b 73 #[.pointer (some ⟨b, 0, none⟩), v]) (h3 : OwnB B w v bs) (h4 : v.ownBlock ≠ some b) : Bd B w b bs :=
  .inr ⟨h1, v, h2, by simpa [OwnB] using h3, h4⟩
theorem bd_size : (Tryd.prog.info? 73).map (·.size) = some 2 := by kernel_rfl
theorem bd_lies : liesAt Tryd.prog Tryd.prog.depth 73 (2 / Tryd.prog.cellsOf 73) 0 73 1 = true := by kernel_rfl
set_option maxHeartbeats 1000000 in
set_option maxRecDepth 100000 in
theorem bd_copy (B b : Nat) (p : Option Addr) (v : Value) (w : World) (hp : p = none ∨ p = some ⟨b, 0, none⟩) (hc : CellsAt w b 73 #[.pointer p, v]) :
    Calls Tryd.prog 36 #[.pointer (some ⟨b, 0, none⟩)] w fun e w' => e = .returned (.tuple #[]) ∧ CellsAt w' b 73 #[.pointer (some ⟨b, 0, none⟩), v] ∧ w.grownBy w' (some b) := by
  obtain ⟨j, hj, hjs⟩ := Option.map_eq_some_iff.1 bd_size
  have c0 := hc.cell 0 (v := .pointer p) rfl
  have f0 := hc.free 0
  have hsh : w.shape? b = some (73, 2) := by unfold CellsAt at hc; simp [World.shape?, hc]
  have HC := Lib.hid hc
  clear hc
  rcases hp with rfl | rfl
  · go_enter Tryd.func36, Tryd.ntmps36
    go_wp2_with fail
    rw [Lib.run_to_unsafe w ⟨b, 0, none⟩ Tryd.underlying70 Tryd.underlying105 hj (by rw [hjs]; decide) hsh (Nat.zero_lt_succ 1)]
    simp only [Result.andThen]
    rw [Oper.upon_value]
    go_wp2_with fail
    rw [run_callFunc_extern Tryd.func48 (by kernel_rfl) (by kernel_rfl) (by kernel_rfl) (e := Extern.AbiNoEscape.same) (by kernel_rfl)]
    rw [Lib.run_noEscape]
    simp only [Result.andThen]
    rw [Oper.upon_value]
    go_wp2_with fail
    rw [Lib.run_from_unsafe w ⟨b, 0, none⟩ Tryd.underlying105 Tryd.underlying70 hj hsh bd_lies]
    simp only [Result.andThen]
    rw [Oper.upon_value]
    go_wp2_with fail
    go_end0
    exact ⟨rfl, HC.out.set 0 (.pointer (some ⟨b, 0, none⟩)), grownBy_setCell (grownBy_refl _ _) ⟨b, 0, none⟩ (.inl rfl) _⟩
  · go_enter Tryd.func36, Tryd.ntmps36
    go_wp2_with fail
    rw [Lib.run_neq_ptr_same w _ Tryd.underlying70 hj]
    go_wp2_with fail
    go_end0
    exact ⟨rfl, HC.out, grownBy_refl _ _⟩
theorem ownB_grown {B : Nat} {w w' : World} {v : Value} {bs : List UInt8} {row : Option Nat} (h : OwnB B w v bs) (hg : w.grownBy w' row) (hne : ∀ k, v.ownBlock = some k → row ≠ some k) : OwnB B w' v bs := by
  rcases h with ⟨h1, h2⟩
  refine ⟨h1, ?_⟩
  rcases h2 with h2 | ⟨g, cap, cur, rfl, hb, hgb, hr⟩
  · exact .inl h2
  · refine .inr ⟨g, cap, cur, rfl, hb, ?_, hr⟩
    exact (hg.block g (lt_of_block hgb) (fun e => hne g rfl e.symm)).trans hgb
set_option maxRecDepth 100000 in
set_option maxHeartbeats 1000000 in
theorem bd_write (B b : Nat) (bs s : List UInt8) (w : World) (h : Bd B w b bs) (hl : bs.length ≤ 1000000) (hs : s.length ≤ 1000000) (hB : B ≤ w.heap.size) :
    Calls Tryd.prog 38 #[.pointer (some ⟨b, 0, none⟩), .string (strB s)] w fun e w' => e = .returned (.tuple #[.int .i64 s.length, .nilIface]) ∧ Bd B w' b (bs ++ s) ∧ Below B w w' := by
  obtain ⟨p, v, hp, hBb, hc, ho, hne⟩ := bd_open h
  have HCC := Lib.hid (bd_copy B b p v w hp hc)
  have hsz := strB_size s
  have hbl := hc.lt
  obtain ⟨a, c, rfl, -, -⟩ := ho.row.gen.shape
  clear h hc hp
  go_enter Tryd.func38, Tryd.ntmps38
  go_wp2_with fail
  refine HCC.out.mono ?_
  rintro e w1 ⟨rfl, hc1, hg1⟩
  have ho1 := ownB_grown ho hg1 (fun k hk e => hne (by rw [hk]; exact e.symm))
  have c1 := hc1.cell 1 (v := .slice a bs.length c) rfl
  have hb1 : Below B w w1 := (Below.refl B w).grown hg1 hB (fun k hk => by cases hk; exact hBb)
  have hs1 : B ≤ w1.heap.size := Nat.le_trans hB hg1.size
  have hbl1 : b < w1.heap.size := hc1.lt
  have HC1 := Lib.hid hc1
  have HB1 := Lib.hid hb1
  clear HCC ho hg1 hc1 hb1
  go_wp2_with (at_builtin; go_must (refine wpList_appendStr ho1 (strB s) s rfl (by omega) hs1 rfl _ _ rfl rfl rfl ?_))
  intro v2 w2 ho2 hg2 hn2
  obtain ⟨Y, hY⟩ : ∃ Y, Y = bs ++ s := ⟨_, rfl⟩
  rw [← hY] at ho2
  have HY := Lib.hid hY
  clear hY
  have hne2 : v2.ownBlock ≠ some b := fun e => by
    rcases hn2 b e with h | h
    · exact hne h
    · omega
  have hc2 := HC1.out.grown hg2 (fun e => hne e)
  have hb2 : Below B w w2 := OwnB.below ho1 HB1.out hg2 hs1
  have c1 := hc2.cell 1 (v := .slice a bs.length c) rfl
  have f1 := hc2.free 1
  obtain ⟨a2, c2, rfl, -, -⟩ := ho2.row.gen.shape
  have HC2 := Lib.hid hc2
  have HO2 := Lib.hid ho2
  have HB2 := Lib.hid hb2
  have HN2 := Lib.hid hne2
  clear ho1 hg2 hn2 hne2 hc2 ho2 hb2
  go_wp2_with fail
  go_ret2
  have hg3 : w2.grownBy (w2.setCell ⟨b, 1, none⟩ (.slice a2 Y.length c2)) (some b) := grownBy_setCell (grownBy_refl _ _) ⟨b, 1, none⟩ (.inl rfl) _
  exact ⟨rfl, by rw [← HY.out]; exact bd_used hBb (HC2.out.set 1 _) (ownB_grown HO2.out hg3 (fun k hk e => HN2.out (by rw [hk]; exact e.symm))) HN2.out, HB2.out.setCell hBb _⟩
set_option maxRecDepth 100000 in
set_option maxHeartbeats 1000000 in
theorem bd_byte (B b : Nat) (bs : List UInt8) (c : UInt8) (w : World) (h : Bd B w b bs) (hl : bs.length ≤ 1000000) (hB : B ≤ w.heap.size) :
    Calls Tryd.prog 26 #[.pointer (some ⟨b, 0, none⟩), BV c] w fun e w' => e = .returned .nilIface ∧ Bd B w' b (bs ++ [c]) ∧ Below B w w' := by
  obtain ⟨p, v, hp, hBb, hc, ho, hne⟩ := bd_open h
  have HCC := Lib.hid (bd_copy B b p v w hp hc)
  have hbl := hc.lt
  obtain ⟨a, cp, rfl, -, -⟩ := ho.row.gen.shape
  obtain ⟨n, hn⟩ : ∃ n : Int, n = ((c.toNat : Nat) : Int) := ⟨_, rfl⟩
  have hC : BV c = .int .u8 n := by rw [BV_def, hn]
  rw [hC]
  have HC := Lib.hid hC
  clear h hc hp hC hn
  go_enter Tryd.func26, Tryd.ntmps26
  go_wp2_with fail
  refine HCC.out.mono ?_
  rintro e w1 ⟨rfl, hc1, hg1⟩
  have ho1 := ownB_grown ho hg1 (fun k hk e => hne (by rw [hk]; exact e.symm))
  have c1 := hc1.cell 1 (v := .slice a bs.length cp) rfl
  have hb1 : Below B w w1 := (Below.refl B w).grown hg1 hB (fun k hk => by cases hk; exact hBb)
  have hs1 : B ≤ w1.heap.size := Nat.le_trans hB hg1.size
  have hbl1 : b < w1.heap.size := hc1.lt
  have HC1 := Lib.hid hc1
  have HB1 := Lib.hid hb1
  clear HCC ho hg1 hc1 hb1
  go_wp2_with (at_builtin; go_must (refine wpList_pushB ho1 c (by omega) hs1 rfl _ _ rfl (by rfl) _ _ _ (by rfl) (by rw [HC.out]) ?_))
  intro v2 w2 ho2 hg2 hn2
  obtain ⟨Y, hY⟩ : ∃ Y, Y = bs ++ [c] := ⟨_, rfl⟩
  rw [← hY] at ho2
  have HY := Lib.hid hY
  clear hY
  have hne2 : v2.ownBlock ≠ some b := fun e => by
    rcases hn2 b e with h | h
    · exact hne h
    · omega
  have hc2 := HC1.out.grown hg2 (fun e => hne e)
  have hb2 : Below B w w2 := OwnB.below ho1 HB1.out hg2 hs1
  have c1 := hc2.cell 1 (v := .slice a bs.length cp) rfl
  have f1 := hc2.free 1
  obtain ⟨a2, c2, rfl, -, -⟩ := ho2.row.gen.shape
  have HC2 := Lib.hid hc2
  have HO2 := Lib.hid ho2
  have HB2 := Lib.hid hb2
  have HN2 := Lib.hid hne2
  clear ho1 hg2 hn2 hne2 hc2 ho2 hb2
  go_wp2_with fail
  go_ret
  have hg3 : w2.grownBy (w2.setCell ⟨b, 1, none⟩ (.slice a2 Y.length c2)) (some b) := grownBy_setCell (grownBy_refl _ _) ⟨b, 1, none⟩ (.inl rfl) _
  exact ⟨rfl, by rw [← HY.out]; exact bd_used hBb (HC2.out.set 1 _) (ownB_grown HO2.out hg3 (fun k hk e => HN2.out (by rw [hk]; exact e.symm))) HN2.out, HB2.out.setCell hBb _⟩
theorem bd_string (B b : Nat) (bs : List UInt8) (w : World) (h : Bd B w b bs) (hB : B ≤ w.heap.size) :
    Calls Tryd.prog 27 #[.pointer (some ⟨b, 0, none⟩)] w fun e w' => e = .returned (.string (strB bs)) ∧ Below B w w' :=
  Any.Builder_String_any Tryd.lays169 Tryd.Builder_Extra_169 B b bs w h hB
end Go.Proofs.YtcjflglpkpkflaaDoor
