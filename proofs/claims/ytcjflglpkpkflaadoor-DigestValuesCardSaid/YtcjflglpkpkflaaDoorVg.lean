/- The program's order of values: Field.order, Pair.order, slices.CompareFunc at fields, values, pairs; Compare, Same. -/
import Derived.Test.YtcjflglpkpkflaaDoorVf
import Derived.Test.YtcjflglpkpkflaaDoorVe
import Derived.Deep.RegionHeld3
import Derived.Deep.CutBlock
import Derived.Deep.DeepCutAuto
namespace Go.Proofs.YtcjflglpkpkflaaDoor
open Go Go.RowKit
set_option linter.unusedVariables false
theorem below_al {W1 W : World} (h : Below W1.heap.size W1 W) (o : Obj) : Below W1.heap.size W1 (W.alloc o) := h.alloc h.size o
/-- a value's order, of all that are compared with it -/
def CmpC (v : V) : Prop := ∀ (v' : V) (a a' : A3) (S S' : Nat → Prop) (w : World), Rep S w v a → Rep S' w v' a' →
    Calls Tryd.prog 77 #[vG (v, a), vG (v', a')] w fun e w' => e = .returned (.int .i64 (cmpV v v')) ∧ Below w.heap.size w w'
section
variable {k k2 : Int} {n n2 : Nat} {t r t2 r2 : List UInt8} {fs fs2 : List (Int × V)} {ls ls2 : List V} {ps ps2 : List (V × V)} {fa la pa fa2 la2 pa2 : Option Addr} {fc lc pc fc2 lc2 pc2 : Nat} {S S' : Nat → Prop} {w : World}
theorem CmpC.lit (h : CmpC (.mk k n t fs r ls ps)) (hr : Rep S w (.mk k n t fs r ls ps) ⟨fa, fc, la, lc, pa, pc⟩) (hr' : Rep S' w (.mk k2 n2 t2 fs2 r2 ls2 ps2) ⟨fa2, fc2, la2, lc2, pa2, pc2⟩) :
    Calls Tryd.prog 77 #[.agg #[.int .i64 k, .int .u64 (n : Int), .string (strB t), .slice fa fs.length fc, .string (strB r), .slice la ls.length lc, .slice pa ps.length pc], .agg #[.int .i64 k2, .int .u64 (n2 : Int), .string (strB t2), .slice fa2 fs2.length fc2, .string (strB r2), .slice la2 ls2.length lc2, .slice pa2 ps2.length pc2]] w
      fun e w' => e = .returned (.int .i64 (cmpV (.mk k n t fs r ls ps) (.mk k2 n2 t2 fs2 r2 ls2 ps2))) ∧ Below w.heap.size w w' := by
  have := h _ _ _ _ _ w hr hr'
  rw [vG_lit, vG_lit] at this
  exact this
set_option maxRecDepth 100000 in
set_option maxHeartbeats 4000000 in
theorem forder_any (h : CmpC (.mk k n t fs r ls ps)) (hr : Rep S w (.mk k n t fs r ls ps) ⟨fa, fc, la, lc, pa, pc⟩) (hr' : Rep S' w (.mk k2 n2 t2 fs2 r2 ls2 ps2) ⟨fa2, fc2, la2, lc2, pa2, pc2⟩) (a b : Int) :
    Calls Tryd.prog 83 #[.agg #[.int .i64 a, .int .i64 k, .int .u64 (n : Int), .string (strB t), .slice fa fs.length fc, .string (strB r), .slice la ls.length lc, .slice pa ps.length pc], .agg #[.int .i64 b, .int .i64 k2, .int .u64 (n2 : Int), .string (strB t2), .slice fa2 fs2.length fc2, .string (strB r2), .slice la2 ls2.length lc2, .slice pa2 ps2.length pc2]] w
      fun e w' => e = .returned (.int .i64 (orI (sgnI a b) (cmpV (.mk k n t fs r ls ps) (.mk k2 n2 t2 fs2 r2 ls2 ps2)))) ∧ Below w.heap.size w w' := by
  have HC : Hid (∀ W, Below w.heap.size w W → Calls _ _ _ W _) := fun W hb => CmpC.lit h (hr.stays hb) (hr'.stays hb)
  clear h hr hr'
  generalize cmpV (.mk k n t fs r ls ps) (.mk k2 n2 t2 fs2 r2 ls2 ps2) = C at HC ⊢
  have hba : Below w.heap.size w ((w.alloc (.cells #[.int .i64 a, .int .i64 k, .int .u64 (n : Int), .string (strB t), .slice fa fs.length fc, .string (strB r), .slice la ls.length lc, .slice pa ps.length pc] 51)).alloc (.cells #[.int .i64 b, .int .i64 k2, .int .u64 (n2 : Int), .string (strB t2), .slice fa2 fs2.length fc2, .string (strB r2), .slice la2 ls2.length lc2, .slice pa2 ps2.length pc2] 51)) := ((Below.refl _ _).alloc (Nat.le_refl _) _).alloc (by simp) _
  have hcx : CellsAt ((w.alloc (.cells #[.int .i64 a, .int .i64 k, .int .u64 (n : Int), .string (strB t), .slice fa fs.length fc, .string (strB r), .slice la ls.length lc, .slice pa ps.length pc] 51)).alloc (.cells #[.int .i64 b, .int .i64 k2, .int .u64 (n2 : Int), .string (strB t2), .slice fa2 fs2.length fc2, .string (strB r2), .slice la2 ls2.length lc2, .slice pa2 ps2.length pc2] 51)) w.heap.size 51 #[.int .i64 a, .int .i64 k, .int .u64 (n : Int), .string (strB t), .slice fa fs.length fc, .string (strB r), .slice la ls.length lc, .slice pa ps.length pc] := (CellsAt.new w _ _).stays ((Below.refl _ _).alloc (Nat.le_refl _) _)
  have hcy := CellsAt.new (w.alloc (.cells #[.int .i64 a, .int .i64 k, .int .u64 (n : Int), .string (strB t), .slice fa fs.length fc, .string (strB r), .slice la ls.length lc, .slice pa ps.length pc] 51)) #[.int .i64 b, .int .i64 k2, .int .u64 (n2 : Int), .string (strB t2), .slice fa2 fs2.length fc2, .string (strB r2), .slice la2 ls2.length lc2, .slice pa2 ps2.length pc2] 51
  rw [show (w.alloc (.cells #[.int .i64 a, .int .i64 k, .int .u64 (n : Int), .string (strB t), .slice fa fs.length fc, .string (strB r), .slice la ls.length lc, .slice pa ps.length pc] 51)).heap.size = w.heap.size + 1 by simp] at hcy
  have HBA := Lib.hid hba
  have HCX := Lib.hid hcx
  have HCY := Lib.hid hcy
  clear hba hcx hcy
  go_enter Tryd.func83, Tryd.ntmps83
  go_wp2_with fail
  generalize (w.alloc (.cells #[.int .i64 a, .int .i64 k, .int .u64 (n : Int), .string (strB t), .slice fa fs.length fc, .string (strB r), .slice la ls.length lc, .slice pa ps.length pc] 51)).alloc (.cells #[.int .i64 b, .int .i64 k2, .int .u64 (n2 : Int), .string (strB t2), .slice fa2 fs2.length fc2, .string (strB r2), .slice la2 ls2.length lc2, .slice pa2 ps2.length pc2] 51) = W1 at HBA HCX HCY ⊢
  obtain ⟨g, hg⟩ : ∃ g, g = w.heap.size := ⟨_, rfl⟩
  rw [← hg] at HCX HCY ⊢
  clear hg
  have HS : Hid (∀ W, Below W1.heap.size W1 W → Below W1.heap.size W1 W ∧ W.cell? ⟨g, 0, none⟩ = some (.int .i64 a) ∧ W.cell? ⟨g, 1, none⟩ = some (.int .i64 k) ∧ W.cell? ⟨g, 2, none⟩ = some (.int .u64 (n : Int)) ∧ W.cell? ⟨g, 3, none⟩ = some (.string (strB t)) ∧ W.cell? ⟨g, 4, none⟩ = some (.slice fa fs.length fc) ∧ W.cell? ⟨g, 5, none⟩ = some (.string (strB r)) ∧ W.cell? ⟨g, 6, none⟩ = some (.slice la ls.length lc) ∧ W.cell? ⟨g, 7, none⟩ = some (.slice pa ps.length pc) ∧
      W.cell? ⟨g + 1, 0, none⟩ = some (.int .i64 b) ∧ W.cell? ⟨g + 1, 1, none⟩ = some (.int .i64 k2) ∧ W.cell? ⟨g + 1, 2, none⟩ = some (.int .u64 (n2 : Int)) ∧ W.cell? ⟨g + 1, 3, none⟩ = some (.string (strB t2)) ∧ W.cell? ⟨g + 1, 4, none⟩ = some (.slice fa2 fs2.length fc2) ∧ W.cell? ⟨g + 1, 5, none⟩ = some (.string (strB r2)) ∧ W.cell? ⟨g + 1, 6, none⟩ = some (.slice la2 ls2.length lc2) ∧ W.cell? ⟨g + 1, 7, none⟩ = some (.slice pa2 ps2.length pc2)) := fun W hb => by
    have h1 := HCX.out.stays hb
    have h2 := HCY.out.stays hb
    exact ⟨hb, h1.cell 0 rfl, h1.cell 1 rfl, h1.cell 2 rfl, h1.cell 3 rfl, h1.cell 4 rfl, h1.cell 5 rfl, h1.cell 6 rfl, h1.cell 7 rfl, h2.cell 0 rfl, h2.cell 1 rfl, h2.cell 2 rfl, h2.cell 3 rfl, h2.cell 4 rfl, h2.cell 5 rfl, h2.cell 6 rfl, h2.cell 7 rfl⟩
  have HC1 : Hid (∀ W, Below W1.heap.size W1 W → Calls Tryd.prog 77 #[.agg #[.int .i64 k, .int .u64 (n : Int), .string (strB t), .slice fa fs.length fc, .string (strB r), .slice la ls.length lc, .slice pa ps.length pc], .agg #[.int .i64 k2, .int .u64 (n2 : Int), .string (strB t2), .slice fa2 fs2.length fc2, .string (strB r2), .slice la2 ls2.length lc2, .slice pa2 ps2.length pc2]] W fun e w' => e = .returned (.int .i64 C) ∧ Below W.heap.size W w') := fun W hb => HC.out W (HBA.out.trans (hb.mono HBA.out.size))
  have hd0 : Below W1.heap.size W1 W1 := Below.refl _ _
  have hd1 : Below W1.heap.size W1 W1.drew := hd0.drew
  clear HC HCX HCY
  go_region_held3 (fun W => Below W1.heap.size W1 W ∧ W.cell? ⟨g, 0, none⟩ = some (.int .i64 a) ∧ W.cell? ⟨g, 1, none⟩ = some (.int .i64 k) ∧ W.cell? ⟨g, 2, none⟩ = some (.int .u64 (n : Int)) ∧ W.cell? ⟨g, 3, none⟩ = some (.string (strB t)) ∧ W.cell? ⟨g, 4, none⟩ = some (.slice fa fs.length fc) ∧ W.cell? ⟨g, 5, none⟩ = some (.string (strB r)) ∧ W.cell? ⟨g, 6, none⟩ = some (.slice la ls.length lc) ∧ W.cell? ⟨g, 7, none⟩ = some (.slice pa ps.length pc) ∧
      W.cell? ⟨g + 1, 0, none⟩ = some (.int .i64 b) ∧ W.cell? ⟨g + 1, 1, none⟩ = some (.int .i64 k2) ∧ W.cell? ⟨g + 1, 2, none⟩ = some (.int .u64 (n2 : Int)) ∧ W.cell? ⟨g + 1, 3, none⟩ = some (.string (strB t2)) ∧ W.cell? ⟨g + 1, 4, none⟩ = some (.slice fa2 fs2.length fc2) ∧ W.cell? ⟨g + 1, 5, none⟩ = some (.string (strB r2)) ∧ W.cell? ⟨g + 1, 6, none⟩ = some (.slice la2 ls2.length lc2) ∧ W.cell? ⟨g + 1, 7, none⟩ = some (.slice pa2 ps2.length pc2))
    (first | exact HS.out _ (by assumption) | exact HS.out _ (below_al (by assumption) _) | exact HS.out _ (below_al (by assumption) _).drew)
    ((first
      | (go_at_call 78; (with_reducible refine (cmpI_any _ _ _).mono ?_); rintro e w5 ⟨rfl, rfl⟩)
      | (go_at_call 77; (with_reducible refine (HC1.out _ (by assumption)).mono ?_); rintro e w6 ⟨rfl, hb6⟩; have hb7 := hd1.trans (hb6.mono hd1.size))
      | (go_at_call 81; (with_reducible refine (orA_any _ _ _ _).mono ?_); rintro e w8 ⟨rfl, rfl⟩)
      | (go_at_call 81; (with_reducible refine (orD_any _ _ _ _).mono ?_); rintro e w8 ⟨rfl, rfl⟩)))
  all_goals go_wp2_with fail
  all_goals go_ret
  all_goals exact ⟨rfl, HBA.out.trans (Below.mono (by first | exact (below_al hb7 _) | exact (below_al hb7 _).drew) HBA.out.size)⟩
set_option maxRecDepth 100000 in
set_option maxHeartbeats 4000000 in
theorem porder_any {k3 k4 : Int} {n3 n4 : Nat} {t3 r3 t4 r4 : List UInt8} {fs3 fs4 : List (Int × V)} {ls3 ls4 : List V} {ps3 ps4 : List (V × V)} {fa3 la3 pa3 fa4 la4 pa4 : Option Addr} {fc3 lc3 pc3 fc4 lc4 pc4 : Nat} {S3 S4 : Nat → Prop}
    (h : CmpC (.mk k n t fs r ls ps)) (h' : CmpC (.mk k3 n3 t3 fs3 r3 ls3 ps3)) (hr : Rep S w (.mk k n t fs r ls ps) ⟨fa, fc, la, lc, pa, pc⟩) (hr' : Rep S' w (.mk k2 n2 t2 fs2 r2 ls2 ps2) ⟨fa2, fc2, la2, lc2, pa2, pc2⟩) (hr3 : Rep S3 w (.mk k3 n3 t3 fs3 r3 ls3 ps3) ⟨fa3, fc3, la3, lc3, pa3, pc3⟩) (hr4 : Rep S4 w (.mk k4 n4 t4 fs4 r4 ls4 ps4) ⟨fa4, fc4, la4, lc4, pa4, pc4⟩) :
    Calls Tryd.prog 86 #[.agg #[.int .i64 k, .int .u64 (n : Int), .string (strB t), .slice fa fs.length fc, .string (strB r), .slice la ls.length lc, .slice pa ps.length pc, .int .i64 k3, .int .u64 (n3 : Int), .string (strB t3), .slice fa3 fs3.length fc3, .string (strB r3), .slice la3 ls3.length lc3, .slice pa3 ps3.length pc3], .agg #[.int .i64 k2, .int .u64 (n2 : Int), .string (strB t2), .slice fa2 fs2.length fc2, .string (strB r2), .slice la2 ls2.length lc2, .slice pa2 ps2.length pc2, .int .i64 k4, .int .u64 (n4 : Int), .string (strB t4), .slice fa4 fs4.length fc4, .string (strB r4), .slice la4 ls4.length lc4, .slice pa4 ps4.length pc4]] w
      fun e w' => e = .returned (.int .i64 (orI (cmpV (.mk k n t fs r ls ps) (.mk k2 n2 t2 fs2 r2 ls2 ps2)) (cmpV (.mk k3 n3 t3 fs3 r3 ls3 ps3) (.mk k4 n4 t4 fs4 r4 ls4 ps4)))) ∧ Below w.heap.size w w' := by
  have HC : Hid (∀ W, Below w.heap.size w W → Calls _ _ _ W _) := fun W hb => CmpC.lit h (hr.stays hb) (hr'.stays hb)
  have HD : Hid (∀ W, Below w.heap.size w W → Calls _ _ _ W _) := fun W hb => CmpC.lit h' (hr3.stays hb) (hr4.stays hb)
  clear h h' hr hr' hr3 hr4
  generalize cmpV (.mk k n t fs r ls ps) (.mk k2 n2 t2 fs2 r2 ls2 ps2) = C at HC ⊢
  generalize cmpV (.mk k3 n3 t3 fs3 r3 ls3 ps3) (.mk k4 n4 t4 fs4 r4 ls4 ps4) = D at HD ⊢
  have hba : Below w.heap.size w ((w.alloc (.cells #[.int .i64 k, .int .u64 (n : Int), .string (strB t), .slice fa fs.length fc, .string (strB r), .slice la ls.length lc, .slice pa ps.length pc, .int .i64 k3, .int .u64 (n3 : Int), .string (strB t3), .slice fa3 fs3.length fc3, .string (strB r3), .slice la3 ls3.length lc3, .slice pa3 ps3.length pc3] 56)).alloc (.cells #[.int .i64 k2, .int .u64 (n2 : Int), .string (strB t2), .slice fa2 fs2.length fc2, .string (strB r2), .slice la2 ls2.length lc2, .slice pa2 ps2.length pc2, .int .i64 k4, .int .u64 (n4 : Int), .string (strB t4), .slice fa4 fs4.length fc4, .string (strB r4), .slice la4 ls4.length lc4, .slice pa4 ps4.length pc4] 56)) := ((Below.refl _ _).alloc (Nat.le_refl _) _).alloc (by simp) _
  have hcx : CellsAt ((w.alloc (.cells #[.int .i64 k, .int .u64 (n : Int), .string (strB t), .slice fa fs.length fc, .string (strB r), .slice la ls.length lc, .slice pa ps.length pc, .int .i64 k3, .int .u64 (n3 : Int), .string (strB t3), .slice fa3 fs3.length fc3, .string (strB r3), .slice la3 ls3.length lc3, .slice pa3 ps3.length pc3] 56)).alloc (.cells #[.int .i64 k2, .int .u64 (n2 : Int), .string (strB t2), .slice fa2 fs2.length fc2, .string (strB r2), .slice la2 ls2.length lc2, .slice pa2 ps2.length pc2, .int .i64 k4, .int .u64 (n4 : Int), .string (strB t4), .slice fa4 fs4.length fc4, .string (strB r4), .slice la4 ls4.length lc4, .slice pa4 ps4.length pc4] 56)) w.heap.size 56 #[.int .i64 k, .int .u64 (n : Int), .string (strB t), .slice fa fs.length fc, .string (strB r), .slice la ls.length lc, .slice pa ps.length pc, .int .i64 k3, .int .u64 (n3 : Int), .string (strB t3), .slice fa3 fs3.length fc3, .string (strB r3), .slice la3 ls3.length lc3, .slice pa3 ps3.length pc3] := (CellsAt.new w _ _).stays ((Below.refl _ _).alloc (Nat.le_refl _) _)
  have hcy := CellsAt.new (w.alloc (.cells #[.int .i64 k, .int .u64 (n : Int), .string (strB t), .slice fa fs.length fc, .string (strB r), .slice la ls.length lc, .slice pa ps.length pc, .int .i64 k3, .int .u64 (n3 : Int), .string (strB t3), .slice fa3 fs3.length fc3, .string (strB r3), .slice la3 ls3.length lc3, .slice pa3 ps3.length pc3] 56)) #[.int .i64 k2, .int .u64 (n2 : Int), .string (strB t2), .slice fa2 fs2.length fc2, .string (strB r2), .slice la2 ls2.length lc2, .slice pa2 ps2.length pc2, .int .i64 k4, .int .u64 (n4 : Int), .string (strB t4), .slice fa4 fs4.length fc4, .string (strB r4), .slice la4 ls4.length lc4, .slice pa4 ps4.length pc4] 56
  rw [show (w.alloc (.cells #[.int .i64 k, .int .u64 (n : Int), .string (strB t), .slice fa fs.length fc, .string (strB r), .slice la ls.length lc, .slice pa ps.length pc, .int .i64 k3, .int .u64 (n3 : Int), .string (strB t3), .slice fa3 fs3.length fc3, .string (strB r3), .slice la3 ls3.length lc3, .slice pa3 ps3.length pc3] 56)).heap.size = w.heap.size + 1 by simp] at hcy
  have HBA := Lib.hid hba
  have HCX := Lib.hid hcx
  have HCY := Lib.hid hcy
  clear hba hcx hcy
  go_enter Tryd.func86, Tryd.ntmps86
  go_wp2_with fail
  generalize (w.alloc (.cells #[.int .i64 k, .int .u64 (n : Int), .string (strB t), .slice fa fs.length fc, .string (strB r), .slice la ls.length lc, .slice pa ps.length pc, .int .i64 k3, .int .u64 (n3 : Int), .string (strB t3), .slice fa3 fs3.length fc3, .string (strB r3), .slice la3 ls3.length lc3, .slice pa3 ps3.length pc3] 56)).alloc (.cells #[.int .i64 k2, .int .u64 (n2 : Int), .string (strB t2), .slice fa2 fs2.length fc2, .string (strB r2), .slice la2 ls2.length lc2, .slice pa2 ps2.length pc2, .int .i64 k4, .int .u64 (n4 : Int), .string (strB t4), .slice fa4 fs4.length fc4, .string (strB r4), .slice la4 ls4.length lc4, .slice pa4 ps4.length pc4] 56) = W1 at HBA HCX HCY ⊢
  obtain ⟨g, hg⟩ : ∃ g, g = w.heap.size := ⟨_, rfl⟩
  rw [← hg] at HCX HCY ⊢
  clear hg
  have HS : Hid (∀ W, Below W1.heap.size W1 W → Below W1.heap.size W1 W ∧ W.cell? ⟨g, 0, none⟩ = some (.int .i64 k) ∧ W.cell? ⟨g, 1, none⟩ = some (.int .u64 (n : Int)) ∧ W.cell? ⟨g, 2, none⟩ = some (.string (strB t)) ∧ W.cell? ⟨g, 3, none⟩ = some (.slice fa fs.length fc) ∧ W.cell? ⟨g, 4, none⟩ = some (.string (strB r)) ∧ W.cell? ⟨g, 5, none⟩ = some (.slice la ls.length lc) ∧ W.cell? ⟨g, 6, none⟩ = some (.slice pa ps.length pc) ∧ W.cell? ⟨g, 7, none⟩ = some (.int .i64 k3) ∧ W.cell? ⟨g, 8, none⟩ = some (.int .u64 (n3 : Int)) ∧ W.cell? ⟨g, 9, none⟩ = some (.string (strB t3)) ∧ W.cell? ⟨g, 10, none⟩ = some (.slice fa3 fs3.length fc3) ∧ W.cell? ⟨g, 11, none⟩ = some (.string (strB r3)) ∧ W.cell? ⟨g, 12, none⟩ = some (.slice la3 ls3.length lc3) ∧ W.cell? ⟨g, 13, none⟩ = some (.slice pa3 ps3.length pc3) ∧ W.cell? ⟨g + 1, 0, none⟩ = some (.int .i64 k2) ∧ W.cell? ⟨g + 1, 1, none⟩ = some (.int .u64 (n2 : Int)) ∧ W.cell? ⟨g + 1, 2, none⟩ = some (.string (strB t2)) ∧ W.cell? ⟨g + 1, 3, none⟩ = some (.slice fa2 fs2.length fc2) ∧ W.cell? ⟨g + 1, 4, none⟩ = some (.string (strB r2)) ∧ W.cell? ⟨g + 1, 5, none⟩ = some (.slice la2 ls2.length lc2) ∧ W.cell? ⟨g + 1, 6, none⟩ = some (.slice pa2 ps2.length pc2) ∧ W.cell? ⟨g + 1, 7, none⟩ = some (.int .i64 k4) ∧ W.cell? ⟨g + 1, 8, none⟩ = some (.int .u64 (n4 : Int)) ∧ W.cell? ⟨g + 1, 9, none⟩ = some (.string (strB t4)) ∧ W.cell? ⟨g + 1, 10, none⟩ = some (.slice fa4 fs4.length fc4) ∧ W.cell? ⟨g + 1, 11, none⟩ = some (.string (strB r4)) ∧ W.cell? ⟨g + 1, 12, none⟩ = some (.slice la4 ls4.length lc4) ∧ W.cell? ⟨g + 1, 13, none⟩ = some (.slice pa4 ps4.length pc4)) := fun W hb => by
    have h1 := HCX.out.stays hb
    have h2 := HCY.out.stays hb
    exact ⟨hb, h1.cell 0 rfl, h1.cell 1 rfl, h1.cell 2 rfl, h1.cell 3 rfl, h1.cell 4 rfl, h1.cell 5 rfl, h1.cell 6 rfl, h1.cell 7 rfl, h1.cell 8 rfl, h1.cell 9 rfl, h1.cell 10 rfl, h1.cell 11 rfl, h1.cell 12 rfl, h1.cell 13 rfl, h2.cell 0 rfl, h2.cell 1 rfl, h2.cell 2 rfl, h2.cell 3 rfl, h2.cell 4 rfl, h2.cell 5 rfl, h2.cell 6 rfl, h2.cell 7 rfl, h2.cell 8 rfl, h2.cell 9 rfl, h2.cell 10 rfl, h2.cell 11 rfl, h2.cell 12 rfl, h2.cell 13 rfl⟩
  have HC1 : Hid (∀ W, Below W1.heap.size W1 W → Calls Tryd.prog 77 #[.agg #[.int .i64 k, .int .u64 (n : Int), .string (strB t), .slice fa fs.length fc, .string (strB r), .slice la ls.length lc, .slice pa ps.length pc], .agg #[.int .i64 k2, .int .u64 (n2 : Int), .string (strB t2), .slice fa2 fs2.length fc2, .string (strB r2), .slice la2 ls2.length lc2, .slice pa2 ps2.length pc2]] W fun e w' => e = .returned (.int .i64 C) ∧ Below W.heap.size W w') := fun W hb => HC.out W (HBA.out.trans (hb.mono HBA.out.size))
  have HD1 : Hid (∀ W, Below W1.heap.size W1 W → Calls Tryd.prog 77 #[.agg #[.int .i64 k3, .int .u64 (n3 : Int), .string (strB t3), .slice fa3 fs3.length fc3, .string (strB r3), .slice la3 ls3.length lc3, .slice pa3 ps3.length pc3], .agg #[.int .i64 k4, .int .u64 (n4 : Int), .string (strB t4), .slice fa4 fs4.length fc4, .string (strB r4), .slice la4 ls4.length lc4, .slice pa4 ps4.length pc4]] W fun e w' => e = .returned (.int .i64 D) ∧ Below W.heap.size W w') := fun W hb => HD.out W (HBA.out.trans (hb.mono HBA.out.size))
  have hd0 : Below W1.heap.size W1 W1 := Below.refl _ _
  have hd1 : Below W1.heap.size W1 W1.drew := hd0.drew
  clear HC HD HCX HCY
  go_region_held3 (fun W => Below W1.heap.size W1 W ∧ W.cell? ⟨g, 0, none⟩ = some (.int .i64 k) ∧ W.cell? ⟨g, 1, none⟩ = some (.int .u64 (n : Int)) ∧ W.cell? ⟨g, 2, none⟩ = some (.string (strB t)) ∧ W.cell? ⟨g, 3, none⟩ = some (.slice fa fs.length fc) ∧ W.cell? ⟨g, 4, none⟩ = some (.string (strB r)) ∧ W.cell? ⟨g, 5, none⟩ = some (.slice la ls.length lc) ∧ W.cell? ⟨g, 6, none⟩ = some (.slice pa ps.length pc) ∧ W.cell? ⟨g, 7, none⟩ = some (.int .i64 k3) ∧ W.cell? ⟨g, 8, none⟩ = some (.int .u64 (n3 : Int)) ∧ W.cell? ⟨g, 9, none⟩ = some (.string (strB t3)) ∧ W.cell? ⟨g, 10, none⟩ = some (.slice fa3 fs3.length fc3) ∧ W.cell? ⟨g, 11, none⟩ = some (.string (strB r3)) ∧ W.cell? ⟨g, 12, none⟩ = some (.slice la3 ls3.length lc3) ∧ W.cell? ⟨g, 13, none⟩ = some (.slice pa3 ps3.length pc3) ∧ W.cell? ⟨g + 1, 0, none⟩ = some (.int .i64 k2) ∧ W.cell? ⟨g + 1, 1, none⟩ = some (.int .u64 (n2 : Int)) ∧ W.cell? ⟨g + 1, 2, none⟩ = some (.string (strB t2)) ∧ W.cell? ⟨g + 1, 3, none⟩ = some (.slice fa2 fs2.length fc2) ∧ W.cell? ⟨g + 1, 4, none⟩ = some (.string (strB r2)) ∧ W.cell? ⟨g + 1, 5, none⟩ = some (.slice la2 ls2.length lc2) ∧ W.cell? ⟨g + 1, 6, none⟩ = some (.slice pa2 ps2.length pc2) ∧ W.cell? ⟨g + 1, 7, none⟩ = some (.int .i64 k4) ∧ W.cell? ⟨g + 1, 8, none⟩ = some (.int .u64 (n4 : Int)) ∧ W.cell? ⟨g + 1, 9, none⟩ = some (.string (strB t4)) ∧ W.cell? ⟨g + 1, 10, none⟩ = some (.slice fa4 fs4.length fc4) ∧ W.cell? ⟨g + 1, 11, none⟩ = some (.string (strB r4)) ∧ W.cell? ⟨g + 1, 12, none⟩ = some (.slice la4 ls4.length lc4) ∧ W.cell? ⟨g + 1, 13, none⟩ = some (.slice pa4 ps4.length pc4))
    (first | exact HS.out _ (by assumption) | exact HS.out _ (below_al (by assumption) _) | exact HS.out _ (below_al (by assumption) _).drew)
    ((first
      | (go_at_call 77; (with_reducible refine (HC1.out _ (by assumption)).mono ?_); rintro e w6 ⟨rfl, hb6⟩; have hb7 := hd1.trans (hb6.mono hd1.size))
      | (go_at_call 77; (with_reducible refine (HD1.out _ (by assumption)).mono ?_); rintro e w7 ⟨rfl, hb8⟩; have hb9 := hb7.trans (hb8.mono hb7.size))
      | (go_at_call 81; (with_reducible refine (orA_any _ _ _ _).mono ?_); rintro e w8 ⟨rfl, rfl⟩)
      | (go_at_call 81; (with_reducible refine (orD_any _ _ _ _).mono ?_); rintro e w8 ⟨rfl, rfl⟩)))
  all_goals go_wp2_with fail
  all_goals go_ret
  all_goals exact ⟨rfl, HBA.out.trans (Below.mono (by first | exact (below_al hb9 _) | exact (below_al hb9 _).drew) HBA.out.size)⟩
set_option maxRecDepth 100000 in
set_option maxHeartbeats 4000000 in
theorem cmpFields_any (HCF : ∀ p ∈ fs, CmpC p.2) (hr : Rep S w (.mk k n t fs r ls ps) ⟨fa, fc, la, lc, pa, pc⟩) (hr' : Rep S' w (.mk k2 n2 t2 fs2 r2 ls2 ps2) ⟨fa2, fc2, la2, lc2, pa2, pc2⟩) :
    Calls Tryd.prog 82 #[.slice fa fs.length fc, .slice fa2 fs2.length fc2, .func (.func 83) #[] #[]] w
      fun e w' => e = .returned (.int .i64 (cmpF fs fs2)) ∧ Below w.heap.size w w' := by
  have HR : Hid (∀ W, Below w.heap.size w W → Rep S W (.mk k n t fs r ls ps) ⟨fa, fc, la, lc, pa, pc⟩ ∧ Rep S' W (.mk k2 n2 t2 fs2 r2 ls2 ps2) ⟨fa2, fc2, la2, lc2, pa2, pc2⟩) := fun W hb => ⟨hr.stays hb, hr'.stays hb⟩
  have HCC := Lib.hid HCF
  obtain ⟨-, -, hfl, hll, hpl⟩ := hr.bds
  obtain ⟨-, -, hfl2, hll2, hpl2⟩ := hr'.bds
  unfold maxLen at hfl hfl2 hll hll2 hpl hpl2
  clear HCF hr hr'
  go_enter Tryd.func82, Tryd.ntmps82
  go_wp2_with fail
  go_loopw [13] (fun i wr => ∃ m : Nat, m ≤ fs.length ∧ m ≤ fs2.length ∧ i = .int .i64 m ∧ Hid (cmpF (fs.drop m) (fs2.drop m) = cmpF fs fs2) ∧ Below w.heap.size w wr) (fun i _ => fs.length - (intOf i).toNat)
  case atStart => exact ⟨0, Nat.zero_le _, Nat.zero_le _, rfl, rfl, Below.refl _ _⟩
  case round =>
    obtain ⟨m, hm, hm2, rfl, HL, hbe⟩ := hrel
    by_cases h1 : m < fs.length
    · obtain ⟨⟨num, ⟨k', n', t', fs', r', ls', ps'⟩⟩, hq⟩ : ∃ p, fs[m]? = some p := ⟨_, List.getElem?_eq_getElem h1⟩
      obtain ⟨b, o, fa', la', pa', fc', lc', pc', rfl, hnum, hrx, c0, c1, c2, c3, c4, c5, c6, c7⟩ := (HR.out wr hbe).1.fieldAt hq
      by_cases h2 : m < fs2.length
      · obtain ⟨⟨num3, ⟨k3, n3, t3, fs3, r3, ls3, ps3⟩⟩, hq2⟩ : ∃ p, fs2[m]? = some p := ⟨_, List.getElem?_eq_getElem h2⟩
        obtain ⟨b3, o3, fa3, la3, pa3, fc3, lc3, pc3, rfl, hnum3, hry, d0, d1, d2, d3, d4, d5, d6, d7⟩ := (HR.out wr hbe).2.fieldAt hq2
        have HC : Hid (∀ W, Below wr.heap.size wr W → Calls _ _ _ W _) := fun W hb => forder_any (HCC.out _ (List.mem_of_getElem? hq)) (hrx.stays hb) (hry.stays hb) num num3
        have HL2 : Hid (orI (orI (sgnI num num3) (cmpV (.mk k' n' t' fs' r' ls' ps') (.mk k3 n3 t3 fs3 r3 ls3 ps3))) (cmpF (fs.drop (m + 1)) (fs2.drop (m + 1))) = cmpF fs fs2) := by show _ = _; rw [← HL.out, drop_fields hq, drop_fields hq2, cmpF]
        generalize orI (sgnI num num3) (cmpV (.mk k' n' t' fs' r' ls' ps') (.mk k3 n3 t3 fs3 r3 ls3 ps3)) = C at HC HL2
        have hbA : Below wr.heap.size wr ((wr.alloc (.cells #[.int .i64 num, .int .i64 k', .int .u64 (n' : Int), .string (strB t'), .slice fa' fs'.length fc', .string (strB r'), .slice la' ls'.length lc', .slice pa' ps'.length pc'] 51)).alloc (.cells #[.int .i64 num3, .int .i64 k3, .int .u64 (n3 : Int), .string (strB t3), .slice fa3 fs3.length fc3, .string (strB r3), .slice la3 ls3.length lc3, .slice pa3 ps3.length pc3] 51)) := ((Below.refl _ _).alloc (Nat.le_refl _) _).alloc (by simp) _
        have HBA := Lib.hid hbA
        have hlt := World.block_lt_of_cell? wr _ d0
        replace hlt : b3 < wr.heap.size := hlt
        clear HL hrx hry hq hq2 hbA
        go_wp2_with fail
        refine (HC.out _ HBA.out).mono ?_
        rintro e w2 ⟨rfl, hb2⟩
        have hbe2 : Below w.heap.size w w2 := hbe.trans ((HBA.out.trans (hb2.mono HBA.out.size)).mono hbe.size)
        clear HC HBA hb2 hlt c0 c1 c2 c3 c4 c5 c6 c7 d0 d1 d2 d3 d4 d5 d6 d7
        by_cases hC : C = 0
        · subst hC
          go_wp2_with fail
          go_roundw
          case rel => exact ⟨m + 1, h1, h2, by go_num, HL2, hbe2⟩
          case measure => simp only [intOf]; omega
        · have t1 : (C != 0) = true := by simpa using hC
          have HL3 : Hid (C = cmpF fs fs2) := by have := HL2.out; unfold orI at this; rwa [if_neg hC] at this
          clear hC HL2
          go_wp2_with fail
          go_ret
          exact ⟨congrArg (fun z => Ending.returned (Value.int .i64 z)) HL3.out, hbe2⟩
      · have HL2 : Hid (1 = cmpF fs fs2) := by show _ = _; rw [← HL.out, drop_fields hq, List.drop_of_length_le (by omega : fs2.length ≤ m), cmpF]
        have hbe2 := hbe.alloc (o := .cells #[.int .i64 num, .int .i64 k', .int .u64 (n' : Int), .string (strB t'), .slice fa' fs'.length fc', .string (strB r'), .slice la' ls'.length lc', .slice pa' ps'.length pc'] 51) hbe.size
        clear HL hrx hq
        go_wp2_with fail
        go_ret
        exact ⟨congrArg (fun z => Ending.returned (Value.int .i64 z)) HL2.out, hbe2⟩
    · by_cases h2 : m < fs2.length
      · obtain ⟨⟨num3, ⟨k3, n3, t3, fs3, r3, ls3, ps3⟩⟩, hq2⟩ : ∃ p, fs2[m]? = some p := ⟨_, List.getElem?_eq_getElem h2⟩
        have HL2 : Hid (-1 = cmpF fs fs2) := by show _ = _; rw [← HL.out, drop_fields hq2, List.drop_of_length_le (by omega : fs.length ≤ m), cmpF]
        clear HL hq2
        go_wp2_with fail
        go_ret
        exact ⟨congrArg (fun z => Ending.returned (Value.int .i64 z)) HL2.out, hbe⟩
      · have HL2 : Hid (0 = cmpF fs fs2) := by show _ = _; rw [← HL.out, List.drop_of_length_le (by omega : fs.length ≤ m), List.drop_of_length_le (by omega : fs2.length ≤ m), cmpF]
        clear HL
        go_wp2_with fail
        go_ret
        exact ⟨congrArg (fun z => Ending.returned (Value.int .i64 z)) HL2.out, hbe⟩
set_option maxRecDepth 100000 in
set_option maxHeartbeats 4000000 in
theorem cmpList_any (HCF : ∀ x ∈ ls, CmpC x) (hr : Rep S w (.mk k n t fs r ls ps) ⟨fa, fc, la, lc, pa, pc⟩) (hr' : Rep S' w (.mk k2 n2 t2 fs2 r2 ls2 ps2) ⟨fa2, fc2, la2, lc2, pa2, pc2⟩) :
    Calls Tryd.prog 84 #[.slice la ls.length lc, .slice la2 ls2.length lc2, .func (.func 77) #[] #[]] w
      fun e w' => e = .returned (.int .i64 (cmpL ls ls2)) ∧ Below w.heap.size w w' := by
  have HR : Hid (∀ W, Below w.heap.size w W → Rep S W (.mk k n t fs r ls ps) ⟨fa, fc, la, lc, pa, pc⟩ ∧ Rep S' W (.mk k2 n2 t2 fs2 r2 ls2 ps2) ⟨fa2, fc2, la2, lc2, pa2, pc2⟩) := fun W hb => ⟨hr.stays hb, hr'.stays hb⟩
  have HCC := Lib.hid HCF
  obtain ⟨-, -, hfl, hll, hpl⟩ := hr.bds
  obtain ⟨-, -, hfl2, hll2, hpl2⟩ := hr'.bds
  unfold maxLen at hfl hfl2 hll hll2 hpl hpl2
  clear HCF hr hr'
  go_enter Tryd.func84, Tryd.ntmps84
  go_wp2_with fail
  go_loopw [13] (fun i wr => ∃ m : Nat, m ≤ ls.length ∧ m ≤ ls2.length ∧ i = .int .i64 m ∧ Hid (cmpL (ls.drop m) (ls2.drop m) = cmpL ls ls2) ∧ Below w.heap.size w wr) (fun i _ => ls.length - (intOf i).toNat)
  case atStart => exact ⟨0, Nat.zero_le _, Nat.zero_le _, rfl, rfl, Below.refl _ _⟩
  case round =>
    obtain ⟨m, hm, hm2, rfl, HL, hbe⟩ := hrel
    by_cases h1 : m < ls.length
    · obtain ⟨⟨k', n', t', fs', r', ls', ps'⟩, hq⟩ : ∃ p, ls[m]? = some p := ⟨_, List.getElem?_eq_getElem h1⟩
      obtain ⟨b, o, fa', la', pa', fc', lc', pc', rfl, hrx, c0, c1, c2, c3, c4, c5, c6⟩ := (HR.out wr hbe).1.partAt hq
      by_cases h2 : m < ls2.length
      · obtain ⟨⟨k3, n3, t3, fs3, r3, ls3, ps3⟩, hq2⟩ : ∃ p, ls2[m]? = some p := ⟨_, List.getElem?_eq_getElem h2⟩
        obtain ⟨b3, o3, fa3, la3, pa3, fc3, lc3, pc3, rfl, hry, d0, d1, d2, d3, d4, d5, d6⟩ := (HR.out wr hbe).2.partAt hq2
        have HC : Hid (∀ W, Below wr.heap.size wr W → Calls _ _ _ W _) := fun W hb => CmpC.lit (HCC.out _ (List.mem_of_getElem? hq)) (hrx.stays hb) (hry.stays hb)
        have HL2 : Hid (orI (cmpV (.mk k' n' t' fs' r' ls' ps') (.mk k3 n3 t3 fs3 r3 ls3 ps3)) (cmpL (ls.drop (m + 1)) (ls2.drop (m + 1))) = cmpL ls ls2) := by show _ = _; rw [← HL.out, drop_fields hq, drop_fields hq2, cmpL]
        generalize cmpV (.mk k' n' t' fs' r' ls' ps') (.mk k3 n3 t3 fs3 r3 ls3 ps3) = C at HC HL2
        have hbA : Below wr.heap.size wr ((wr.alloc (.cells #[.int .i64 k', .int .u64 (n' : Int), .string (strB t'), .slice fa' fs'.length fc', .string (strB r'), .slice la' ls'.length lc', .slice pa' ps'.length pc'] 27)).alloc (.cells #[.int .i64 k3, .int .u64 (n3 : Int), .string (strB t3), .slice fa3 fs3.length fc3, .string (strB r3), .slice la3 ls3.length lc3, .slice pa3 ps3.length pc3] 27)) := ((Below.refl _ _).alloc (Nat.le_refl _) _).alloc (by simp) _
        have HBA := Lib.hid hbA
        have hlt := World.block_lt_of_cell? wr _ d0
        replace hlt : b3 < wr.heap.size := hlt
        clear HL hrx hry hq hq2 hbA
        go_wp2_with fail
        refine (HC.out _ HBA.out).mono ?_
        rintro e w2 ⟨rfl, hb2⟩
        have hbe2 : Below w.heap.size w w2 := hbe.trans ((HBA.out.trans (hb2.mono HBA.out.size)).mono hbe.size)
        clear HC HBA hb2 hlt c0 c1 c2 c3 c4 c5 c6 d0 d1 d2 d3 d4 d5 d6
        by_cases hC : C = 0
        · subst hC
          go_wp2_with fail
          go_roundw
          case rel => exact ⟨m + 1, h1, h2, by go_num, HL2, hbe2⟩
          case measure => simp only [intOf]; omega
        · have t1 : (C != 0) = true := by simpa using hC
          have HL3 : Hid (C = cmpL ls ls2) := by have := HL2.out; unfold orI at this; rwa [if_neg hC] at this
          clear hC HL2
          go_wp2_with fail
          go_ret
          exact ⟨congrArg (fun z => Ending.returned (Value.int .i64 z)) HL3.out, hbe2⟩
      · have HL2 : Hid (1 = cmpL ls ls2) := by show _ = _; rw [← HL.out, drop_fields hq, List.drop_of_length_le (by omega : ls2.length ≤ m), cmpL]
        have hbe2 := hbe.alloc (o := .cells #[.int .i64 k', .int .u64 (n' : Int), .string (strB t'), .slice fa' fs'.length fc', .string (strB r'), .slice la' ls'.length lc', .slice pa' ps'.length pc'] 27) hbe.size
        clear HL hrx hq
        go_wp2_with fail
        go_ret
        exact ⟨congrArg (fun z => Ending.returned (Value.int .i64 z)) HL2.out, hbe2⟩
    · by_cases h2 : m < ls2.length
      · obtain ⟨⟨k3, n3, t3, fs3, r3, ls3, ps3⟩, hq2⟩ : ∃ p, ls2[m]? = some p := ⟨_, List.getElem?_eq_getElem h2⟩
        have HL2 : Hid (-1 = cmpL ls ls2) := by show _ = _; rw [← HL.out, drop_fields hq2, List.drop_of_length_le (by omega : ls.length ≤ m), cmpL]
        clear HL hq2
        go_wp2_with fail
        go_ret
        exact ⟨congrArg (fun z => Ending.returned (Value.int .i64 z)) HL2.out, hbe⟩
      · have HL2 : Hid (0 = cmpL ls ls2) := by show _ = _; rw [← HL.out, List.drop_of_length_le (by omega : ls.length ≤ m), List.drop_of_length_le (by omega : ls2.length ≤ m), cmpL]
        clear HL
        go_wp2_with fail
        go_ret
        exact ⟨congrArg (fun z => Ending.returned (Value.int .i64 z)) HL2.out, hbe⟩
set_option maxRecDepth 100000 in
set_option maxHeartbeats 4000000 in
theorem cmpPairs_any (HCF : ∀ p ∈ ps, CmpC p.1 ∧ CmpC p.2) (hr : Rep S w (.mk k n t fs r ls ps) ⟨fa, fc, la, lc, pa, pc⟩) (hr' : Rep S' w (.mk k2 n2 t2 fs2 r2 ls2 ps2) ⟨fa2, fc2, la2, lc2, pa2, pc2⟩) :
    Calls Tryd.prog 85 #[.slice pa ps.length pc, .slice pa2 ps2.length pc2, .func (.func 86) #[] #[]] w
      fun e w' => e = .returned (.int .i64 (cmpP ps ps2)) ∧ Below w.heap.size w w' := by
  have HR : Hid (∀ W, Below w.heap.size w W → Rep S W (.mk k n t fs r ls ps) ⟨fa, fc, la, lc, pa, pc⟩ ∧ Rep S' W (.mk k2 n2 t2 fs2 r2 ls2 ps2) ⟨fa2, fc2, la2, lc2, pa2, pc2⟩) := fun W hb => ⟨hr.stays hb, hr'.stays hb⟩
  have HCC := Lib.hid HCF
  obtain ⟨-, -, hfl, hll, hpl⟩ := hr.bds
  obtain ⟨-, -, hfl2, hll2, hpl2⟩ := hr'.bds
  unfold maxLen at hfl hfl2 hll hll2 hpl hpl2
  clear HCF hr hr'
  go_enter Tryd.func85, Tryd.ntmps85
  go_wp2_with fail
  go_loopw [13] (fun i wr => ∃ m : Nat, m ≤ ps.length ∧ m ≤ ps2.length ∧ i = .int .i64 m ∧ Hid (cmpP (ps.drop m) (ps2.drop m) = cmpP ps ps2) ∧ Below w.heap.size w wr) (fun i _ => ps.length - (intOf i).toNat)
  case atStart => exact ⟨0, Nat.zero_le _, Nat.zero_le _, rfl, rfl, Below.refl _ _⟩
  case round =>
    obtain ⟨m, hm, hm2, rfl, HL, hbe⟩ := hrel
    by_cases h1 : m < ps.length
    · obtain ⟨⟨⟨k', n', t', fs', r', ls', ps'⟩, ⟨k4, n4, t4, fs4, r4, ls4, ps4⟩⟩, hq⟩ : ∃ p, ps[m]? = some p := ⟨_, List.getElem?_eq_getElem h1⟩
      obtain ⟨b, o, fa', la', pa', fc', lc', pc', fa4, la4, pa4, fc4, lc4, pc4, rfl, hrx, hrz, c0, c1, c2, c3, c4, c5, c6, c7, c8, c9, c10, c11, c12, c13⟩ := (HR.out wr hbe).1.pairAt hq
      by_cases h2 : m < ps2.length
      · obtain ⟨⟨⟨k3, n3, t3, fs3, r3, ls3, ps3⟩, ⟨k5, n5, t5, fs5, r5, ls5, ps5⟩⟩, hq2⟩ : ∃ p, ps2[m]? = some p := ⟨_, List.getElem?_eq_getElem h2⟩
        obtain ⟨b3, o3, fa3, la3, pa3, fc3, lc3, pc3, fa5, la5, pa5, fc5, lc5, pc5, rfl, hry, hru, d0, d1, d2, d3, d4, d5, d6, d7, d8, d9, d10, d11, d12, d13⟩ := (HR.out wr hbe).2.pairAt hq2
        have HC : Hid (∀ W, Below wr.heap.size wr W → Calls _ _ _ W _) := fun W hb => porder_any (HCC.out _ (List.mem_of_getElem? hq)).1 (HCC.out _ (List.mem_of_getElem? hq)).2 (hrx.stays hb) (hry.stays hb) (hrz.stays hb) (hru.stays hb)
        have HL2 : Hid (orI (orI (cmpV (.mk k' n' t' fs' r' ls' ps') (.mk k3 n3 t3 fs3 r3 ls3 ps3)) (cmpV (.mk k4 n4 t4 fs4 r4 ls4 ps4) (.mk k5 n5 t5 fs5 r5 ls5 ps5))) (cmpP (ps.drop (m + 1)) (ps2.drop (m + 1))) = cmpP ps ps2) := by show _ = _; rw [← HL.out, drop_fields hq, drop_fields hq2, cmpP]
        generalize orI (cmpV (.mk k' n' t' fs' r' ls' ps') (.mk k3 n3 t3 fs3 r3 ls3 ps3)) (cmpV (.mk k4 n4 t4 fs4 r4 ls4 ps4) (.mk k5 n5 t5 fs5 r5 ls5 ps5)) = C at HC HL2
        have hbA : Below wr.heap.size wr ((wr.alloc (.cells #[.int .i64 k', .int .u64 (n' : Int), .string (strB t'), .slice fa' fs'.length fc', .string (strB r'), .slice la' ls'.length lc', .slice pa' ps'.length pc', .int .i64 k4, .int .u64 (n4 : Int), .string (strB t4), .slice fa4 fs4.length fc4, .string (strB r4), .slice la4 ls4.length lc4, .slice pa4 ps4.length pc4] 56)).alloc (.cells #[.int .i64 k3, .int .u64 (n3 : Int), .string (strB t3), .slice fa3 fs3.length fc3, .string (strB r3), .slice la3 ls3.length lc3, .slice pa3 ps3.length pc3, .int .i64 k5, .int .u64 (n5 : Int), .string (strB t5), .slice fa5 fs5.length fc5, .string (strB r5), .slice la5 ls5.length lc5, .slice pa5 ps5.length pc5] 56)) := ((Below.refl _ _).alloc (Nat.le_refl _) _).alloc (by simp) _
        have HBA := Lib.hid hbA
        have hlt := World.block_lt_of_cell? wr _ d0
        replace hlt : b3 < wr.heap.size := hlt
        clear HL hrx hry hrz hru hq hq2 hbA
        go_wp2_with fail
        refine (HC.out _ HBA.out).mono ?_
        rintro e w2 ⟨rfl, hb2⟩
        have hbe2 : Below w.heap.size w w2 := hbe.trans ((HBA.out.trans (hb2.mono HBA.out.size)).mono hbe.size)
        clear HC HBA hb2 hlt c0 c1 c2 c3 c4 c5 c6 c7 c8 c9 c10 c11 c12 c13 d0 d1 d2 d3 d4 d5 d6 d7 d8 d9 d10 d11 d12 d13
        by_cases hC : C = 0
        · subst hC
          go_wp2_with fail
          go_roundw
          case rel => exact ⟨m + 1, h1, h2, by go_num, HL2, hbe2⟩
          case measure => simp only [intOf]; omega
        · have t1 : (C != 0) = true := by simpa using hC
          have HL3 : Hid (C = cmpP ps ps2) := by have := HL2.out; unfold orI at this; rwa [if_neg hC] at this
          clear hC HL2
          go_wp2_with fail
          go_ret
          exact ⟨congrArg (fun z => Ending.returned (Value.int .i64 z)) HL3.out, hbe2⟩
      · have HL2 : Hid (1 = cmpP ps ps2) := by show _ = _; rw [← HL.out, drop_fields hq, List.drop_of_length_le (by omega : ps2.length ≤ m), cmpP]
        have hbe2 := hbe.alloc (o := .cells #[.int .i64 k', .int .u64 (n' : Int), .string (strB t'), .slice fa' fs'.length fc', .string (strB r'), .slice la' ls'.length lc', .slice pa' ps'.length pc', .int .i64 k4, .int .u64 (n4 : Int), .string (strB t4), .slice fa4 fs4.length fc4, .string (strB r4), .slice la4 ls4.length lc4, .slice pa4 ps4.length pc4] 56) hbe.size
        clear HL hrx hrz hq
        go_wp2_with fail
        go_ret
        exact ⟨congrArg (fun z => Ending.returned (Value.int .i64 z)) HL2.out, hbe2⟩
    · by_cases h2 : m < ps2.length
      · obtain ⟨⟨⟨k3, n3, t3, fs3, r3, ls3, ps3⟩, ⟨k5, n5, t5, fs5, r5, ls5, ps5⟩⟩, hq2⟩ : ∃ p, ps2[m]? = some p := ⟨_, List.getElem?_eq_getElem h2⟩
        have HL2 : Hid (-1 = cmpP ps ps2) := by show _ = _; rw [← HL.out, drop_fields hq2, List.drop_of_length_le (by omega : ps.length ≤ m), cmpP]
        clear HL hq2
        go_wp2_with fail
        go_ret
        exact ⟨congrArg (fun z => Ending.returned (Value.int .i64 z)) HL2.out, hbe⟩
      · have HL2 : Hid (0 = cmpP ps ps2) := by show _ = _; rw [← HL.out, List.drop_of_length_le (by omega : ps.length ≤ m), List.drop_of_length_le (by omega : ps2.length ≤ m), cmpP]
        clear HL
        go_wp2_with fail
        go_ret
        exact ⟨congrArg (fun z => Ending.returned (Value.int .i64 z)) HL2.out, hbe⟩
end
end Go.Proofs.YtcjflglpkpkflaaDoor
