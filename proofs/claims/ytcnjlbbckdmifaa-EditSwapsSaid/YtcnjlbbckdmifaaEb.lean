/- Edits with no fields, steps and keys. -/
import Derived.Test.YtcnjlbbckdmifaaVl
import Derived.Test.YtcnjlbbckdmifaaWide
namespace Go.Proofs.Ytcnjlbbckdmifaa
open Go Go.RowKit
set_option linter.unusedVariables false
theorem sizeE : (Try.prog.info? 60).map (·.size) = some 21 := by kernel_rfl
theorem sizeV7 : (Try.prog.info? 27).map (·.size) = some 7 := by kernel_rfl
theorem CellsAt.newE {w : World} {b : Nat} {cs : Array Value} {T : TypeId} (h : b = w.heap.size) : CellsAt (w.alloc (.cells cs T)) b T cs := by subst h; exact CellsAt.new w cs T
theorem CellsAt.allocE {w : World} {b : Nat} {cs : Array Value} {T : TypeId} {o : Obj} (h : CellsAt w b T cs) : CellsAt (w.alloc o) b T cs := h.stays ((Below.refl _ _).alloc (Nat.le_refl _) o)
/-- seven cells stand for a tree -/
def VV (S : Nat → Prop) (w : World) (O : Array Value) (v : V) : Prop := ∃ a : A3, O = (vC (v, a)).toArray ∧ Rep S w v a
theorem VV.stays {S : Nat → Prop} {w w' : World} {O : Array Value} {v : V} (h : VV S w O v) (hb : Below w.heap.size w w') : VV S w' O v := let ⟨a, h1, h2⟩ := h; ⟨a, h1, h2.stays hb⟩
theorem VV.of {S : Nat → Prop} {w : World} {v : V} {a : A3} (h : Rep S w v a) : VV S w (vC (v, a)).toArray v := ⟨a, rfl, h⟩
def vz : V := .mk 0 0 [] [] [] [] []
theorem vz_rep (w : World) : VV (fun _ => True) w #[.int .i64 0, .int .u64 0, .string ⟨#[]⟩, .slice none 0 0, .string ⟨#[]⟩, .slice none 0 0, .slice none 0 0] vz := ⟨⟨none, 0, none, 0, none, 0⟩, rfl, Rep.leaf 0 0 [] [] ⟨by decide, by decide⟩ (by decide) _⟩
theorem vz_right : rightV vz = true := by simp [vz, rightV, rightF, rightL, rightP, shapeB]
theorem vz_size : sizeV vz = 0 := by simp [vz, sizeV]
section
variable {S S' : Nat → Prop} {w : World} {O N : Array Value} {v u : V}
theorem same_op (h : VV S w O v) (h' : VV S' w N u) : Calls Try.prog 23 #[.agg O, .agg N] w fun e w' => e = .returned (.bool (cmpV v u == 0)) ∧ Below w.heap.size w w' := by
  obtain ⟨⟨fa, fc, la, lc, pa, pc⟩, rfl, hr⟩ := h
  obtain ⟨⟨fa2, fc2, la2, lc2, pa2, pc2⟩, rfl, hr'⟩ := h'
  obtain ⟨k, n, t, fs, r, ls, ps⟩ := v
  obtain ⟨k2, n2, t2, fs2, r2, ls2, ps2⟩ := u
  exact same_lit hr hr'
theorem right_op (h : VV S w O v) : Calls Try.prog 15 #[.agg O] w fun e w' => e = .returned (.bool (rightV v)) ∧ Below w.heap.size w w' := by
  obtain ⟨⟨fa, fc, la, lc, pa, pc⟩, rfl, hr⟩ := h
  obtain ⟨k, n, t, fs, r, ls, ps⟩ := v
  exact right_lit hr
theorem size_op (h : VV S w O v) (hw : wV v ≤ 1000000) : Calls Try.prog 17 #[.agg O] w fun e w' => e = .returned (.int .i64 (sizeV v : Nat)) ∧ Below w.heap.size w w' := by
  obtain ⟨⟨fa, fc, la, lc, pa, pc⟩, rfl, hr⟩ := h
  obtain ⟨k, n, t, fs, r, ls, ps⟩ := v
  exact size_lit hr hw
end
theorem right_z (w : World) : Calls Try.prog 15 #[.agg #[.int .i64 0, .int .u64 0, .string ⟨#[]⟩, .slice none 0 0, .string ⟨#[]⟩, .slice none 0 0, .slice none 0 0]] w fun e w' => e = .returned (.bool true) ∧ Below w.heap.size w w' := by
  have h := right_op (vz_rep w)
  rwa [vz_right] at h
theorem same_z (w : World) : Calls Try.prog 23 #[.agg #[.int .i64 0, .int .u64 0, .string ⟨#[]⟩, .slice none 0 0, .string ⟨#[]⟩, .slice none 0 0, .slice none 0 0], .agg #[.int .i64 0, .int .u64 0, .string ⟨#[]⟩, .slice none 0 0, .string ⟨#[]⟩, .slice none 0 0, .slice none 0 0]] w fun e w' => e = .returned (.bool true) ∧ Below w.heap.size w w' := by
  have h := same_op (vz_rep w) (vz_rep w)
  rwa [show (cmpV vz vz == 0) = true from by simp [cmpV_self]] at h
section
variable {S S' : Nat → Prop} {w : World} {o0 o1 o2 o3 o4 o5 o6 n0 n1 n2 n3 n4 n5 n6 : Value} {v u : V}
set_option maxRecDepth 100000 in
set_option maxHeartbeats 4000000 in
theorem swapped_op (h : VV S w #[o0, o1, o2, o3, o4, o5, o6] v) (h' : VV S' w #[n0, n1, n2, n3, n4, n5, n6] u) (h21 : (#[.int .i64 1, o0, o1, o2, o3, o4, o5, o6, n0, n1, n2, n3, n4, n5, n6, .slice none 0 0, .bool false, .string ⟨#[]⟩, .string ⟨#[]⟩, .slice none 0 0, .slice none 0 0] : Array Value).all (·.oneCell') = true) :
    Calls Try.prog 36 #[.agg #[o0, o1, o2, o3, o4, o5, o6], .agg #[n0, n1, n2, n3, n4, n5, n6]] w fun e w' => e = .returned (.agg (if cmpV v u = 0 then #[.int .i64 0, .int .i64 0, .int .u64 0, .string ⟨#[]⟩, .slice none 0 0, .string ⟨#[]⟩, .slice none 0 0, .slice none 0 0, .int .i64 0, .int .u64 0, .string ⟨#[]⟩, .slice none 0 0, .string ⟨#[]⟩, .slice none 0 0, .slice none 0 0, .slice none 0 0, .bool false, .string ⟨#[]⟩, .string ⟨#[]⟩, .slice none 0 0, .slice none 0 0] else #[.int .i64 1, o0, o1, o2, o3, o4, o5, o6, n0, n1, n2, n3, n4, n5, n6, .slice none 0 0, .bool false, .string ⟨#[]⟩, .string ⟨#[]⟩, .slice none 0 0, .slice none 0 0])) ∧ Below w.heap.size w w' := by
  obtain ⟨W0, hW0⟩ : ∃ W0, W0 = ((w.alloc (.cells #[o0, o1, o2, o3, o4, o5, o6] 27)).alloc (.cells #[n0, n1, n2, n3, n4, n5, n6] 27)).alloc (.cells #[.int .i64 0, .int .i64 0, .int .u64 0, .string ⟨#[]⟩, .slice none 0 0, .string ⟨#[]⟩, .slice none 0 0, .slice none 0 0, .int .i64 0, .int .u64 0, .string ⟨#[]⟩, .slice none 0 0, .string ⟨#[]⟩, .slice none 0 0, .slice none 0 0, .slice none 0 0, .bool false, .string ⟨#[]⟩, .string ⟨#[]⟩, .slice none 0 0, .slice none 0 0] 60) := ⟨_, rfl⟩
  obtain ⟨g, hg⟩ : ∃ g, g = w.heap.size := ⟨_, rfl⟩
  have hBA : Below w.heap.size w W0 := by rw [hW0]; exact (((Below.refl _ _).alloc (Nat.le_refl _) _).alloc (by simp) _).alloc (by simp; omega) _
  have hcx : CellsAt W0 g 27 #[o0, o1, o2, o3, o4, o5, o6] := by rw [hW0, hg]; exact CellsAt.allocE (CellsAt.allocE (CellsAt.new w _ _))
  have hcy : CellsAt W0 (g + 1) 27 #[n0, n1, n2, n3, n4, n5, n6] := by rw [hW0, hg]; exact CellsAt.allocE (CellsAt.newE (by simp))
  have hcz : CellsAt W0 (g + 1 + 1) 60 #[.int .i64 0, .int .i64 0, .int .u64 0, .string ⟨#[]⟩, .slice none 0 0, .string ⟨#[]⟩, .slice none 0 0, .slice none 0 0, .int .i64 0, .int .u64 0, .string ⟨#[]⟩, .slice none 0 0, .string ⟨#[]⟩, .slice none 0 0, .slice none 0 0, .slice none 0 0, .bool false, .string ⟨#[]⟩, .string ⟨#[]⟩, .slice none 0 0, .slice none 0 0] := by rw [hW0, hg]; exact CellsAt.newE (by simp)
  have HX : Hid (∀ W, Below W0.heap.size W0 W → CellsAt W g 27 #[o0, o1, o2, o3, o4, o5, o6] ∧ CellsAt W (g + 1) 27 #[n0, n1, n2, n3, n4, n5, n6] ∧ CellsAt W (g + 1 + 1) 60 #[.int .i64 0, .int .i64 0, .int .u64 0, .string ⟨#[]⟩, .slice none 0 0, .string ⟨#[]⟩, .slice none 0 0, .slice none 0 0, .int .i64 0, .int .u64 0, .string ⟨#[]⟩, .slice none 0 0, .string ⟨#[]⟩, .slice none 0 0, .slice none 0 0, .slice none 0 0, .bool false, .string ⟨#[]⟩, .string ⟨#[]⟩, .slice none 0 0, .slice none 0 0] ∧ Below w.heap.size w W) := fun W hb => ⟨hcx.stays hb, hcy.stays hb, hcz.stays hb, hBA.trans (hb.mono hBA.size)⟩
  have HC : Hid (∀ W, Below W0.heap.size W0 W → Calls Try.prog 23 #[.agg #[o0, o1, o2, o3, o4, o5, o6], .agg #[n0, n1, n2, n3, n4, n5, n6]] W fun e w' => e = .returned (.bool (cmpV v u == 0)) ∧ Below W.heap.size W w') := fun W hb => same_op (h.stays (hBA.trans (hb.mono hBA.size))) (h'.stays (hBA.trans (hb.mono hBA.size)))
  generalize cmpV v u = C at HC ⊢
  obtain ⟨RES, hRES⟩ : ∃ RES, RES = (Value.agg (if C = 0 then #[.int .i64 0, .int .i64 0, .int .u64 0, .string ⟨#[]⟩, .slice none 0 0, .string ⟨#[]⟩, .slice none 0 0, .slice none 0 0, .int .i64 0, .int .u64 0, .string ⟨#[]⟩, .slice none 0 0, .string ⟨#[]⟩, .slice none 0 0, .slice none 0 0, .slice none 0 0, .bool false, .string ⟨#[]⟩, .string ⟨#[]⟩, .slice none 0 0, .slice none 0 0] else #[.int .i64 1, o0, o1, o2, o3, o4, o5, o6, n0, n1, n2, n3, n4, n5, n6, .slice none 0 0, .bool false, .string ⟨#[]⟩, .string ⟨#[]⟩, .slice none 0 0, .slice none 0 0])) := ⟨_, rfl⟩
  rw [← hRES]
  have HRES := Lib.hid hRES
  have HW := Lib.hid hW0
  have HG := Lib.hid hg
  have H21 := Lib.hid h21
  have hGB : w.heap.size ≤ g + 1 + 1 := by omega
  have HGB := Lib.hid hGB
  clear h h' hcx hcy hcz hW0 hg hBA hGB hRES h21
  go_enter Try.func36, Try.ntmps36
  go_upto_region 1 with fail
  have hW0 := HW.out
  have hg := HG.out
  rw [← hW0, ← hg]
  clear hW0 hg HW HG
  obtain ⟨hcx, hcy, hcz, hbw⟩ := HX.out W0 (Below.refl _ _)
  have a0 := hcx.cell 0 (v := o0) rfl; have a1 := hcx.cell 1 (v := o1) rfl; have a2 := hcx.cell 2 (v := o2) rfl; have a3 := hcx.cell 3 (v := o3) rfl; have a4 := hcx.cell 4 (v := o4) rfl; have a5 := hcx.cell 5 (v := o5) rfl; have a6 := hcx.cell 6 (v := o6) rfl
  have b0 := hcy.cell 0 (v := n0) rfl; have b1 := hcy.cell 1 (v := n1) rfl; have b2 := hcy.cell 2 (v := n2) rfl; have b3 := hcy.cell 3 (v := n3) rfl; have b4 := hcy.cell 4 (v := n4) rfl; have b5 := hcy.cell 5 (v := n5) rfl; have b6 := hcy.cell 6 (v := n6) rfl
  clear hcx hcy hcz hbw
  go_wp2_with fail
  refine (HC.out _ (Below.refl _ _)).mono ?_
  rintro e w1 ⟨rfl, hb1⟩
  clear a0 a1 a2 a3 a4 a5 a6 b0 b1 b2 b3 b4 b5 b6
  obtain ⟨hcx, hcy, hcz, hbw⟩ := HX.out w1 hb1
  have a0 := hcx.cell 0 (v := o0) rfl; have a1 := hcx.cell 1 (v := o1) rfl; have a2 := hcx.cell 2 (v := o2) rfl; have a3 := hcx.cell 3 (v := o3) rfl; have a4 := hcx.cell 4 (v := o4) rfl; have a5 := hcx.cell 5 (v := o5) rfl; have a6 := hcx.cell 6 (v := o6) rfl
  have b0 := hcy.cell 0 (v := n0) rfl; have b1 := hcy.cell 1 (v := n1) rfl; have b2 := hcy.cell 2 (v := n2) rfl; have b3 := hcy.cell 3 (v := n3) rfl; have b4 := hcy.cell 4 (v := n4) rfl; have b5 := hcy.cell 5 (v := n5) rfl; have b6 := hcy.cell 6 (v := n6) rfl
  have HBW := Lib.hid hbw
  clear hcx hcy hbw hb1 HX HC
  by_cases h0 : C = 0
  · have h1 : (C == 0) = true := by simpa using h0
    have HR2 : Hid (RES = .agg #[.int .i64 0, .int .i64 0, .int .u64 0, .string ⟨#[]⟩, .slice none 0 0, .string ⟨#[]⟩, .slice none 0 0, .slice none 0 0, .int .i64 0, .int .u64 0, .string ⟨#[]⟩, .slice none 0 0, .string ⟨#[]⟩, .slice none 0 0, .slice none 0 0, .slice none 0 0, .bool false, .string ⟨#[]⟩, .string ⟨#[]⟩, .slice none 0 0, .slice none 0 0]) := by show _ = _; rw [HRES.out, if_pos h0]
    clear h0
    generalize (C == 0) = cb at h1 ⊢
    subst h1
    have h21 : (#[.int .i64 0, .int .i64 0, .int .u64 0, .string ⟨#[]⟩, .slice none 0 0, .string ⟨#[]⟩, .slice none 0 0, .slice none 0 0, .int .i64 0, .int .u64 0, .string ⟨#[]⟩, .slice none 0 0, .string ⟨#[]⟩, .slice none 0 0, .slice none 0 0, .slice none 0 0, .bool false, .string ⟨#[]⟩, .string ⟨#[]⟩, .slice none 0 0, .slice none 0 0] : Array Value).all (·.oneCell') = true := by simp [Value.oneCell']
    go_wp2_with (first | (refine wpList_storeW rfl 60 _ _ rfl (g + 1 + 1) (by rfl) #[.int .i64 0, .int .i64 0, .int .u64 0, .string ⟨#[]⟩, .slice none 0 0, .string ⟨#[]⟩, .slice none 0 0, .slice none 0 0, .int .i64 0, .int .u64 0, .string ⟨#[]⟩, .slice none 0 0, .string ⟨#[]⟩, .slice none 0 0, .slice none 0 0, .slice none 0 0, .bool false, .string ⟨#[]⟩, .string ⟨#[]⟩, .slice none 0 0, .slice none 0 0] (by rfl) 60 _ hcz rfl sizeE h21 ?_; intro w2 hc2 hg2))
    have hb2 := HBW.out.grown hg2 (by have := HBW.out.size; omega) (fun k hk => by cases hk; exact HGB.out)
    exact bodyPost_ret (v := .agg #[.int .i64 0, .int .i64 0, .int .u64 0, .string ⟨#[]⟩, .slice none 0 0, .string ⟨#[]⟩, .slice none 0 0, .slice none 0 0, .int .i64 0, .int .u64 0, .string ⟨#[]⟩, .slice none 0 0, .string ⟨#[]⟩, .slice none 0 0, .slice none 0 0, .slice none 0 0, .bool false, .string ⟨#[]⟩, .string ⟨#[]⟩, .slice none 0 0, .slice none 0 0]) (results_cell_row rfl _ w2 (g + 1 + 1) 60 #[.int .i64 0, .int .i64 0, .int .u64 0, .string ⟨#[]⟩, .slice none 0 0, .string ⟨#[]⟩, .slice none 0 0, .slice none 0 0, .int .i64 0, .int .u64 0, .string ⟨#[]⟩, .slice none 0 0, .string ⟨#[]⟩, .slice none 0 0, .slice none 0 0, .slice none 0 0, .bool false, .string ⟨#[]⟩, .string ⟨#[]⟩, .slice none 0 0, .slice none 0 0] (0, 0) _ rfl hc2 Try.underlying60 rfl sizeE) rfl ⟨by rw [HR2.out], hb2⟩
  · have h1 : (C == 0) = false := by simpa using h0
    have HR2 : Hid (RES = .agg #[.int .i64 1, o0, o1, o2, o3, o4, o5, o6, n0, n1, n2, n3, n4, n5, n6, .slice none 0 0, .bool false, .string ⟨#[]⟩, .string ⟨#[]⟩, .slice none 0 0, .slice none 0 0]) := by show _ = _; rw [HRES.out, if_neg h0]
    clear h0
    generalize (C == 0) = cb at h1 ⊢
    subst h1
    have h21 := H21.out
    go_wp2_with (first | (refine wpList_storeW rfl 60 _ _ rfl (g + 1 + 1) (by rfl) #[.int .i64 1, o0, o1, o2, o3, o4, o5, o6, n0, n1, n2, n3, n4, n5, n6, .slice none 0 0, .bool false, .string ⟨#[]⟩, .string ⟨#[]⟩, .slice none 0 0, .slice none 0 0] (by rfl) 60 _ hcz rfl sizeE h21 ?_; intro w2 hc2 hg2))
    have hb2 := HBW.out.grown hg2 (by have := HBW.out.size; omega) (fun k hk => by cases hk; exact HGB.out)
    exact bodyPost_ret (v := .agg #[.int .i64 1, o0, o1, o2, o3, o4, o5, o6, n0, n1, n2, n3, n4, n5, n6, .slice none 0 0, .bool false, .string ⟨#[]⟩, .string ⟨#[]⟩, .slice none 0 0, .slice none 0 0]) (results_cell_row rfl _ w2 (g + 1 + 1) 60 #[.int .i64 1, o0, o1, o2, o3, o4, o5, o6, n0, n1, n2, n3, n4, n5, n6, .slice none 0 0, .bool false, .string ⟨#[]⟩, .string ⟨#[]⟩, .slice none 0 0, .slice none 0 0] (0, 0) _ rfl hc2 Try.underlying60 rfl sizeE) rfl ⟨by rw [HR2.out], hb2⟩
end
set_option maxRecDepth 100000 in
theorem none_z (w : World) : Calls Try.prog 112 #[.agg #[.int .i64 0, .int .u64 0, .string ⟨#[]⟩, .slice none 0 0, .string ⟨#[]⟩, .slice none 0 0, .slice none 0 0]] w fun e w' => e = .returned (.bool true) ∧ Below w.heap.size w w' := by
  obtain ⟨W0, hW0⟩ : ∃ W0, W0 = w.alloc (.cells #[.int .i64 0, .int .u64 0, .string ⟨#[]⟩, .slice none 0 0, .string ⟨#[]⟩, .slice none 0 0, .slice none 0 0] 27) := ⟨_, rfl⟩
  have hBA : Below w.heap.size w W0 := by rw [hW0]; exact (Below.refl _ _).alloc (Nat.le_refl _) _
  obtain ⟨g, hg⟩ : ∃ g, g = w.heap.size := ⟨_, rfl⟩
  have hcx : CellsAt W0 g 27 #[.int .i64 0, .int .u64 0, .string ⟨#[]⟩, .slice none 0 0, .string ⟨#[]⟩, .slice none 0 0, .slice none 0 0] := by rw [hW0, hg]; exact CellsAt.new w _ _
  have a0 := hcx.cell 0 (v := .int .i64 0) rfl; have a1 := hcx.cell 1 (v := .int .u64 0) rfl; have a2 := hcx.cell 2 (v := .string ⟨#[]⟩) rfl; have a3 := hcx.cell 3 (v := .slice none 0 0) rfl; have a4 := hcx.cell 4 (v := .string ⟨#[]⟩) rfl; have a5 := hcx.cell 5 (v := .slice none 0 0) rfl; have a6 := hcx.cell 6 (v := .slice none 0 0) rfl
  have HC := Lib.hid (right_z W0)
  have HW := Lib.hid hW0
  have HG := Lib.hid hg
  have HBA := Lib.hid hBA
  clear hcx hW0 hg hBA
  go_enter Try.func112, Try.ntmps112
  go_upto_region 1 with fail
  rw [← HW.out, ← HG.out]
  go_wp2_with fail
  refine HC.out.mono ?_
  rintro e w1 ⟨rfl, hb1⟩
  have HB := Lib.hid (HBA.out.trans (hb1.mono HBA.out.size))
  clear hb1 HBA HC a0 a1 a2 a3 a4 a5 a6
  go_wp2_with fail
  go_ret
  exact ⟨rfl, HB.out⟩
section
variable {w : World} {o0 o1 o2 o3 o4 o5 o6 n0 n1 n2 n3 n4 n5 n6 : Value} {k : Int}
set_option maxRecDepth 100000 in
set_option maxHeartbeats 4000000 in
theorem own_1  : Calls Try.prog 111 #[.agg #[.int .i64 1, o0, o1, o2, o3, o4, o5, o6, n0, n1, n2, n3, n4, n5, n6, .slice none 0 0, .bool false, .string ⟨#[]⟩, .string ⟨#[]⟩, .slice none 0 0, .slice none 0 0]] w fun e w' => e = .returned (.agg #[.int .i64 1, .int .i64 0, .int .u64 0, .string ⟨#[]⟩, .slice none 0 0, .string ⟨#[]⟩, .slice none 0 0, .slice none 0 0, .int .i64 0, .int .u64 0, .string ⟨#[]⟩, .slice none 0 0, .string ⟨#[]⟩, .slice none 0 0, .slice none 0 0, .slice none 0 0, .bool false, .string ⟨#[]⟩, .string ⟨#[]⟩, .slice none 0 0, .slice none 0 0]) ∧ Below w.heap.size w w' := by
  obtain ⟨A, hA⟩ : ∃ A, A = (#[.int .i64 1, o0, o1, o2, o3, o4, o5, o6, n0, n1, n2, n3, n4, n5, n6, .slice none 0 0, .bool false, .string ⟨#[]⟩, .string ⟨#[]⟩, .slice none 0 0, .slice none 0 0] : Array Value) := ⟨_, rfl⟩
  obtain ⟨K, hK⟩ : ∃ A, A = (#[.int .i64 1, .int .i64 0, .int .u64 0, .string ⟨#[]⟩, .slice none 0 0, .string ⟨#[]⟩, .slice none 0 0, .slice none 0 0, .int .i64 0, .int .u64 0, .string ⟨#[]⟩, .slice none 0 0, .string ⟨#[]⟩, .slice none 0 0, .slice none 0 0, .slice none 0 0, .bool false, .string ⟨#[]⟩, .string ⟨#[]⟩, .slice none 0 0, .slice none 0 0] : Array Value) := ⟨_, rfl⟩
  obtain ⟨Z, hZ⟩ : ∃ A, A = (#[.int .i64 0, .int .i64 0, .int .u64 0, .string ⟨#[]⟩, .slice none 0 0, .string ⟨#[]⟩, .slice none 0 0, .slice none 0 0, .int .i64 0, .int .u64 0, .string ⟨#[]⟩, .slice none 0 0, .string ⟨#[]⟩, .slice none 0 0, .slice none 0 0, .slice none 0 0, .bool false, .string ⟨#[]⟩, .string ⟨#[]⟩, .slice none 0 0, .slice none 0 0] : Array Value) := ⟨_, rfl⟩
  have hz1 : (#[.int .i64 0, .int .u64 0, .string ⟨#[]⟩, .slice none 0 0, .string ⟨#[]⟩, .slice none 0 0, .slice none 0 0] : Array Value).all (·.oneCell') = true := by simp [Value.oneCell']
  have h21 : K.all (·.oneCell') = true := by rw [hK]; simp [Value.oneCell']
  rw [← hK]
  rw [← hA]
  obtain ⟨W0, hW0⟩ : ∃ W0, W0 = (w.alloc (.cells A 60)).alloc (.cells #[.int .i64 0, .int .i64 0, .int .u64 0, .string ⟨#[]⟩, .slice none 0 0, .string ⟨#[]⟩, .slice none 0 0, .slice none 0 0, .int .i64 0, .int .u64 0, .string ⟨#[]⟩, .slice none 0 0, .string ⟨#[]⟩, .slice none 0 0, .slice none 0 0, .slice none 0 0, .bool false, .string ⟨#[]⟩, .string ⟨#[]⟩, .slice none 0 0, .slice none 0 0] 60) := ⟨_, rfl⟩
  obtain ⟨g, hg⟩ : ∃ g, g = w.heap.size := ⟨_, rfl⟩
  have hBA : Below w.heap.size w W0 := by rw [hW0]; exact ((Below.refl _ _).alloc (Nat.le_refl _) _).alloc (by simp) _
  have hcx : CellsAt W0 g 60 A := by rw [hW0, hg]; exact CellsAt.allocE (CellsAt.new w _ _)
  have hcy : CellsAt W0 (g + 1) 60 Z := by rw [hZ, hW0, hg]; exact CellsAt.newE (by simp)
  have a0 := hcx.cell 0 (v := .int .i64 1) (by rw [hA]; rfl)
  have HW := Lib.hid hW0
  have HG := Lib.hid hg
  have HBA := Lib.hid hBA
  have sA : A.size = 21 := by rw [hA]; rfl
  have sK : K.size = 21 := by rw [hK]; rfl
  have sZ : Z.size = 21 := by rw [hZ]; rfl
  have HA := Lib.hid hA
  have HK := Lib.hid hK
  clear hW0 hg hBA hA hK hZ
  obtain ⟨A2, hA2⟩ : ∃ A, A = (#[.int .i64 1, .int .i64 0, .int .u64 0, .string ⟨#[]⟩, .slice none 0 0, .string ⟨#[]⟩, .slice none 0 0, .slice none 0 0, n0, n1, n2, n3, n4, n5, n6, .slice none 0 0, .bool false, .string ⟨#[]⟩, .string ⟨#[]⟩, .slice none 0 0, .slice none 0 0] : Array Value) := ⟨_, rfl⟩
  have HA2 := Lib.hid hA2
  have sA2 : A2.size = 21 := by rw [hA2]; rfl
  clear hA2
  go_enter Try.func111, Try.ntmps111
  go_upto_region 1 with fail
  rw [← HW.out, ← HG.out]
  clear HW
  go_wp2_with (first
    | (refine wpList_storeM rfl 27 _ _ rfl g 1 (by rfl) #[.int .i64 0, .int .u64 0, .string ⟨#[]⟩, .slice none 0 0, .string ⟨#[]⟩, .slice none 0 0, .slice none 0 0] (by rfl) 60 _ hcx (by rw [sA]; decide) sizeV7 hz1 A2 (by rw [HA2.out, HA.out]; rfl) ?_; intro w2 hc2 hg2)
    | (refine wpList_storeM rfl 27 _ _ rfl g 8 (by rfl) #[.int .i64 0, .int .u64 0, .string ⟨#[]⟩, .slice none 0 0, .string ⟨#[]⟩, .slice none 0 0, .slice none 0 0] (by rfl) 60 _ hc2 (by rw [sA2]; decide) sizeV7 hz1 K (by rw [HA2.out, HK.out]; rfl) ?_; intro w3 hc3 hg3)
    | (refine wpList_loadW rfl 60 _ rfl g (by rfl) 60 _ hc3 _ Try.underlying60 rfl (by rw [sK]; exact sizeE) ?_)
    | (refine wpList_storeW rfl 60 _ _ rfl (g + 1) (by rfl) K (by rfl) 60 _ ((hcy.grown hg2 (by simp)).grown hg3 (by simp)) (by omega) (by rw [sK]; exact sizeE) h21 ?_; intro w4 hc4 hg4))
  have hgs : w.heap.size ≤ W0.heap.size := HBA.out.size
  have hgw := HG.out
  have hb2 := HBA.out.grown hg2 hgs (fun k hk => by cases hk; omega)
  have hb3 := hb2.grown hg3 hb2.size (fun k hk => by cases hk; omega)
  have hb4 := hb3.grown hg4 hb3.size (fun k hk => by cases hk; omega)
  exact bodyPost_ret (v := .agg K) (results_cell_row rfl _ w4 (g + 1) 60 K (0, 0) _ rfl hc4 Try.underlying60 rfl (by rw [sK]; exact sizeE)) rfl ⟨rfl, hb4⟩
set_option maxRecDepth 100000 in
set_option maxHeartbeats 4000000 in
theorem own_k (k1 : k ≠ 1) (k2 : k ≠ 2) (k3 : k ≠ 3) (k4 : k ≠ 4) : Calls Try.prog 111 #[.agg #[.int .i64 k, .int .i64 0, .int .u64 0, .string ⟨#[]⟩, .slice none 0 0, .string ⟨#[]⟩, .slice none 0 0, .slice none 0 0, .int .i64 0, .int .u64 0, .string ⟨#[]⟩, .slice none 0 0, .string ⟨#[]⟩, .slice none 0 0, .slice none 0 0, .slice none 0 0, .bool false, .string ⟨#[]⟩, .string ⟨#[]⟩, .slice none 0 0, .slice none 0 0]] w fun e w' => e = .returned (.agg #[.int .i64 k, .int .i64 0, .int .u64 0, .string ⟨#[]⟩, .slice none 0 0, .string ⟨#[]⟩, .slice none 0 0, .slice none 0 0, .int .i64 0, .int .u64 0, .string ⟨#[]⟩, .slice none 0 0, .string ⟨#[]⟩, .slice none 0 0, .slice none 0 0, .slice none 0 0, .bool false, .string ⟨#[]⟩, .string ⟨#[]⟩, .slice none 0 0, .slice none 0 0]) ∧ Below w.heap.size w w' := by
  obtain ⟨A, hA⟩ : ∃ A, A = (#[.int .i64 k, .int .i64 0, .int .u64 0, .string ⟨#[]⟩, .slice none 0 0, .string ⟨#[]⟩, .slice none 0 0, .slice none 0 0, .int .i64 0, .int .u64 0, .string ⟨#[]⟩, .slice none 0 0, .string ⟨#[]⟩, .slice none 0 0, .slice none 0 0, .slice none 0 0, .bool false, .string ⟨#[]⟩, .string ⟨#[]⟩, .slice none 0 0, .slice none 0 0] : Array Value) := ⟨_, rfl⟩
  obtain ⟨K, hK⟩ : ∃ A, A = (#[.int .i64 k, .int .i64 0, .int .u64 0, .string ⟨#[]⟩, .slice none 0 0, .string ⟨#[]⟩, .slice none 0 0, .slice none 0 0, .int .i64 0, .int .u64 0, .string ⟨#[]⟩, .slice none 0 0, .string ⟨#[]⟩, .slice none 0 0, .slice none 0 0, .slice none 0 0, .bool false, .string ⟨#[]⟩, .string ⟨#[]⟩, .slice none 0 0, .slice none 0 0] : Array Value) := ⟨_, rfl⟩
  obtain ⟨Z, hZ⟩ : ∃ A, A = (#[.int .i64 0, .int .i64 0, .int .u64 0, .string ⟨#[]⟩, .slice none 0 0, .string ⟨#[]⟩, .slice none 0 0, .slice none 0 0, .int .i64 0, .int .u64 0, .string ⟨#[]⟩, .slice none 0 0, .string ⟨#[]⟩, .slice none 0 0, .slice none 0 0, .slice none 0 0, .bool false, .string ⟨#[]⟩, .string ⟨#[]⟩, .slice none 0 0, .slice none 0 0] : Array Value) := ⟨_, rfl⟩
  have hz1 : (#[.int .i64 0, .int .u64 0, .string ⟨#[]⟩, .slice none 0 0, .string ⟨#[]⟩, .slice none 0 0, .slice none 0 0] : Array Value).all (·.oneCell') = true := by simp [Value.oneCell']
  have h21 : K.all (·.oneCell') = true := by rw [hK]; simp [Value.oneCell']
  rw [← hK]
  rw [show (#[Value.agg K] : Array Value) = #[Value.agg A] from by rw [hA, hK]]
  obtain ⟨W0, hW0⟩ : ∃ W0, W0 = (w.alloc (.cells A 60)).alloc (.cells #[.int .i64 0, .int .i64 0, .int .u64 0, .string ⟨#[]⟩, .slice none 0 0, .string ⟨#[]⟩, .slice none 0 0, .slice none 0 0, .int .i64 0, .int .u64 0, .string ⟨#[]⟩, .slice none 0 0, .string ⟨#[]⟩, .slice none 0 0, .slice none 0 0, .slice none 0 0, .bool false, .string ⟨#[]⟩, .string ⟨#[]⟩, .slice none 0 0, .slice none 0 0] 60) := ⟨_, rfl⟩
  obtain ⟨g, hg⟩ : ∃ g, g = w.heap.size := ⟨_, rfl⟩
  have hBA : Below w.heap.size w W0 := by rw [hW0]; exact ((Below.refl _ _).alloc (Nat.le_refl _) _).alloc (by simp) _
  have hcx : CellsAt W0 g 60 A := by rw [hW0, hg]; exact CellsAt.allocE (CellsAt.new w _ _)
  have hcy : CellsAt W0 (g + 1) 60 Z := by rw [hZ, hW0, hg]; exact CellsAt.newE (by simp)
  have a0 := hcx.cell 0 (v := .int .i64 k) (by rw [hA]; rfl)
  have HW := Lib.hid hW0
  have HG := Lib.hid hg
  have HBA := Lib.hid hBA
  have sA : A.size = 21 := by rw [hA]; rfl
  have sK : K.size = 21 := by rw [hK]; rfl
  have sZ : Z.size = 21 := by rw [hZ]; rfl
  have HA := Lib.hid hA
  have HK := Lib.hid hK
  clear hW0 hg hBA hA hK hZ
  go_enter Try.func111, Try.ntmps111
  go_upto_region 1 with fail
  rw [← HW.out, ← HG.out]
  clear HW
  have hAK : A = K := HA.out.trans HK.out.symm
  subst hAK
  go_wp2_with (first
    | (refine wpList_loadW rfl 60 _ rfl g (by rfl) 60 _ hcx _ Try.underlying60 rfl (by rw [sA]; exact sizeE) ?_)
    | (refine wpList_storeW rfl 60 _ _ rfl (g + 1) (by rfl) A (by rfl) 60 _ hcy (by omega) (by rw [sA]; exact sizeE) h21 ?_; intro w4 hc4 hg4))
  have hgs : w.heap.size ≤ W0.heap.size := HBA.out.size
  have hgw := HG.out
  have hb4 := HBA.out.grown hg4 hgs (fun k hk => by cases hk; omega)
  exact bodyPost_ret (v := .agg A) (results_cell_row rfl _ w4 (g + 1) 60 A (0, 0) _ rfl hc4 Try.underlying60 rfl (by rw [sA]; exact sizeE)) rfl ⟨rfl, hb4⟩
set_option maxRecDepth 100000 in
set_option maxHeartbeats 4000000 in
theorem bare_1  : Calls Try.prog 77 #[.agg #[.int .i64 1, o0, o1, o2, o3, o4, o5, o6, n0, n1, n2, n3, n4, n5, n6, .slice none 0 0, .bool false, .string ⟨#[]⟩, .string ⟨#[]⟩, .slice none 0 0, .slice none 0 0]] w fun e w' => e = .returned (.bool true) ∧ Below w.heap.size w w' := by
  obtain ⟨A, hA⟩ : ∃ A, A = (#[.int .i64 1, o0, o1, o2, o3, o4, o5, o6, n0, n1, n2, n3, n4, n5, n6, .slice none 0 0, .bool false, .string ⟨#[]⟩, .string ⟨#[]⟩, .slice none 0 0, .slice none 0 0] : Array Value) := ⟨_, rfl⟩
  obtain ⟨K, hK⟩ : ∃ A, A = (#[.int .i64 1, .int .i64 0, .int .u64 0, .string ⟨#[]⟩, .slice none 0 0, .string ⟨#[]⟩, .slice none 0 0, .slice none 0 0, .int .i64 0, .int .u64 0, .string ⟨#[]⟩, .slice none 0 0, .string ⟨#[]⟩, .slice none 0 0, .slice none 0 0, .slice none 0 0, .bool false, .string ⟨#[]⟩, .string ⟨#[]⟩, .slice none 0 0, .slice none 0 0] : Array Value) := ⟨_, rfl⟩
  have HO : Hid (∀ W, Calls Try.prog 111 #[.agg A] W fun e w' => e = .returned (.agg K) ∧ Below W.heap.size W w') := fun W => by rw [hA, hK]; exact own_1
  rw [← hA]
  have sA : A.size = 21 := by rw [hA]; rfl
  have sK : K.size = 21 := by rw [hK]; rfl
  have hK1 : K.all (·.oneCell') = true := by rw [hK]; simp [Value.oneCell']
  have HK := Lib.hid hK
  clear hA hK
  obtain ⟨W0, hW0⟩ : ∃ W0, W0 = w.alloc (.cells A 60) := ⟨_, rfl⟩
  obtain ⟨g, hg⟩ : ∃ g, g = w.heap.size := ⟨_, rfl⟩
  have hBA : Below w.heap.size w W0 := by rw [hW0]; exact (Below.refl _ _).alloc (Nat.le_refl _) _
  have hcx : CellsAt W0 g 60 A := by rw [hW0, hg]; exact CellsAt.new w _ _
  have HN : Hid (∀ W, Calls Try.prog 112 #[.agg #[.int .i64 0, .int .u64 0, .string ⟨#[]⟩, .slice none 0 0, .string ⟨#[]⟩, .slice none 0 0, .slice none 0 0]] W fun e w' => e = .returned (.bool true) ∧ Below W.heap.size W w') := none_z
  have HW := Lib.hid hW0
  have HG := Lib.hid hg
  have HBA := Lib.hid hBA
  clear hW0 hg hBA
  go_enter Try.func77, Try.ntmps77
  go_upto_region 1 with fail
  rw [← HW.out, ← HG.out]
  go_wp2_with (first | (refine wpList_loadW rfl 60 _ rfl g (by rfl) 60 _ hcx _ Try.underlying60 rfl (by rw [sA]; exact sizeE) ?_))
  refine (HO.out _).mono ?_
  rintro e w1 ⟨rfl, hb1⟩
  have hb01 : Below w.heap.size w w1 := HBA.out.trans (hb1.mono HBA.out.size)
  clear hcx hb1 HO HW HG HBA
  go_upto_region 2 with (first | (refine wpList_storeW rfl 60 _ _ rfl w1.heap.size (by rfl) K (by rfl) 60 #[.int .i64 0, .int .i64 0, .int .u64 0, .string ⟨#[]⟩, .slice none 0 0, .string ⟨#[]⟩, .slice none 0 0, .slice none 0 0, .int .i64 0, .int .u64 0, .string ⟨#[]⟩, .slice none 0 0, .string ⟨#[]⟩, .slice none 0 0, .slice none 0 0, .slice none 0 0, .bool false, .string ⟨#[]⟩, .string ⟨#[]⟩, .slice none 0 0, .slice none 0 0] (CellsAt.new w1 _ _) (by rw [sK]; rfl) (by rw [sK]; exact sizeE) hK1 ?_; intro W2 hc2 hg2))
  have HB2 : Hid (Below w.heap.size w W2) := (hb01.alloc hb01.size _).grown hg2 (by simp; exact Nat.le_succ_of_le hb01.size) (fun k hk => by cases hk; exact hb01.size)
  obtain ⟨g2, hgw⟩ : ∃ g2, g2 = w1.heap.size := ⟨_, rfl⟩
  rw [← hgw] at hc2 ⊢
  have HX : Hid (∀ W, Below W2.heap.size W2 W → CellsAt W g2 60 K) := fun W hb => hc2.stays hb
  clear hg2 hgw hb01
  have a1 := hc2.cell 1 (v := .int .i64 0) (by rw [HK.out]; rfl); have a2 := hc2.cell 2 (v := .int .u64 0) (by rw [HK.out]; rfl); have a3 := hc2.cell 3 (v := .string ⟨#[]⟩) (by rw [HK.out]; rfl); have a4 := hc2.cell 4 (v := .slice none 0 0) (by rw [HK.out]; rfl); have a5 := hc2.cell 5 (v := .string ⟨#[]⟩) (by rw [HK.out]; rfl); have a6 := hc2.cell 6 (v := .slice none 0 0) (by rw [HK.out]; rfl); have a7 := hc2.cell 7 (v := .slice none 0 0) (by rw [HK.out]; rfl)
  clear hc2
  go_wp2_with fail
  refine (HN.out _).mono ?_
  rintro e w3 ⟨rfl, hb3⟩
  have hc3 := HX.out w3 hb3
  clear a1 a2 a3 a4 a5 a6 a7
  have a8 := hc3.cell 8 (v := .int .i64 0) (by rw [HK.out]; rfl); have a9 := hc3.cell 9 (v := .int .u64 0) (by rw [HK.out]; rfl); have a10 := hc3.cell 10 (v := .string ⟨#[]⟩) (by rw [HK.out]; rfl); have a11 := hc3.cell 11 (v := .slice none 0 0) (by rw [HK.out]; rfl); have a12 := hc3.cell 12 (v := .string ⟨#[]⟩) (by rw [HK.out]; rfl); have a13 := hc3.cell 13 (v := .slice none 0 0) (by rw [HK.out]; rfl); have a14 := hc3.cell 14 (v := .slice none 0 0) (by rw [HK.out]; rfl)
  have HB3 := Lib.hid hb3
  clear hc3 hb3
  go_wp2_with fail
  refine (HN.out _).mono ?_
  rintro e w4 ⟨rfl, hb4⟩
  have hb24 := HB3.out.trans (hb4.mono HB3.out.size)
  have hc4 := HX.out w4 hb24
  clear a8 a9 a10 a11 a12 a13 a14
  have a15 := hc4.cell 15 (v := .slice none 0 0) (by rw [HK.out]; rfl); have a16 := hc4.cell 16 (v := .bool false) (by rw [HK.out]; rfl); have a17 := hc4.cell 17 (v := .string ⟨#[]⟩) (by rw [HK.out]; rfl); have a18 := hc4.cell 18 (v := .string ⟨#[]⟩) (by rw [HK.out]; rfl); have a19 := hc4.cell 19 (v := .slice none 0 0) (by rw [HK.out]; rfl); have a20 := hc4.cell 20 (v := .slice none 0 0) (by rw [HK.out]; rfl)
  have HB4 := Lib.hid hb24
  have se : ((⟨#[]⟩ : ByteArray) ++ (⟨#[]⟩ : ByteArray)).toList.isEmpty = true := by rw [show ((⟨#[]⟩ : ByteArray) ++ (⟨#[]⟩ : ByteArray)).toList = [] from by unfold ByteArray.toList; unfold ByteArray.toList.loop; rfl]; rfl
  clear hc4 hb4 hb24 HB3
  go_wp2_with fail
  go_ret
  exact ⟨rfl, HB2.out.trans (HB4.out.mono HB2.out.size)⟩
set_option maxRecDepth 100000 in
set_option maxHeartbeats 4000000 in
theorem bare_k (k1 : k ≠ 1) (k2 : k ≠ 2) (k3 : k ≠ 3) (k4 : k ≠ 4) : Calls Try.prog 77 #[.agg #[.int .i64 k, .int .i64 0, .int .u64 0, .string ⟨#[]⟩, .slice none 0 0, .string ⟨#[]⟩, .slice none 0 0, .slice none 0 0, .int .i64 0, .int .u64 0, .string ⟨#[]⟩, .slice none 0 0, .string ⟨#[]⟩, .slice none 0 0, .slice none 0 0, .slice none 0 0, .bool false, .string ⟨#[]⟩, .string ⟨#[]⟩, .slice none 0 0, .slice none 0 0]] w fun e w' => e = .returned (.bool true) ∧ Below w.heap.size w w' := by
  obtain ⟨A, hA⟩ : ∃ A, A = (#[.int .i64 k, .int .i64 0, .int .u64 0, .string ⟨#[]⟩, .slice none 0 0, .string ⟨#[]⟩, .slice none 0 0, .slice none 0 0, .int .i64 0, .int .u64 0, .string ⟨#[]⟩, .slice none 0 0, .string ⟨#[]⟩, .slice none 0 0, .slice none 0 0, .slice none 0 0, .bool false, .string ⟨#[]⟩, .string ⟨#[]⟩, .slice none 0 0, .slice none 0 0] : Array Value) := ⟨_, rfl⟩
  obtain ⟨K, hK⟩ : ∃ A, A = (#[.int .i64 k, .int .i64 0, .int .u64 0, .string ⟨#[]⟩, .slice none 0 0, .string ⟨#[]⟩, .slice none 0 0, .slice none 0 0, .int .i64 0, .int .u64 0, .string ⟨#[]⟩, .slice none 0 0, .string ⟨#[]⟩, .slice none 0 0, .slice none 0 0, .slice none 0 0, .bool false, .string ⟨#[]⟩, .string ⟨#[]⟩, .slice none 0 0, .slice none 0 0] : Array Value) := ⟨_, rfl⟩
  have HO : Hid (∀ W, Calls Try.prog 111 #[.agg A] W fun e w' => e = .returned (.agg K) ∧ Below W.heap.size W w') := fun W => by rw [hA, hK]; exact own_k k1 k2 k3 k4
  rw [← hA]
  have sA : A.size = 21 := by rw [hA]; rfl
  have sK : K.size = 21 := by rw [hK]; rfl
  have hK1 : K.all (·.oneCell') = true := by rw [hK]; simp [Value.oneCell']
  have HK := Lib.hid hK
  clear hA hK
  obtain ⟨W0, hW0⟩ : ∃ W0, W0 = w.alloc (.cells A 60) := ⟨_, rfl⟩
  obtain ⟨g, hg⟩ : ∃ g, g = w.heap.size := ⟨_, rfl⟩
  have hBA : Below w.heap.size w W0 := by rw [hW0]; exact (Below.refl _ _).alloc (Nat.le_refl _) _
  have hcx : CellsAt W0 g 60 A := by rw [hW0, hg]; exact CellsAt.new w _ _
  have HN : Hid (∀ W, Calls Try.prog 112 #[.agg #[.int .i64 0, .int .u64 0, .string ⟨#[]⟩, .slice none 0 0, .string ⟨#[]⟩, .slice none 0 0, .slice none 0 0]] W fun e w' => e = .returned (.bool true) ∧ Below W.heap.size W w') := none_z
  have HW := Lib.hid hW0
  have HG := Lib.hid hg
  have HBA := Lib.hid hBA
  clear hW0 hg hBA
  go_enter Try.func77, Try.ntmps77
  go_upto_region 1 with fail
  rw [← HW.out, ← HG.out]
  go_wp2_with (first | (refine wpList_loadW rfl 60 _ rfl g (by rfl) 60 _ hcx _ Try.underlying60 rfl (by rw [sA]; exact sizeE) ?_))
  refine (HO.out _).mono ?_
  rintro e w1 ⟨rfl, hb1⟩
  have hb01 : Below w.heap.size w w1 := HBA.out.trans (hb1.mono HBA.out.size)
  clear hcx hb1 HO HW HG HBA
  go_upto_region 2 with (first | (refine wpList_storeW rfl 60 _ _ rfl w1.heap.size (by rfl) K (by rfl) 60 #[.int .i64 0, .int .i64 0, .int .u64 0, .string ⟨#[]⟩, .slice none 0 0, .string ⟨#[]⟩, .slice none 0 0, .slice none 0 0, .int .i64 0, .int .u64 0, .string ⟨#[]⟩, .slice none 0 0, .string ⟨#[]⟩, .slice none 0 0, .slice none 0 0, .slice none 0 0, .bool false, .string ⟨#[]⟩, .string ⟨#[]⟩, .slice none 0 0, .slice none 0 0] (CellsAt.new w1 _ _) (by rw [sK]; rfl) (by rw [sK]; exact sizeE) hK1 ?_; intro W2 hc2 hg2))
  have HB2 : Hid (Below w.heap.size w W2) := (hb01.alloc hb01.size _).grown hg2 (by simp; exact Nat.le_succ_of_le hb01.size) (fun k hk => by cases hk; exact hb01.size)
  obtain ⟨g2, hgw⟩ : ∃ g2, g2 = w1.heap.size := ⟨_, rfl⟩
  rw [← hgw] at hc2 ⊢
  have HX : Hid (∀ W, Below W2.heap.size W2 W → CellsAt W g2 60 K) := fun W hb => hc2.stays hb
  clear hg2 hgw hb01
  have a1 := hc2.cell 1 (v := .int .i64 0) (by rw [HK.out]; rfl); have a2 := hc2.cell 2 (v := .int .u64 0) (by rw [HK.out]; rfl); have a3 := hc2.cell 3 (v := .string ⟨#[]⟩) (by rw [HK.out]; rfl); have a4 := hc2.cell 4 (v := .slice none 0 0) (by rw [HK.out]; rfl); have a5 := hc2.cell 5 (v := .string ⟨#[]⟩) (by rw [HK.out]; rfl); have a6 := hc2.cell 6 (v := .slice none 0 0) (by rw [HK.out]; rfl); have a7 := hc2.cell 7 (v := .slice none 0 0) (by rw [HK.out]; rfl)
  clear hc2
  go_wp2_with fail
  refine (HN.out _).mono ?_
  rintro e w3 ⟨rfl, hb3⟩
  have hc3 := HX.out w3 hb3
  clear a1 a2 a3 a4 a5 a6 a7
  have a8 := hc3.cell 8 (v := .int .i64 0) (by rw [HK.out]; rfl); have a9 := hc3.cell 9 (v := .int .u64 0) (by rw [HK.out]; rfl); have a10 := hc3.cell 10 (v := .string ⟨#[]⟩) (by rw [HK.out]; rfl); have a11 := hc3.cell 11 (v := .slice none 0 0) (by rw [HK.out]; rfl); have a12 := hc3.cell 12 (v := .string ⟨#[]⟩) (by rw [HK.out]; rfl); have a13 := hc3.cell 13 (v := .slice none 0 0) (by rw [HK.out]; rfl); have a14 := hc3.cell 14 (v := .slice none 0 0) (by rw [HK.out]; rfl)
  have HB3 := Lib.hid hb3
  clear hc3 hb3
  go_wp2_with fail
  refine (HN.out _).mono ?_
  rintro e w4 ⟨rfl, hb4⟩
  have hb24 := HB3.out.trans (hb4.mono HB3.out.size)
  have hc4 := HX.out w4 hb24
  clear a8 a9 a10 a11 a12 a13 a14
  have a15 := hc4.cell 15 (v := .slice none 0 0) (by rw [HK.out]; rfl); have a16 := hc4.cell 16 (v := .bool false) (by rw [HK.out]; rfl); have a17 := hc4.cell 17 (v := .string ⟨#[]⟩) (by rw [HK.out]; rfl); have a18 := hc4.cell 18 (v := .string ⟨#[]⟩) (by rw [HK.out]; rfl); have a19 := hc4.cell 19 (v := .slice none 0 0) (by rw [HK.out]; rfl); have a20 := hc4.cell 20 (v := .slice none 0 0) (by rw [HK.out]; rfl)
  have HB4 := Lib.hid hb24
  have se : ((⟨#[]⟩ : ByteArray) ++ (⟨#[]⟩ : ByteArray)).toList.isEmpty = true := by rw [show ((⟨#[]⟩ : ByteArray) ++ (⟨#[]⟩ : ByteArray)).toList = [] from by unfold ByteArray.toList; unfold ByteArray.toList.loop; rfl]; rfl
  clear hc4 hb4 hb24 HB3
  go_wp2_with fail
  go_ret
  exact ⟨rfl, HB2.out.trans (HB4.out.mono HB2.out.size)⟩
set_option maxRecDepth 100000 in
set_option maxHeartbeats 4000000 in
theorem eright_k (k1 : k ≠ 1) (k2 : k ≠ 2) (k3 : k ≠ 3) (k4 : k ≠ 4) : Calls Try.prog 37 #[.agg #[.int .i64 k, .int .i64 0, .int .u64 0, .string ⟨#[]⟩, .slice none 0 0, .string ⟨#[]⟩, .slice none 0 0, .slice none 0 0, .int .i64 0, .int .u64 0, .string ⟨#[]⟩, .slice none 0 0, .string ⟨#[]⟩, .slice none 0 0, .slice none 0 0, .slice none 0 0, .bool false, .string ⟨#[]⟩, .string ⟨#[]⟩, .slice none 0 0, .slice none 0 0]] w fun e w' => e = .returned (.bool (k == 0)) ∧ Below w.heap.size w w' := by
  obtain ⟨A, hA⟩ : ∃ A, A = (#[.int .i64 k, .int .i64 0, .int .u64 0, .string ⟨#[]⟩, .slice none 0 0, .string ⟨#[]⟩, .slice none 0 0, .slice none 0 0, .int .i64 0, .int .u64 0, .string ⟨#[]⟩, .slice none 0 0, .string ⟨#[]⟩, .slice none 0 0, .slice none 0 0, .slice none 0 0, .bool false, .string ⟨#[]⟩, .string ⟨#[]⟩, .slice none 0 0, .slice none 0 0] : Array Value) := ⟨_, rfl⟩
  have sA : A.size = 21 := by rw [hA]; rfl
  have hbr := fun W => bare_k (w := W) k1 k2 k3 k4
  rw [← hA] at hbr ⊢
  obtain ⟨W0, hW0⟩ : ∃ W0, W0 = w.alloc (.cells A 60) := ⟨_, rfl⟩
  obtain ⟨g, hg⟩ : ∃ g, g = w.heap.size := ⟨_, rfl⟩
  have hBA : Below w.heap.size w W0 := by rw [hW0]; exact (Below.refl _ _).alloc (Nat.le_refl _) _
  have hcx : CellsAt W0 g 60 A := by rw [hW0, hg]; exact CellsAt.new w _ _
  have HC := Lib.hid (hbr W0)
  have HX : Hid (∀ W, Below W0.heap.size W0 W → CellsAt W g 60 A) := fun W hb => hcx.stays hb
  have HA := Lib.hid hA
  clear hbr hA
  have HW := Lib.hid hW0
  have HG := Lib.hid hg
  have HBA := Lib.hid hBA
  clear hW0 hg hBA
  go_enter Try.func37, Try.ntmps37
  go_upto_region 1 with fail
  rw [← HW.out, ← HG.out]
  go_wp2_with (first | (refine wpList_loadW rfl 60 _ rfl g (by rfl) 60 _ hcx _ Try.underlying60 rfl (by rw [sA]; exact sizeE) ?_))
  refine HC.out.mono ?_
  rintro e w1 ⟨rfl, hb1⟩
  have hc1 := HX.out w1 hb1
  have a0 := hc1.cell 0 (v := .int .i64 k) (by rw [HA.out]; rfl)
  have HB := Lib.hid (HBA.out.trans (hb1.mono HBA.out.size))
  clear hcx hc1 hb1 HX HC HBA HW HG
  by_cases h0 : k = 0
  · subst h0
    go_wp2_with fail
    go_ret
    exact ⟨rfl, HB.out⟩
  · go_wp2_with fail
    go_ret
    exact ⟨by rw [show (k == 0) = false from by simpa using h0]; rfl, HB.out⟩
end
section
variable {S S' : Nat → Prop} {w : World} {o0 o1 o2 o3 o4 o5 o6 n0 n1 n2 n3 n4 n5 n6 : Value} {v u : V}
set_option maxRecDepth 100000 in
set_option maxHeartbeats 4000000 in
theorem eright_1 (h : VV S w #[o0, o1, o2, o3, o4, o5, o6] v) (h' : VV S' w #[n0, n1, n2, n3, n4, n5, n6] u) : Calls Try.prog 37 #[.agg #[.int .i64 1, o0, o1, o2, o3, o4, o5, o6, n0, n1, n2, n3, n4, n5, n6, .slice none 0 0, .bool false, .string ⟨#[]⟩, .string ⟨#[]⟩, .slice none 0 0, .slice none 0 0]] w fun e w' => e = .returned (.bool (rightV v && rightV u && !(cmpV v u == 0))) ∧ Below w.heap.size w w' := by
  obtain ⟨A, hA⟩ : ∃ A, A = (#[.int .i64 1, o0, o1, o2, o3, o4, o5, o6, n0, n1, n2, n3, n4, n5, n6, .slice none 0 0, .bool false, .string ⟨#[]⟩, .string ⟨#[]⟩, .slice none 0 0, .slice none 0 0] : Array Value) := ⟨_, rfl⟩
  have sA : A.size = 21 := by rw [hA]; rfl
  have hbr : ∀ W, Calls Try.prog 77 #[.agg #[.int .i64 1, o0, o1, o2, o3, o4, o5, o6, n0, n1, n2, n3, n4, n5, n6, .slice none 0 0, .bool false, .string ⟨#[]⟩, .string ⟨#[]⟩, .slice none 0 0, .slice none 0 0]] W fun e w' => e = .returned (.bool true) ∧ Below W.heap.size W w' := fun W => bare_1
  rw [← hA] at hbr ⊢
  obtain ⟨W0, hW0⟩ : ∃ W0, W0 = w.alloc (.cells A 60) := ⟨_, rfl⟩
  obtain ⟨g, hg⟩ : ∃ g, g = w.heap.size := ⟨_, rfl⟩
  have hBA : Below w.heap.size w W0 := by rw [hW0]; exact (Below.refl _ _).alloc (Nat.le_refl _) _
  have hcx : CellsAt W0 g 60 A := by rw [hW0, hg]; exact CellsAt.new w _ _
  have HC := Lib.hid (hbr W0)
  have HX : Hid (∀ W, Below W0.heap.size W0 W → CellsAt W g 60 A) := fun W hb => hcx.stays hb
  have HA := Lib.hid hA
  clear hbr hA
  have HR1 : Hid (∀ W, Below W0.heap.size W0 W → Calls Try.prog 15 #[.agg #[o0, o1, o2, o3, o4, o5, o6]] W fun e w' => e = .returned (.bool (rightV v)) ∧ Below W.heap.size W w') := fun W hb => right_op (h.stays (hBA.trans (hb.mono hBA.size)))
  have HR2 : Hid (∀ W, Below W0.heap.size W0 W → Calls Try.prog 15 #[.agg #[n0, n1, n2, n3, n4, n5, n6]] W fun e w' => e = .returned (.bool (rightV u)) ∧ Below W.heap.size W w') := fun W hb => right_op (h'.stays (hBA.trans (hb.mono hBA.size)))
  have HS : Hid (∀ W, Below W0.heap.size W0 W → Calls Try.prog 23 #[.agg #[o0, o1, o2, o3, o4, o5, o6], .agg #[n0, n1, n2, n3, n4, n5, n6]] W fun e w' => e = .returned (.bool (cmpV v u == 0)) ∧ Below W.heap.size W w') := fun W hb => same_op (h.stays (hBA.trans (hb.mono hBA.size))) (h'.stays (hBA.trans (hb.mono hBA.size)))
  generalize rightV v = R1 at HR1 ⊢
  generalize rightV u = R2 at HR2 ⊢
  generalize (cmpV v u == 0) = C at HS ⊢
  have HW := Lib.hid hW0
  have HG := Lib.hid hg
  have HBA := Lib.hid hBA
  clear hW0 hg hBA h h'
  go_enter Try.func37, Try.ntmps37
  go_upto_region 1 with fail
  rw [← HW.out, ← HG.out]
  go_wp2_with (first | (refine wpList_loadW rfl 60 _ rfl g (by rfl) 60 _ hcx _ Try.underlying60 rfl (by rw [sA]; exact sizeE) ?_))
  refine HC.out.mono ?_
  rintro e w1 ⟨rfl, hb1⟩
  have hc1 := HX.out w1 hb1
  have a0 := hc1.cell 0 (v := .int .i64 1) (by rw [HA.out]; rfl); have a1 := hc1.cell 1 (v := o0) (by rw [HA.out]; rfl); have a2 := hc1.cell 2 (v := o1) (by rw [HA.out]; rfl); have a3 := hc1.cell 3 (v := o2) (by rw [HA.out]; rfl); have a4 := hc1.cell 4 (v := o3) (by rw [HA.out]; rfl); have a5 := hc1.cell 5 (v := o4) (by rw [HA.out]; rfl); have a6 := hc1.cell 6 (v := o5) (by rw [HA.out]; rfl); have a7 := hc1.cell 7 (v := o6) (by rw [HA.out]; rfl); have a8 := hc1.cell 8 (v := n0) (by rw [HA.out]; rfl); have a9 := hc1.cell 9 (v := n1) (by rw [HA.out]; rfl); have a10 := hc1.cell 10 (v := n2) (by rw [HA.out]; rfl); have a11 := hc1.cell 11 (v := n3) (by rw [HA.out]; rfl); have a12 := hc1.cell 12 (v := n4) (by rw [HA.out]; rfl); have a13 := hc1.cell 13 (v := n5) (by rw [HA.out]; rfl); have a14 := hc1.cell 14 (v := n6) (by rw [HA.out]; rfl)
  have HB1 := Lib.hid hb1
  clear hcx hc1 hb1 HC HW HG
  go_wp2_with fail
  refine (HR1.out _ HB1.out).mono ?_
  rintro e w2 ⟨rfl, hb2⟩
  have hb02 := HB1.out.trans (hb2.mono HB1.out.size)
  have hc2 := HX.out w2 hb02
  clear a0 a1 a2 a3 a4 a5 a6 a7 a8 a9 a10 a11 a12 a13 a14
  have a0 := hc2.cell 0 (v := .int .i64 1) (by rw [HA.out]; rfl); have a1 := hc2.cell 1 (v := o0) (by rw [HA.out]; rfl); have a2 := hc2.cell 2 (v := o1) (by rw [HA.out]; rfl); have a3 := hc2.cell 3 (v := o2) (by rw [HA.out]; rfl); have a4 := hc2.cell 4 (v := o3) (by rw [HA.out]; rfl); have a5 := hc2.cell 5 (v := o4) (by rw [HA.out]; rfl); have a6 := hc2.cell 6 (v := o5) (by rw [HA.out]; rfl); have a7 := hc2.cell 7 (v := o6) (by rw [HA.out]; rfl); have a8 := hc2.cell 8 (v := n0) (by rw [HA.out]; rfl); have a9 := hc2.cell 9 (v := n1) (by rw [HA.out]; rfl); have a10 := hc2.cell 10 (v := n2) (by rw [HA.out]; rfl); have a11 := hc2.cell 11 (v := n3) (by rw [HA.out]; rfl); have a12 := hc2.cell 12 (v := n4) (by rw [HA.out]; rfl); have a13 := hc2.cell 13 (v := n5) (by rw [HA.out]; rfl); have a14 := hc2.cell 14 (v := n6) (by rw [HA.out]; rfl)
  have HB2 := Lib.hid hb02
  clear hc2 hb2 hb02 HB1 HR1
  cases R1 with
  | false =>
    clear a0 a1 a2 a3 a4 a5 a6 a7 a8 a9 a10 a11 a12 a13 a14
    go_wp2_with fail
    go_ret
    exact ⟨rfl, HBA.out.trans (HB2.out.mono HBA.out.size)⟩
  | true =>
    go_wp2_with fail
    refine (HR2.out _ HB2.out).mono ?_
    rintro e w3 ⟨rfl, hb3⟩
    have hb03 := HB2.out.trans (hb3.mono HB2.out.size)
    have hc3 := HX.out w3 hb03
    clear a0 a1 a2 a3 a4 a5 a6 a7 a8 a9 a10 a11 a12 a13 a14
    have a0 := hc3.cell 0 (v := .int .i64 1) (by rw [HA.out]; rfl); have a1 := hc3.cell 1 (v := o0) (by rw [HA.out]; rfl); have a2 := hc3.cell 2 (v := o1) (by rw [HA.out]; rfl); have a3 := hc3.cell 3 (v := o2) (by rw [HA.out]; rfl); have a4 := hc3.cell 4 (v := o3) (by rw [HA.out]; rfl); have a5 := hc3.cell 5 (v := o4) (by rw [HA.out]; rfl); have a6 := hc3.cell 6 (v := o5) (by rw [HA.out]; rfl); have a7 := hc3.cell 7 (v := o6) (by rw [HA.out]; rfl); have a8 := hc3.cell 8 (v := n0) (by rw [HA.out]; rfl); have a9 := hc3.cell 9 (v := n1) (by rw [HA.out]; rfl); have a10 := hc3.cell 10 (v := n2) (by rw [HA.out]; rfl); have a11 := hc3.cell 11 (v := n3) (by rw [HA.out]; rfl); have a12 := hc3.cell 12 (v := n4) (by rw [HA.out]; rfl); have a13 := hc3.cell 13 (v := n5) (by rw [HA.out]; rfl); have a14 := hc3.cell 14 (v := n6) (by rw [HA.out]; rfl)
    have HB3 := Lib.hid hb03
    clear hc3 hb3 hb03 HB2 HR2
    cases R2 with
    | false =>
      clear a0 a1 a2 a3 a4 a5 a6 a7 a8 a9 a10 a11 a12 a13 a14
      go_wp2_with fail
      go_ret
      exact ⟨rfl, HBA.out.trans (HB3.out.mono HBA.out.size)⟩
    | true =>
      go_wp2_with fail
      refine (HS.out _ HB3.out).mono ?_
      rintro e w4 ⟨rfl, hb4⟩
      have HB4 := Lib.hid (HBA.out.trans ((HB3.out.trans (hb4.mono HB3.out.size)).mono HBA.out.size))
      clear a0 a1 a2 a3 a4 a5 a6 a7 a8 a9 a10 a11 a12 a13 a14 hb4
      cases C <;> (go_wp2_with fail) <;> go_ret <;> exact ⟨rfl, HB4.out⟩
end
end Go.Proofs.Ytcnjlbbckdmifaa
