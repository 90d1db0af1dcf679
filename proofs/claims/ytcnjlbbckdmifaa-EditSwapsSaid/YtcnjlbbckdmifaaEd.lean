/- The chapter's example (layer 21); values' letters. -/
import Derived.Test.YtcnjlbbckdmifaaEc
namespace Go.Proofs.Ytcnjlbbckdmifaa
open Go Go.RowKit
set_option linter.unusedVariables false
def v1 : V := .mk 1 1 [] [] [] [] []
def O1 : Array Value := #[.int .i64 1, .int .u64 1, .string ⟨#[]⟩, .slice none 0 0, .string ⟨#[]⟩, .slice none 0 0, .slice none 0 0]
theorem v1_rep (w : World) : VV (fun _ => True) w O1 v1 := ⟨⟨none, 0, none, 0, none, 0⟩, rfl, Rep.leaf 1 1 [] [] ⟨by decide, by decide⟩ (by decide) _⟩
theorem v1_right : rightV v1 = true := by simp [v1, rightV, rightF, rightL, rightP, shapeB]
theorem v1_size : sizeV v1 = 1 := by simp [v1, sizeV, sizeF, sizeL, sizeP]
theorem v1_w : wV v1 ≤ 1000000 := by simp [v1, wV, wF, wL, wP]
theorem vz_w : wV vz ≤ 1000000 := by simp [vz, wV, wF, wL, wP]
theorem vz_ne : cmpV vz v1 ≠ 0 := by simp [vz, v1, cmpV, sgnI, orI]
theorem VV.letters {S : Nat → Prop} {w : World} {v : V} {a : A3} (h : Rep S w v a) : ∃ o0 o1 o2 o3 o4 o5 o6, vG (v, a) = .agg #[o0, o1, o2, o3, o4, o5, o6] ∧ VV S w #[o0, o1, o2, o3, o4, o5, o6] v ∧ (#[o0, o1, o2, o3, o4, o5, o6] : Array Value).all (·.oneCell') = true :=
  ⟨_, _, _, _, _, _, _, rfl, VV.of h, by simp [Value.oneCell']⟩
theorem great_op {S : Nat → Prop} {w : World} {O : Array Value} {v : V} {most : Int} (h0 : 0 ≤ most) (h1 : most ≤ 1000) (h : VV S w O v) : Calls Try.prog 13 #[.agg O, .int .i64 most] w fun e w' => e = .returned (.bool (decide (greatV v most 30 < 0))) ∧ Below w.heap.size w w' := by
  obtain ⟨⟨fa, fc, la, lc, pa, pc⟩, rfl, hr⟩ := h
  obtain ⟨k, n, t, fs, r, ls, ps⟩ := v
  exact Great_any h0 h1 hr
theorem eright_0 (w : World) : Calls Try.prog 37 #[.agg #[.int .i64 0, .int .i64 0, .int .u64 0, .string ⟨#[]⟩, .slice none 0 0, .string ⟨#[]⟩, .slice none 0 0, .slice none 0 0, .int .i64 0, .int .u64 0, .string ⟨#[]⟩, .slice none 0 0, .string ⟨#[]⟩, .slice none 0 0, .slice none 0 0, .slice none 0 0, .bool false, .string ⟨#[]⟩, .string ⟨#[]⟩, .slice none 0 0, .slice none 0 0]] w fun e w' => e = .returned (.bool true) ∧ Below w.heap.size w w' := eright_k (k := 0) (by decide) (by decide) (by decide) (by decide)
theorem eright_9 (w : World) : Calls Try.prog 37 #[.agg #[.int .i64 9, .int .i64 0, .int .u64 0, .string ⟨#[]⟩, .slice none 0 0, .string ⟨#[]⟩, .slice none 0 0, .slice none 0 0, .int .i64 0, .int .u64 0, .string ⟨#[]⟩, .slice none 0 0, .string ⟨#[]⟩, .slice none 0 0, .slice none 0 0, .slice none 0 0, .bool false, .string ⟨#[]⟩, .string ⟨#[]⟩, .slice none 0 0, .slice none 0 0]] w fun e w' => e = .returned (.bool false) ∧ Below w.heap.size w w' := eright_k (k := 9) (by decide) (by decide) (by decide) (by decide)
theorem al_swap (w : World) : Calls Try.prog 36 #[.agg #[.int .i64 0, .int .u64 0, .string ⟨#[]⟩, .slice none 0 0, .string ⟨#[]⟩, .slice none 0 0, .slice none 0 0], .agg #[.int .i64 1, .int .u64 1, .string ⟨#[]⟩, .slice none 0 0, .string ⟨#[]⟩, .slice none 0 0, .slice none 0 0]] w fun e w' => e = .returned (.agg #[.int .i64 1, .int .i64 0, .int .u64 0, .string ⟨#[]⟩, .slice none 0 0, .string ⟨#[]⟩, .slice none 0 0, .slice none 0 0, .int .i64 1, .int .u64 1, .string ⟨#[]⟩, .slice none 0 0, .string ⟨#[]⟩, .slice none 0 0, .slice none 0 0, .slice none 0 0, .bool false, .string ⟨#[]⟩, .string ⟨#[]⟩, .slice none 0 0, .slice none 0 0]) ∧ Below w.heap.size w w' := by
  have h := swapped_op (vz_rep w) (v1_rep w) (by simp [Value.oneCell'])
  rwa [if_neg vz_ne] at h
theorem al_size21 (w : World) : Calls Try.prog 42 #[.agg #[.int .i64 1, .int .i64 0, .int .u64 0, .string ⟨#[]⟩, .slice none 0 0, .string ⟨#[]⟩, .slice none 0 0, .slice none 0 0, .int .i64 1, .int .u64 1, .string ⟨#[]⟩, .slice none 0 0, .string ⟨#[]⟩, .slice none 0 0, .slice none 0 0, .slice none 0 0, .bool false, .string ⟨#[]⟩, .string ⟨#[]⟩, .slice none 0 0, .slice none 0 0]] w fun e w' => e = .returned (.int .i64 2) ∧ Below w.heap.size w w' := by
  have h := size_1 (vz_rep w) (v1_rep w) vz_w v1_w
  rwa [vz_size, v1_size] at h
theorem al_right21 (w : World) : Calls Try.prog 37 #[.agg #[.int .i64 1, .int .i64 0, .int .u64 0, .string ⟨#[]⟩, .slice none 0 0, .string ⟨#[]⟩, .slice none 0 0, .slice none 0 0, .int .i64 1, .int .u64 1, .string ⟨#[]⟩, .slice none 0 0, .string ⟨#[]⟩, .slice none 0 0, .slice none 0 0, .slice none 0 0, .bool false, .string ⟨#[]⟩, .string ⟨#[]⟩, .slice none 0 0, .slice none 0 0]] w fun e w' => e = .returned (.bool true) ∧ Below w.heap.size w w' := by
  have h := eright_1 (vz_rep w) (v1_rep w)
  rwa [vz_right, v1_right, show (cmpV vz v1 == 0) = false from by simpa using vz_ne] at h
section
variable {P : Program} {ops : Array Oper} {rest : List Oper} {o : Oper} {a : Act} {w : World} {Q : Exit → Act → World → Prop}
/-- a block is read whole, behind a guard that is met -/
theorem wpList_loadWg (hw : Region.wanted o (yielded ops a.tmps) = true) (E : TypeId) (x : Operand) (hop : o.op = Op.load E x) (g : Nat) (hx : a.eval x = .pointer (some ⟨g, 0, none⟩)) (T : TypeId) (c : Array Value) (hc : CellsAt w g T c) (d : TypeDesc)
    (hu : P.underlying E = some d) (hd : d.isRow = true) (hi : (P.info? E).map (·.size) = some c.size)
    (h : wpList P ops Q rest (a.put o.dst (.agg c)) w) : wpList P ops Q (o :: rest) a w := by
  refine wpList_step fun K hK => ?_
  rw [if_pos hw]
  refine wp_load_mid E x hop g 0 hx c.toList d (fun j v hv => ?_) hu hd (by simpa using hi) (by simpa using hK _ _ h)
  rw [Nat.zero_add]
  exact hc.cell j (by simpa using hv)
end
set_option maxRecDepth 100000 in
set_option maxHeartbeats 4000000 in
theorem alive21 (w : World) : Calls Try.prog 35 #[] w fun e w' => e = .returned (.bool true) ∧ Below w.heap.size w w' := by
  obtain ⟨A, hA⟩ : ∃ A, A = (#[.int .i64 1, .int .i64 0, .int .u64 0, .string ⟨#[]⟩, .slice none 0 0, .string ⟨#[]⟩, .slice none 0 0, .slice none 0 0, .int .i64 1, .int .u64 1, .string ⟨#[]⟩, .slice none 0 0, .string ⟨#[]⟩, .slice none 0 0, .slice none 0 0, .slice none 0 0, .bool false, .string ⟨#[]⟩, .string ⟨#[]⟩, .slice none 0 0, .slice none 0 0] : Array Value) := ⟨_, rfl⟩
  obtain ⟨N, hN⟩ : ∃ A, A = (#[.int .i64 9, .int .i64 0, .int .u64 0, .string ⟨#[]⟩, .slice none 0 0, .string ⟨#[]⟩, .slice none 0 0, .slice none 0 0, .int .i64 0, .int .u64 0, .string ⟨#[]⟩, .slice none 0 0, .string ⟨#[]⟩, .slice none 0 0, .slice none 0 0, .slice none 0 0, .bool false, .string ⟨#[]⟩, .string ⟨#[]⟩, .slice none 0 0, .slice none 0 0] : Array Value) := ⟨_, rfl⟩
  have sA : A.size = 21 := by rw [hA]; rfl
  have h1 : A.all (·.oneCell') = true := by rw [hA]; simp [Value.oneCell']
  have hsw := al_swap
  have hsz := al_size21
  have hrt := al_right21
  rw [← hA] at hsw hsz hrt
  have HSW := Lib.hid hsw
  have HSZ := Lib.hid hsz
  have HRT := Lib.hid hrt
  have HA := Lib.hid hA
  clear hsw hsz hrt hA hN
  go_enter Try.func35, Try.ntmps35
  go_wp2_with fail
  refine (HSW.out _).mono ?_
  rintro e w1 ⟨rfl, hb1⟩
  clear HSW
  go_upto_region 2 with (first | (refine wpList_storeW rfl 60 _ _ rfl w1.heap.size (by rfl) A (by rfl) 60 #[.int .i64 0, .int .i64 0, .int .u64 0, .string ⟨#[]⟩, .slice none 0 0, .string ⟨#[]⟩, .slice none 0 0, .slice none 0 0, .int .i64 0, .int .u64 0, .string ⟨#[]⟩, .slice none 0 0, .string ⟨#[]⟩, .slice none 0 0, .slice none 0 0, .slice none 0 0, .bool false, .string ⟨#[]⟩, .string ⟨#[]⟩, .slice none 0 0, .slice none 0 0] (CellsAt.new w1 _ _) (by rw [sA]; rfl) (by rw [sA]; exact sizeE) h1 ?_; intro W2 hc2 hg2))
  have HB2 : Hid (Below w.heap.size w W2) := (hb1.alloc hb1.size _).grown hg2 (by simp; exact Nat.le_succ_of_le hb1.size) (fun k hk => by cases hk; exact hb1.size)
  obtain ⟨g2, hgw⟩ : ∃ g2, g2 = w1.heap.size := ⟨_, rfl⟩
  rw [← hgw] at hc2 ⊢
  have HX : Hid (∀ W, Below W2.heap.size W2 W → CellsAt W g2 60 A) := fun W hb => hc2.stays hb
  have a0 := hc2.cell 0 (v := .int .i64 1) (by rw [HA.out]; rfl)
  clear hg2 hgw hb1
  go_wp2_with (first | (refine wpList_loadWg (by rfl) 60 _ rfl g2 (by rfl) 60 _ hc2 _ Try.underlying60 rfl (by rw [sA]; exact sizeE) ?_))
  refine (HSZ.out _).mono ?_
  rintro e w3 ⟨rfl, hb3⟩
  have hc3 := HX.out w3 hb3
  have HB3 := Lib.hid hb3
  clear hc2 a0 hb3 HSZ
  go_wp2_with (first | (refine wpList_loadWg (by rfl) 60 _ rfl g2 (by rfl) 60 _ hc3 _ Try.underlying60 rfl (by rw [sA]; exact sizeE) ?_))
  refine (HRT.out _).mono ?_
  rintro e w4 ⟨rfl, hb4⟩
  have HB4 := Lib.hid (HB3.out.trans (hb4.mono HB3.out.size))
  clear hc3 hb4 HRT
  go_wp2_with fail
  refine (eright_9 _).mono ?_
  rintro e w5 ⟨rfl, hb5⟩
  have HB5 := Lib.hid (HB4.out.trans (hb5.mono HB4.out.size))
  clear hb5
  go_wp2_with fail
  go_ret
  exact ⟨rfl, HB2.out.trans (HB5.out.mono HB2.out.size)⟩
end Go.Proofs.Ytcnjlbbckdmifaa
