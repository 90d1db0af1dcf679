/- rec.Bytes, Cost. -/
import Derived.Test.YtgehbabcpmkgaaaDoorRecR
import Derived.Test.YtgehbabcpmkgaaaDoorVput
namespace Go.Proofs.YtgehbabcpmkgaaaDoor
open Go Go.RowKit
set_option linter.unusedVariables false
/-- a record's bytes -/
def recB (k f t : Int) (body : List UInt8) : List UInt8 := b8 k.toNat :: (vput t.toNat ++ ((if k = 3 then vput (t - f).toNat else []) ++ body))
/-- the error of a record's bytes -/
def recE (k f t : Int) : Nat := if recK k = true then (if recR k f t = true then 0 else 1) else 12
def recBs (k f t : Int) (body : List UInt8) : List UInt8 := if recE k f t = 0 then recB k f t body else []
theorem recB_len (k f t : Int) (body : List UInt8) (h : recR k f t = true) : (recB k f t body).length ≤ body.length + 21 := by
  obtain ⟨h1, h2, h3⟩ := recR_true h
  have l1 := vput_len10 t.toNat (by omega)
  have l2 := vput_len10 (t - f).toNat (by omega)
  unfold recB
  rw [List.length_cons, List.length_append, List.length_append]
  split <;> simp <;> omega
section
variable (ea : Nat → Addr) (k f t : Int) (vb : Value) (body : List UInt8) (w : World) (hk1 : -9223372036854775808 ≤ k) (hk2 : k ≤ 9223372036854775807) (hf1 : -9223372036854775808 ≤ f) (hf2 : f ≤ 9223372036854775807) (ht1 : -9223372036854775808 ≤ t) (ht2 : t ≤ 9223372036854775807)
  (hr : RowB w vb body) (hlen : body.length ≤ 1000)
include hk1 hk2 hf1 hf2 ht1 ht2 hr hlen
omit hk1 hk2 hf1 hf2 ht1 ht2 hlen in
set_option maxRecDepth 100000 in
set_option maxHeartbeats 4000000 in
theorem recBytes_kind (he12 : ErrAt w 1 (ea 12)) (hK : recK k = false) :
    Calls Tryd.prog 26 #[.agg #[.int .i64 k, .int .i64 f, .int .i64 t, vb]] w fun e w' => e = .returned (.tuple #[.slice none 0 0, .iface 248 (.pointer (some (ea 12)))]) ∧ Below w.heap.size w w' := by
  obtain ⟨a, c, rfl, -, -⟩ := RowL.shape (f := BV) hr
  have hb0 : Below w.heap.size w (w.alloc (.cells #[.int .i64 k, .int .i64 f, .int .i64 t, .slice a body.length c] 37)) := (Below.refl _ _).alloc (Nat.le_refl _) _
  have HK := Lib.hid (recKnown_any k (w.alloc (.cells #[.int .i64 k, .int .i64 f, .int .i64 t, .slice a body.length c] 37)))
  rw [hK] at HK
  have e12 := he12.stays hb0
  have HB := Lib.hid hb0
  unfold ErrAt at e12
  clear hr hb0 he12 hK
  go_enter Tryd.func26, Tryd.ntmps26
  go_wp2_with fail
  refine HK.out.mono ?_
  rintro e w1 ⟨rfl, rfl⟩
  go_wp2_with fail
  go_region
  all_goals go_wp2_with fail
  all_goals go_ret2
  all_goals exact ⟨rfl, HB.out.drew⟩
omit hlen in
set_option maxRecDepth 100000 in
set_option maxHeartbeats 4000000 in
theorem recBytes_range (he1 : ErrAt w 2 (ea 1)) (hK : recK k = true) (hR : recR k f t = false) :
    Calls Tryd.prog 26 #[.agg #[.int .i64 k, .int .i64 f, .int .i64 t, vb]] w fun e w' => e = .returned (.tuple #[.slice none 0 0, .iface 248 (.pointer (some (ea 1)))]) ∧ Below w.heap.size w w' := by
  obtain ⟨a, c, rfl, -, -⟩ := RowL.shape (f := BV) hr
  have hb0 : Below w.heap.size w (w.alloc (.cells #[.int .i64 k, .int .i64 f, .int .i64 t, .slice a body.length c] 37)) := (Below.refl _ _).alloc (Nat.le_refl _) _
  have HK := Lib.hid (recKnown_any k (w.alloc (.cells #[.int .i64 k, .int .i64 f, .int .i64 t, .slice a body.length c] 37)))
  rw [hK] at HK
  have HR := Lib.hid (recRight_any k f t a body.length c (w.alloc (.cells #[.int .i64 k, .int .i64 f, .int .i64 t, .slice a body.length c] 37)) hk1 hk2 hf1 hf2 ht1 ht2)
  rw [hR] at HR
  have HE : Hid (∀ w', Below w.heap.size w w' → ErrAt w' 2 (ea 1)) := fun w' h => he1.stays h
  have HB := Lib.hid hb0
  clear hr hb0 he1 hK hR
  go_enter Tryd.func26, Tryd.ntmps26
  go_wp2_with fail
  refine HK.out.mono ?_
  rintro e w1 ⟨rfl, rfl⟩
  go_wp2_with fail
  refine HR.out.mono ?_
  rintro e w2 ⟨rfl, hb2⟩
  have hbe2 := HB.out.trans (hb2.mono HB.out.size)
  have e1 := HE.out _ hbe2
  unfold ErrAt at e1
  clear hb2
  go_wp2_with fail
  go_region
  all_goals go_wp2_with fail
  all_goals go_ret2
  all_goals exact ⟨rfl, hbe2.drew⟩
set_option maxRecDepth 100000 in
set_option maxHeartbeats 4000000 in
theorem recBytes_ok (hR : recR k f t = true) :
    Calls Tryd.prog 26 #[.agg #[.int .i64 k, .int .i64 f, .int .i64 t, vb]] w fun e w' => ∃ v', e = .returned (.tuple #[v', .nilIface]) ∧ OwnB w.heap.size w' v' (recB k f t body) ∧ Below w.heap.size w w' := by
  have HRB : Hid (∀ w', Below w.heap.size w w' → RowB w' vb body) := fun w' h => hr.stays h
  obtain ⟨a, c, rfl, -, -⟩ := RowL.shape (f := BV) hr
  have hb0 : Below w.heap.size w (w.alloc (.cells #[.int .i64 k, .int .i64 f, .int .i64 t, .slice a body.length c] 37)) := (Below.refl _ _).alloc (Nat.le_refl _) _
  have hc0 := CellsAt.new w #[.int .i64 k, .int .i64 f, .int .i64 t, .slice a body.length c] 37
  obtain ⟨h1, h2, h3⟩ := recR_true hR
  have HK := Lib.hid (recKnown_any k (w.alloc (.cells #[.int .i64 k, .int .i64 f, .int .i64 t, .slice a body.length c] 37)))
  rw [show recK k = true from decide_eq_true (by omega)] at HK
  have HR := Lib.hid (recRight_any k f t a body.length c (w.alloc (.cells #[.int .i64 k, .int .i64 f, .int .i64 t, .slice a body.length c] 37)) hk1 hk2 hf1 hf2 ht1 ht2)
  rw [hR] at HR
  obtain ⟨T, rfl⟩ := Int.eq_ofNat_of_zero_le h1
  have hT : (T : Int) < 400 := h2
  have kw : IntKind.u8.wrap k = k := IntWalk.u8_in _ (by omega)
  have k1 : 1 ≤ k := by omega
  have k3 : k ≤ 3 := by omega
  obtain ⟨K, rfl⟩ := Int.eq_ofNat_of_zero_le (by omega : 0 ≤ k)
  have hK3 : K ≤ 3 := by omega
  have hT4 : T ≤ 399 := by omega
  have HB := Lib.hid hb0
  have HC := Lib.hid hc0
  clear hr hb0 hR hc0
  go_enter Tryd.func26, Tryd.ntmps26
  go_wp2_with fail
  refine HK.out.mono ?_
  rintro e w1 ⟨rfl, rfl⟩
  go_wp2_with fail
  refine HR.out.mono ?_
  rintro e w2 ⟨rfl, hb2⟩
  have hbe2 := HB.out.trans (hb2.mono HB.out.size)
  have hc2 := HC.out.stays hb2
  have d0 := hc2.cell 0 (v := .int .i64 K) rfl
  have d1 := hc2.cell 1 (v := .int .i64 f) rfl
  have d2 := hc2.cell 2 (v := .int .i64 T) rfl
  have d3 := hc2.cell 3 (v := .slice a body.length c) rfl
  have hm : OwnB w2.heap.size (w2.alloc (.cells #[.int .u8 K] 5)) (.slice (some ⟨w2.heap.size, 0, none⟩) 1 1) [b8 K] := OwnB.one w2 (by rw [BV_b8]; congr 1; omega)
  have HP := Lib.hid (vPut_any _ _ T _ (by omega) (by simp) hm.row)
  have hb3 : Below w2.heap.size w2 (w2.alloc (.cells #[.int .u8 K] 5)) := (Below.refl _ _).alloc (Nat.le_refl _) _
  have hbe3 := hbe2.trans (hb3.mono hbe2.size)
  have hc23 := hc2.stays hb3
  have q2 := hc23.cell 2 (v := .int .i64 T) rfl
  have HC2 := Lib.hid hc23
  clear hb2 hm hb3 hc2 hc23 HK HR
  go_wp2_with fail
  refine HP.out.mono ?_
  rintro e w3 ⟨v3, rfl, o3, hb3⟩
  have hbe4 := hbe3.trans (hb3.mono hbe3.size)
  have hc3 := HC2.out.stays hb3
  have d0 := hc3.cell 0 (v := .int .i64 K) rfl
  have d1 := hc3.cell 1 (v := .int .i64 f) rfl
  have d2 := hc3.cell 2 (v := .int .i64 T) rfl
  have d3 := hc3.cell 3 (v := .slice a body.length c) rfl
  have o3' : OwnB w.heap.size w3 v3 ([b8 K] ++ vput T) := o3.mono hbe3.size
  have l1 := vput_len10 T (by omega)
  clear HP o3 hb3
  by_cases hk : K = 3
  · subst hk
    obtain ⟨D, hD⟩ := Int.eq_ofNat_of_zero_le (by omega : 0 ≤ (T : Int) - f)
    have hDw : IntKind.i64.wrap ((T : Int) - f) = (D : Int) := by rw [← hD]; exact IntWalk.i64_in _ (by omega)
    have hD4 : D ≤ 400 := by omega
    have l2 := vput_len10 D (by omega)
    have HE : Hid (recB ((3 : Nat) : Int) f T body = [b8 3] ++ vput T ++ vput D ++ body) := by
      show _ = _
      unfold recB
      rw [if_pos (show ((3 : Nat) : Int) = 3 from rfl), hD]
      simp
    have HP2 := Lib.hid (vPut_any _ _ D w3 (by omega) (by simp; omega) o3'.row)
    have HC3 := Lib.hid hc3
    clear h3 hc3
    go_wp2_with fail
    refine HP2.out.mono ?_
    rintro e w4 ⟨v4, rfl, o4, hb4⟩
    have hbe5 := hbe4.trans (hb4.mono hbe4.size)
    have hc4 := HC3.out.stays hb4
    have d3 := hc4.cell 3 (v := .slice a body.length c) rfl
    have o4' := o4.mono hbe4.size
    have hrb := HRB.out _ hbe5
    clear HP2 o4 hb4 hc4
    go_wp2_with (at_builtin; go_must (refine wpList_appendB o4' hrb (by simp; omega) hbe5.size rfl _ _ rfl (by rfl) (by rfl) ?_))
    intro v6 w6 o6 g6 n6 _
    have hb6 := o4'.below hbe5 g6 hbe5.size
    clear g6 n6
    go_wp2_with fail
    go_ret2
    exact ⟨_, rfl, by rw [HE.out]; simpa using o6, hb6⟩
  · have n3 : ((K : Int) == 3) = false := by simp; omega
    have n3' : (K == 3) = false := by simp; omega
    have HE : Hid (recB K f T body = [b8 K] ++ vput T ++ body) := by
      show _ = _
      unfold recB
      rw [if_neg (by omega)]
      simp
    have hrb := HRB.out _ hbe4
    clear h3 hc3
    go_wp2_with (at_builtin; go_must (refine wpList_appendB o3' hrb (by simp; omega) hbe4.size rfl _ _ rfl (by rfl) (by rfl) ?_))
    intro v6 w6 o6 g6 n6 _
    have hb6 := o3'.below hbe4 g6 hbe4.size
    clear g6 n6
    go_wp2_with fail
    go_ret2
    exact ⟨_, rfl, by rw [HE.out]; simpa using o6, hb6⟩
theorem recBytes_any (he1 : ErrAt w 2 (ea 1)) (he12 : ErrAt w 1 (ea 12)) :
    Calls Tryd.prog 26 #[.agg #[.int .i64 k, .int .i64 f, .int .i64 t, vb]] w fun e w' => ∃ v', e = .returned (.tuple #[v', EV ea (recE k f t)]) ∧ OwnB w.heap.size w' v' (recBs k f t body) ∧ Below w.heap.size w w' := by
  unfold recBs recE
  by_cases hK : recK k = true
  · rw [if_pos hK]
    by_cases hR : recR k f t = true
    · rw [if_pos hR, if_pos rfl]
      exact recBytes_ok k f t vb body w hk1 hk2 hf1 hf2 ht1 ht2 hr hlen hR
    · rw [if_neg hR, if_neg (by decide)]
      exact (recBytes_range ea k f t vb body w hk1 hk2 hf1 hf2 ht1 ht2 hr he1 hK (by simpa using hR)).mono fun e w' h => ⟨_, h.1, OwnB.nil _ _, h.2⟩
  · rw [if_neg hK, if_neg (by decide)]
    exact (recBytes_kind ea k f t vb body w hr he12 (by simpa using hK)).mono fun e w' h => ⟨_, h.1, OwnB.nil _ _, h.2⟩
set_option maxRecDepth 100000 in
set_option maxHeartbeats 4000000 in
theorem recCost_any (he1 : ErrAt w 2 (ea 1)) (he12 : ErrAt w 1 (ea 12)) :
    Calls Tryd.prog 28 #[.agg #[.int .i64 k, .int .i64 f, .int .i64 t, vb]] w fun e w' => e = .returned (.int .i64 (recBs k f t body).length) ∧ Below w.heap.size w w' := by
  have HRB : Hid (∀ w', Below w.heap.size w w' → RowB w' vb body) := fun w' h => hr.stays h
  obtain ⟨a, c, rfl, -, -⟩ := RowL.shape (f := BV) hr
  have hb0 : Below w.heap.size w (w.alloc (.cells #[.int .i64 k, .int .i64 f, .int .i64 t, .slice a body.length c] 37)) := (Below.refl _ _).alloc (Nat.le_refl _) _
  have HBY := Lib.hid (recBytes_any ea k f t _ body _ hk1 hk2 hf1 hf2 ht1 ht2 (HRB.out _ hb0) hlen (he1.stays hb0) (he12.stays hb0))
  have HB := Lib.hid hb0
  clear hr hb0 he1 he12
  by_cases h0 : recE k f t = 0
  · rw [h0, EV_zero] at HBY
    go_enter Tryd.func28, Tryd.ntmps28
    go_wp2_with fail
    refine HBY.out.mono ?_
    rintro e w1 ⟨v', rfl, o1, hb1⟩
    obtain ⟨a1, c1, rfl, -, -⟩ := RowL.shape (f := BV) o1.row
    have hbe := HB.out.trans (hb1.mono HB.out.size)
    clear o1 hb1 HBY
    go_wp2_with fail
    go_ret
    exact ⟨rfl, hbe⟩
  · have HE : Hid (recBs k f t body = []) := if_neg h0
    rw [EV_pos _ h0, HE.out] at HBY
    go_enter Tryd.func28, Tryd.ntmps28
    go_wp2_with fail
    refine HBY.out.mono ?_
    rintro e w1 ⟨v', rfl, o1, hb1⟩
    have hbe := HB.out.trans (hb1.mono HB.out.size)
    clear o1 hb1 HBY h0
    go_wp2_with fail
    go_ret
    exact ⟨by rw [HE.out]; rfl, hbe⟩
end
end Go.Proofs.YtgehbabcpmkgaaaDoor
