/- Which bytes come first: bytes.Compare, bytes.Equal, octets.Compare, octets.Equal; the reference's Compare. -/
import Derived.Test.YtjincjgapjekeaaDoorStr
import Derived.Lib.BytesEntry
import Derived.BigQuiet
import Derived.Deep.QuietTactic
namespace Go.Proofs.YtjincjgapjekeaaDoor
open Go Go.RowKit
set_option linter.unusedVariables false
def cmpB : List UInt8 → List UInt8 → Int
  | [], [] => 0
  | [], _ :: _ => -1
  | _ :: _, [] => 1
  | x :: a, y :: b => if x < y then -1 else if y < x then 1 else cmpB a b
theorem cmpB_swap : ∀ a b, cmpB b a = -cmpB a b
  | [], [] => rfl
  | [], _ :: _ => rfl
  | _ :: _, [] => rfl
  | x :: a, y :: b => by
    unfold cmpB
    by_cases h1 : x < y
    · have h2 : ¬ y < x := fun h => absurd (UInt8.lt_trans h1 h) (UInt8.lt_irrefl _)
      rw [if_neg h2, if_pos h1, if_pos h1]; rfl
    · by_cases h2 : y < x
      · rw [if_pos h2, if_neg h1, if_pos h2]
      · rw [if_neg h2, if_neg h1, if_neg h1, if_neg h2]; exact cmpB_swap a b
theorem cmpB_eq : ∀ a b, cmpB a b = 0 ↔ a = b
  | [], [] => by simp [cmpB]
  | [], _ :: _ => by simp [cmpB]
  | _ :: _, [] => by simp [cmpB]
  | x :: a, y :: b => by
    unfold cmpB
    by_cases h1 : x < y
    · rw [if_pos h1]
      refine ⟨fun h => (by cases h), fun h => ?_⟩
      cases h; exact absurd h1 (UInt8.lt_irrefl _)
    · by_cases h2 : y < x
      · rw [if_neg h1, if_pos h2]
        refine ⟨fun h => (by cases h), fun h => ?_⟩
        cases h; exact absurd h2 (UInt8.lt_irrefl _)
      · rw [if_neg h1, if_neg h2, cmpB_eq a b]
        have : x = y := by
          rw [UInt8.lt_iff_toNat_lt] at h1 h2
          exact UInt8.toNat_inj.1 (by omega)
        subst this; simp
theorem cmpB_mem (a b : List UInt8) : cmpB a b = -1 ∨ cmpB a b = 0 ∨ cmpB a b = 1 := by
  induction a generalizing b with
  | nil => cases b <;> simp [cmpB]
  | cons x a ih =>
    cases b with
    | nil => simp [cmpB]
    | cons y b =>
      unfold cmpB
      split
      · simp
      · split
        · simp
        · exact ih b
theorem strB_bang (a : List UInt8) (i : Nat) : (strB a)[i]! = a.getD i default := by
  show (decidableGetElem? (strB a) i).getD default = _
  unfold decidableGetElem?
  by_cases h : i < (strB a).size
  · rw [dif_pos h]
    have h' : i < a.length := by rw [strB_size] at h; exact h
    rw [List.getD_eq_getElem?_getD, List.getElem?_eq_getElem h']
    rfl
  · rw [dif_neg h]
    have h' : ¬ i < a.length := by rw [strB_size] at h; exact h
    rw [List.getD_eq_getElem?_getD, List.getElem?_eq_none (by omega)]
theorem find_succ (n : Nat) (p : Nat → Bool) : (List.range (n + 1)).find? p = if p 0 then some 0 else ((List.range n).find? fun i => p (i + 1)).map (· + 1) := by
  rw [List.range_succ_eq_map, List.find?_cons]
  by_cases h : p 0 = true
  · rw [if_pos h, h]
  · rw [if_neg h]
    simp only [Bool.not_eq_true] at h
    rw [h, List.find?_map]
    rfl
theorem cmp_eq : ∀ a b, Extern.BytealgCompare.cmp (strB a) (strB b) = cmpB a b
  | [], [] => rfl
  | [], y :: b => by
    unfold Extern.BytealgCompare.cmp
    rw [strB_size, strB_size]; simp [cmpB]
  | x :: a, [] => by
    unfold Extern.BytealgCompare.cmp
    rw [strB_size, strB_size]; simp [cmpB]
  | x :: a, y :: b => by
    have ih := cmp_eq a b
    unfold Extern.BytealgCompare.cmp at ih ⊢
    rw [strB_size, strB_size] at ih ⊢
    simp only [strB_bang] at ih ⊢
    rw [show min (x :: a).length (y :: b).length = min a.length b.length + 1 from by simp, find_succ]
    simp only [List.getD_cons_zero, List.getD_cons_succ]
    unfold cmpB
    by_cases hxy : x = y
    · subst hxy
      rw [if_neg (by simp), if_neg (UInt8.lt_irrefl _), if_neg (UInt8.lt_irrefl _), ← ih]
      cases (List.range (min a.length b.length)).find? fun i => a.getD i default != b.getD i default with
      | none => simp
      | some i => simp
    · rw [if_pos (by simpa using hxy)]
      simp only [List.getD_cons_zero]
      by_cases h1 : x < y
      · rw [if_pos h1, if_pos h1]
      · rw [if_neg h1, if_neg h1, if_pos]
        rw [UInt8.lt_iff_toNat_lt] at h1 ⊢
        have : x.toNat ≠ y.toNat := fun h => hxy (UInt8.toNat_inj.1 h)
        omega
theorem bytesOf_row {w : World} {v : Value} {bs : List UInt8} (h : RowB w v bs) : (Extern.Bytes.bytesOf v).run Tryd.prog w = .ok (strB bs) w := by
  rcases h.open with ⟨rfl, a, c, rfl⟩ | ⟨b, o, c, rfl, _, _, _, hc⟩
  · cases a with
    | none => rfl
    | some ad => rfl
  · have hl := Lib.run_loadBytesX (P := Tryd.prog) w (bs.map fun x => (x.toNat : Int)) ⟨b, o, none⟩ .empty (fun j x hj => by
      have e : (⟨b, o, none⟩ : Addr).add j = ⟨b, o + j, none⟩ := by unfold Addr.add; split <;> simp_all
      obtain ⟨y, hy, rfl⟩ : ∃ y, bs[j]? = some y ∧ x = (y.toNat : Int) := by
        rw [List.getElem?_map] at hj
        cases hb : bs[j]? with
        | none => rw [hb] at hj; cases hj
        | some y => rw [hb] at hj; cases hj; exact ⟨y, rfl, rfl⟩
      rw [e, hc j y hy, BV_def])
    rw [List.length_map] at hl
    have e : (⟨ByteArray.empty.data ++ (Lib.bytesOf (bs.map fun x => (x.toNat : Int))).toArray⟩ : ByteArray) = strB bs := by
      apply ByteArray.ext
      have hm : Lib.bytesOf (bs.map fun x => (x.toNat : Int)) = bs := by
        unfold Lib.bytesOf
        rw [List.map_map]
        have e : ((fun n : Int => n.toNat.toUInt8) ∘ fun x : UInt8 => (x.toNat : Int)) = id := by
          funext x
          show UInt8.ofNat ((x.toNat : Int)).toNat = x
          rw [Int.toNat_natCast]
          exact UInt8.ofNat_toNat
        exact (congrArg (fun f => bs.map f) e).trans (List.map_id bs)
      rw [hm]
      show (#[] : Array UInt8) ++ bs.toArray = bs.toArray
      simp
    rw [e] at hl
    exact hl
theorem compare_run {w : World} {va vb : Value} {a b : List UInt8} (ha : RowB w va a) (hb : RowB w vb b) :
    (callFunc 50 #[va, vb]).run Tryd.prog w = .ok (.value (.int .i64 (cmpB a b))) w := by
  rw [run_callFunc_extern Tryd.func50 (by kernel_rfl) (by kernel_rfl) (by kernel_rfl) (e := Extern.BytealgCompare.compare) (by kernel_rfl)]
  have e : (Extern.BytealgCompare.compare #[va, vb]).run Tryd.prog w = .ok (.int .i64 (cmpB a b)) w := by
    change Sem.run Tryd.prog (do pure (goInt (Extern.BytealgCompare.cmp (← Extern.Bytes.bytesOf va) (← Extern.Bytes.bytesOf vb)))) w = _
    simp only [Sem.run_bind, bytesOf_row ha, bytesOf_row hb, Result.andThen, Sem.run_pure, cmp_eq]
    rfl
  rw [e]; rfl
theorem ocompare_any (va vb : Value) (a b : List UInt8) (w : World) (ha : RowB w va a) (hb : RowB w vb b) :
    Calls Tryd.prog 24 #[va, vb] w fun e w' => e = .returned (.int .i64 (cmpB a b)) ∧ w = w' := by
  have HR := compare_run ha hb
  have hB : Calls Tryd.prog 43 #[va, vb] w fun e w' => e = .returned (.int .i64 (cmpB a b)) ∧ w = w' := by
    clear ha hb
    go_enter Tryd.func43, Tryd.ntmps43
    go_wp2
    go_ret
    exact ⟨rfl, rfl⟩
  have HB := Lib.hid hB
  clear ha hb HR hB
  go_enter Tryd.func24, Tryd.ntmps24
  go_wp2_with fail
  refine HB.out.mono ?_
  rintro e w1 ⟨rfl, rfl⟩
  go_wp2_with fail
  go_ret
  exact ⟨rfl, rfl⟩
theorem strB_eqL (a b : List UInt8) : ((strB a).toList == (strB b).toList) = decide (a = b) := by
  rw [ByteArray.toList_eq, ByteArray.toList_eq]
  show (a == b) = _
  by_cases h : a = b
  · subst h; simp
  · rw [decide_eq_false h]; simpa using h
theorem oequal_any (va vb : Value) (a b : List UInt8) (w : World) (ha : RowB w va a) (hb : RowB w vb b) :
    Calls Tryd.prog 25 #[va, vb] w fun e w' => e = .returned (.bool (decide (a = b))) ∧ w = w' := by
  have sa := convert_str ha
  have sb := convert_str hb
  have hB : Calls Tryd.prog 44 #[va, vb] w fun e w' => e = .returned (.bool (decide (a = b))) ∧ w = w' := by
    clear ha hb
    go_enter Tryd.func44, Tryd.ntmps44
    go_wp2
    go_ret
    exact ⟨ret1 (congrArg Value.bool (strB_eqL a b)), rfl⟩
  have HB := Lib.hid hB
  clear ha hb sa sb hB
  go_enter Tryd.func25, Tryd.ntmps25
  go_wp2_with fail
  refine HB.out.mono ?_
  rintro e w1 ⟨rfl, rfl⟩
  go_wp2_with fail
  go_ret
  exact ⟨rfl, rfl⟩
theorem cmpB_drop {a b : List UInt8} {k : Nat} {x y : UInt8} (hx : a[k]? = some x) (hy : b[k]? = some y) : cmpB (a.drop k) (b.drop k) = if x < y then -1 else if y < x then 1 else cmpB (a.drop (k + 1)) (b.drop (k + 1)) := by
  obtain ⟨h1, rfl⟩ := List.getElem?_eq_some_iff.1 hx
  obtain ⟨h2, rfl⟩ := List.getElem?_eq_some_iff.1 hy
  rw [List.drop_eq_getElem_cons h1, List.drop_eq_getElem_cons h2]
  rfl
set_option maxRecDepth 100000 in
theorem rcompare_any (va vb : Value) (a b : List UInt8) (w : World) (ha : RowB w va a) (hb : RowB w vb b) (hla : a.length ≤ 1000000000) :
    Calls Tryd.prog 23 #[va, vb] w fun e w' => e = .returned (.int .i64 (cmpB a b)) ∧ Below w.heap.size w w' := by
  obtain ⟨aa, ac, rfl, _, hia⟩ := ha.gen.shape
  obtain ⟨ba, bc, rfl, _, hib⟩ := hb.gen.shape
  clear ha hb
  have HA := Lib.hid hia
  have HB := Lib.hid hib
  clear hia hib
  go_enter Tryd.func23, Tryd.ntmps23
  go_wp2_with fail
  go_loopw [5] (fun i wr => ∃ k : Nat, k ≤ a.length ∧ k ≤ b.length ∧ i = .int .i64 k ∧ Hid (cmpB (a.drop k) (b.drop k) = cmpB a b) ∧ Below w.heap.size w wr) (fun i _ => a.length - (intOf i).toNat)
  case atStart => exact ⟨0, Nat.zero_le _, Nat.zero_le _, rfl, rfl, Below.refl _ _⟩
  case round =>
    obtain ⟨k, hka, hkb, rfl, hrest, hbe⟩ := hrel
    by_cases h1 : k < a.length
    · by_cases h2 : k < b.length
      · obtain ⟨x, hx⟩ : ∃ x, a[k]? = some x := ⟨_, List.getElem?_eq_getElem h1⟩
        obtain ⟨y, hy⟩ : ∃ y, b[k]? = some y := ⟨_, List.getElem?_eq_getElem h2⟩
        obtain ⟨b1, o1, rfl, hcx⟩ := HA.out k x hx
        obtain ⟨b2, o2, rfl, hcy⟩ := HB.out k y hy
        have cx : wr.cell? ⟨b1, o1 + k, none⟩ = some (.int .u8 x.toNat) := (hbe.cell (p := ⟨b1, o1 + k, none⟩) (World.block_lt_of_cell? w _ hcx)).trans hcx
        have cy : wr.cell? ⟨b2, o2 + k, none⟩ = some (.int .u8 y.toNat) := (hbe.cell (p := ⟨b2, o2 + k, none⟩) (World.block_lt_of_cell? w _ hcy)).trans hcy
        have hst := cmpB_drop hx hy
        clear hcx hcy hx hy
        by_cases hlt : x < y
        · rw [if_pos hlt] at hst
          have HS := Lib.hid (hst.symm.trans hrest.out)
          clear hst
          rw [UInt8.lt_iff_toNat_lt] at hlt
          have t1 : (decide ((x.toNat : Int) < y.toNat)) = true := by simp; omega
          go_wp2_with fail
          go_region
          all_goals go_wp2_with fail
          all_goals go_ret
          all_goals exact ⟨ret1 (vint HS.out), hbe.drew⟩
        · rw [if_neg hlt] at hst
          rw [UInt8.lt_iff_toNat_lt] at hlt
          have t1 : (decide ((x.toNat : Int) < y.toNat)) = false := by simp; omega
          by_cases hgt : y < x
          · rw [if_pos hgt] at hst
            have HS := Lib.hid (hst.symm.trans hrest.out)
            clear hst
            rw [UInt8.lt_iff_toNat_lt] at hgt
            have t2 : (decide ((y.toNat : Int) < x.toNat)) = true := by simp; omega
            go_wp2_with fail
            go_region
            all_goals go_wp2_with fail
            all_goals go_region
            all_goals go_wp2_with fail
            all_goals go_ret
            all_goals exact ⟨ret1 (vint HS.out), hbe.drew.drew⟩
          · rw [if_neg hgt] at hst
            have HS := Lib.hid (hst.symm.trans hrest.out)
            clear hst
            rw [UInt8.lt_iff_toNat_lt] at hgt
            have t2 : (decide ((y.toNat : Int) < x.toNat)) = false := by simp; omega
            go_wp2_with fail
            go_region
            all_goals go_wp2_with fail
            all_goals go_region
            all_goals go_wp2_with fail
            all_goals go_roundw
            case rel => exact ⟨k + 1, by omega, by omega, by go_num, HS.out, hbe.drew.drew⟩
            case measure => simp [intOf]; omega
      · obtain rfl : k = b.length := by omega
        have hr := hrest.out
        rw [List.drop_length, List.drop_eq_getElem_cons h1] at hr
        have HR := Lib.hid hr
        clear hr hrest
        go_wp2_with fail
        go_ret
        exact ⟨ret1 (vint HR.out), hbe⟩
    · obtain rfl : k = a.length := by omega
      have hr := hrest.out
      rw [List.drop_length] at hr
      clear hrest
      by_cases h2 : a.length < b.length
      · rw [List.drop_eq_getElem_cons h2] at hr
        have HR := Lib.hid hr
        clear hr
        go_wp2_with fail
        go_ret
        exact ⟨ret1 (vint HR.out), hbe⟩
      · have h3 : b.length = a.length := by omega
        rw [← h3, List.drop_length] at hr
        have HR := Lib.hid hr
        clear hr
        go_wp2_with fail
        go_ret
        exact ⟨ret1 (vint HR.out), hbe⟩
end Go.Proofs.YtjincjgapjekeaaDoor
