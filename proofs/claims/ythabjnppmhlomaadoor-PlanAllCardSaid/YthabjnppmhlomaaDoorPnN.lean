/- The law's walk along a way. -/
import Derived.Test.YthabjnppmhlomaaDoorPnM
namespace Go.Proofs.YthabjnppmhlomaaDoor
open Go Go.RowKit
set_option linter.unusedVariables false
def walkV (L : List Eg) : Tr → List Int → Option Tr
  | t, [] => some t
  | t, i :: r => if 0 ≤ i then match L[i.toNat]? with
    | some e => if e.src = t.to then walkV L (extT t e i) r else none
    | none => none
    else none
theorem walkV_yes {L : List Eg} {t : Tr} {i : Int} {r : List Int} {e : Eg} (h0 : 0 ≤ i) (he : L[i.toNat]? = some e) (hs : e.src = t.to) : walkV L t (i :: r) = walkV L (extT t e i) r := by
  rw [walkV, if_pos h0, he]; simp only; rw [if_pos hs]
theorem walkV_neg {L : List Eg} {t : Tr} {i : Int} {r : List Int} (h0 : i < 0) : walkV L t (i :: r) = none := by
  rw [walkV, if_neg (by omega)]
theorem walkV_long {L : List Eg} {t : Tr} {i : Int} {r : List Int} (h0 : 0 ≤ i) (h : (L.length : Int) ≤ i) : walkV L t (i :: r) = none := by
  rw [walkV, if_pos h0, List.getElem?_eq_none (by omega)]
theorem walkV_off {L : List Eg} {t : Tr} {i : Int} {r : List Int} {e : Eg} (h0 : 0 ≤ i) (he : L[i.toNat]? = some e) (hs : e.src ≠ t.to) : walkV L t (i :: r) = none := by
  rw [walkV, if_pos h0, he]; simp only; rw [if_neg hs]
theorem walkV_T {L : List Eg} : ∀ (xs : List Int) (t u : Tr), IsT L t → walkV L t xs = some u → IsT L u ∧ u.path = t.path ++ xs
  | [], t, u, ht, h => by
    rw [walkV] at h
    cases h
    exact ⟨ht, by simp⟩
  | i :: r, t, u, ht, h => by
    rw [walkV] at h
    split at h
    · rename_i h0
      split at h
      · rename_i e he
        split at h
        · rename_i hs
          have hx : extT t e i = extT t e ((i.toNat : Nat) : Int) := by rw [show ((i.toNat : Nat) : Int) = i by omega]
          rw [hx] at h
          obtain ⟨h1, h2⟩ := walkV_T r _ u (.ext t i.toNat e ht he hs) h
          refine ⟨h1, ?_⟩
          rw [h2]
          simp only [extT, List.append_assoc, List.singleton_append]
          rw [show ((i.toNat : Nat) : Int) = i by omega]
        · cases h
      · cases h
    · cases h
theorem walkV_app {L : List Eg} : ∀ (xs ys : List Int) (t u : Tr), walkV L t xs = some u → walkV L t (xs ++ ys) = walkV L u ys
  | [], ys, t, u, h => by rw [walkV] at h; cases h; rfl
  | i :: r, ys, t, u, h => by
    rw [List.cons_append]
    by_cases h0 : i < 0
    · rw [walkV_neg h0] at h; cases h
    · by_cases h1 : (L.length : Int) ≤ i
      · rw [walkV_long (by omega) h1] at h; cases h
      · obtain ⟨e, he⟩ : ∃ e, L[i.toNat]? = some e := ⟨_, List.getElem?_eq_getElem (by omega)⟩
        by_cases hs : e.src = t.to
        · rw [walkV_yes (by omega) he hs] at h ⊢
          exact walkV_app r ys _ u h
        · rw [walkV_off (by omega) he hs] at h; cases h
theorem ret2V {S a : Int} {B b : Bool} (h1 : S = a) (h2 : B = b) : Ending.returned (.tuple #[.int .i64 a, .bool b]) = Ending.returned (.tuple #[.int .i64 S, .bool B]) := by rw [h1, h2]
theorem walkV_of {L : List Eg} {t : Tr} (h : IsT L t) : walkV L trip0 t.path = some t := by
  induction h with
  | start => rfl
  | ext t i e ht hi hs ih =>
    show walkV L trip0 (t.path ++ [(i : Int)]) = _
    rw [walkV_app _ _ _ _ ih, walkV_yes (e := e) (by omega) (by simpa using hi) hs, walkV]
/-- the sum, and whether it leads there -/
def walkS (L : List Eg) (xs : List Int) : Int := match walkV L trip0 xs with
  | some t => t.sum
  | none => 0
def walkB (L : List Eg) (xs : List Int) (tgt : Int) : Bool := match walkV L trip0 xs with
  | some t => decide (0 < xs.length) && (t.to == tgt)
  | none => false
theorem walkS_some {L : List Eg} {xs : List Int} {t : Tr} (h : walkV L trip0 xs = some t) : walkS L xs = t.sum := by unfold walkS; rw [h]
theorem walkB_some {L : List Eg} {xs : List Int} {t : Tr} {tgt : Int} (h : walkV L trip0 xs = some t) : walkB L xs tgt = (decide (0 < xs.length) && (t.to == tgt)) := by unfold walkB; rw [h]
theorem walkS_none {L : List Eg} {xs : List Int} (h : walkV L trip0 xs = none) : walkS L xs = 0 := by unfold walkS; rw [h]
theorem walkB_none {L : List Eg} {xs : List Int} {tgt : Int} (h : walkV L trip0 xs = none) : walkB L xs tgt = false := by unfold walkB; rw [h]
section
variable {w : World} {L : List Eg} {la xa : Option Addr} {lc xc : Nat}
set_option maxRecDepth 100000 in
set_option maxHeartbeats 1000000 in
theorem walk_any (hL : RightE L) (hlen : L.length ≤ 3000) (hr : RowS eC w (.slice la L.length lc) L) (xs : List Int) (hx : RowZ w (.slice xa xs.length xc) xs) (hxb : ∀ x ∈ xs, i64 x) (hxl : xs.length ≤ 100000) (tgt : Int) :
    Calls Tryd.prog 9 #[.slice la L.length lc, .slice xa xs.length xc, .int .i64 tgt] w fun e w' => e = .returned (.tuple #[.int .i64 (walkS L xs), .bool (walkB L xs tgt)]) ∧ w = w' := by
  obtain ⟨xa', xc', hq, -, hcell⟩ := hx.gen.shape
  obtain ⟨rfl, -, rfl⟩ := Value.slice.inj hq
  have HX := Lib.hid hcell
  have HXB := Lib.hid hxb
  have HR := Lib.hid hr
  obtain ⟨S, hS⟩ : ∃ S, S = walkS L xs := ⟨_, rfl⟩
  obtain ⟨Bo, hB⟩ : ∃ B, B = walkB L xs tgt := ⟨_, rfl⟩
  rw [← hS, ← hB]
  have HS := Lib.hid hS
  have HB := Lib.hid hB
  clear hr hx hcell hxb hq hS hB
  go_enter Tryd.func9, Tryd.ntmps9
  go_wp2_with fail
  go_loop [8, 9, 14] (fun a s i => ∃ (k : Nat) (t : Tr), k ≤ xs.length ∧ a = .int .i64 t.to ∧ s = .int .i64 t.sum ∧ i = .int .i64 k ∧ Hid (IsT L t) ∧ Hid (walkV L trip0 xs = walkV L t (xs.drop k))) (fun _ _ i => xs.length - (intOf i).toNat)
  case atStart => exact ⟨0, trip0, Nat.zero_le _, rfl, rfl, rfl, .start, rfl⟩
  case round =>
    obtain ⟨k, t, hk, rfl, rfl, rfl, HT, HW⟩ := hrel
    have hbd := HT.out.bd hL
    have hb1 : -1 ≤ t.to := hbd.1
    have hb2 : t.to < 400 := hbd.2.1
    have hb3 : 0 ≤ t.sum := hbd.2.2.2.1
    have hb4 : t.sum ≤ 420478976 := by have h1 := hbd.2.2.2.2.1; have h2 := hbd.2.2.1; omega
    clear hbd
    by_cases h1 : k < xs.length
    · obtain ⟨x, hxk⟩ : ∃ x, xs[k]? = some x := ⟨_, List.getElem?_eq_getElem h1⟩
      have hdr : xs.drop k = x :: xs.drop (k + 1) := by
        rw [List.drop_eq_getElem_cons h1]
        rw [List.getElem?_eq_getElem h1] at hxk
        rw [Option.some.inj hxk]
      obtain ⟨gb, ob, rfl, e0⟩ := HX.out k x hxk
      have d3 : w.cell? ⟨gb, ob + k, none⟩ = some (.int .i64 x) := e0
      have hxr := HXB.out x (List.mem_of_getElem? hxk)
      have hx1 : -9223372036854775808 ≤ x := hxr.1
      have hx2 : x ≤ 9223372036854775807 := hxr.2
      have hW := HW.out
      rw [hdr] at hW
      clear hdr hxk e0 hxr
      by_cases h2 : x < 0
      · rw [walkV_neg h2] at hW
        have HZ : Hid (S = 0 ∧ Bo = false) := ⟨by rw [HS.out, walkS_none hW], by rw [HB.out, walkB_none hW]⟩
        clear hW HW
        go_wp2_with fail
        go_ret2
        exact ⟨ret2V HZ.out.1 HZ.out.2, rfl⟩
      · by_cases h3 : (L.length : Int) ≤ x
        · rw [walkV_long (by omega) h3] at hW
          have HZ : Hid (S = 0 ∧ Bo = false) := ⟨by rw [HS.out, walkS_none hW], by rw [HB.out, walkB_none hW]⟩
          clear hW HW
          go_wp2_with fail
          go_ret2
          exact ⟨ret2V HZ.out.1 HZ.out.2, rfl⟩
        · obtain ⟨n, rfl⟩ : ∃ n : Nat, x = n := ⟨x.toNat, by omega⟩
          have hnl : n < L.length := by omega
          obtain ⟨e, he⟩ : ∃ e, L[n]? = some e := ⟨_, List.getElem?_eq_getElem hnl⟩
          obtain ⟨lb, lo, rfl, -, c0, c1, c2⟩ := edgeAt HR.out he
          have hbe := hL.at he
          have he' : L[((n : Nat) : Int).toNat]? = some e := by simpa using he
          by_cases h4 : e.src = t.to
          · rw [walkV_yes (by omega) he' h4] at hW
            have HW2 := Lib.hid hW
            have HT2 : Hid (IsT L (extT t e (n : Int))) := .ext t n e HT.out he h4
            have t4 : (e.src != t.to) = false := by simpa using h4
            have hex : extT t e (n : Int) = ⟨e.dst, t.sum + e.cost, t.path ++ [(n : Int)]⟩ := rfl
            have hd1 : -1 ≤ e.dst ∧ e.dst < 400 := by omega
            have hd2 : 0 ≤ e.cost ∧ e.cost ≤ 1048576 := by omega
            have HEX := Lib.hid hex
            clear hW HW he he' h4 hbe hex HS HB
            go_wp2_with fail
            go_round
            case rel => exact ⟨k + 1, extT t e (n : Int), h1, rfl, rfl, by go_num, HT2, HW2⟩
            case measure => simp only [intOf]; omega
          · rw [walkV_off (by omega) he' h4] at hW
            have HZ : Hid (S = 0 ∧ Bo = false) := ⟨by rw [HS.out, walkS_none hW], by rw [HB.out, walkB_none hW]⟩
            have t4 : (e.src != t.to) = true := by simpa using h4
            clear hW HW he he' h4 hbe
            go_wp2_with fail
            go_ret2
            exact ⟨ret2V HZ.out.1 HZ.out.2, rfl⟩
    · have hW := HW.out
      rw [List.drop_of_length_le (by omega), walkV] at hW
      have HZ : Hid (S = t.sum ∧ Bo = (decide (0 < xs.length) && (t.to == tgt))) := ⟨by rw [HS.out, walkS_some hW], by rw [HB.out, walkB_some hW]⟩
      clear hW HW
      by_cases h0 : 0 < xs.length
      · have HZ2 : Hid (Bo = (t.to == tgt)) := by show _ = _; rw [HZ.out.2, decide_eq_true h0, Bool.true_and]
        go_wp2_with fail
        go_ret2
        exact ⟨ret2V HZ.out.1 HZ2.out, rfl⟩
      · have HZ2 : Hid (Bo = false) := by show _ = _; rw [HZ.out.2, decide_eq_false h0, Bool.false_and]
        go_wp2_with fail
        go_ret2
        exact ⟨ret2V HZ.out.1 HZ2.out, rfl⟩
end
end Go.Proofs.YthabjnppmhlomaaDoor
