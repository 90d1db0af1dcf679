/- The document's ways: which one is ahead. -/
import Derived.Test.YthabjnppmhlomaaDoorPnP
namespace Go.Proofs.YthabjnppmhlomaaDoor
open Go Go.RowKit
set_option linter.unusedVariables false
/-- a way, as told -/
structure Wy where
  th : Bool
  sum : Int
  path : List Int
abbrev WM := Wy × (Option Addr × Nat)
def wC (x : WM) : List Value := [.bool x.1.th, .int .i64 x.1.sum, .slice x.2.1 x.1.path.length x.2.2]
theorem wC_len (x : WM) : (wC x).length = 3 := rfl
theorem wC_one (x : WM) : (wC x).all Value.oneCell' = true := rfl
def wy0 : Wy := ⟨false, 0, []⟩
def wyOf : Option Tr → Wy
  | some t => ⟨true, t.sum, t.path⟩
  | none => wy0
def aheadV (a b : Wy) : Bool := if b.th then decide (orI (sgnI a.sum b.sum) (orI (sgnI a.path.length b.path.length) (cmpZ a.path b.path)) < 0) else a.th
section
variable {w : World}
theorem cmpZ_lt {xs ys : List Int} {k : Nat} {x y : Int} (hx : xs.drop k = x :: xs.drop (k + 1)) (hy : ys.drop k = y :: ys.drop (k + 1)) : cmpZ (xs.drop k) (ys.drop k) = orI (sgnI x y) (cmpZ (xs.drop (k + 1)) (ys.drop (k + 1))) := by rw [hx, hy, cmpZ]
theorem drop_at {xs : List Int} {k : Nat} {x : Int} (h : xs[k]? = some x) : xs.drop k = x :: xs.drop (k + 1) := by
  have h1 := (List.getElem?_eq_some_iff.1 h).1
  rw [List.drop_eq_getElem_cons h1]
  rw [List.getElem?_eq_getElem h1] at h
  rw [Option.some.inj h]
set_option maxRecDepth 100000 in
set_option maxHeartbeats 1000000 in
theorem ahead_any (a b : Wy) (aa ab : Option Addr) (ca cb : Nat) (ha : RowZ w (.slice aa a.path.length ca) a.path) (hb : RowZ w (.slice ab b.path.length cb) b.path) (hla : a.path.length ≤ 100000) (hlb : b.path.length ≤ 100000) :
    Calls Tryd.prog 28 #[.agg #[.bool a.th, .int .i64 a.sum, .slice aa a.path.length ca], .agg #[.bool b.th, .int .i64 b.sum, .slice ab b.path.length cb]] w fun e w' => e = .returned (.bool (aheadV a b)) ∧ Below w.heap.size w w' := by
  obtain ⟨at1, as1, ap1⟩ := a
  obtain ⟨bt1, bs1, bp1⟩ := b
  simp only at ha hb hla hlb ⊢
  obtain ⟨R, hR⟩ : ∃ R, R = aheadV ⟨at1, as1, ap1⟩ ⟨bt1, bs1, bp1⟩ := ⟨_, rfl⟩
  have HR : Hid (R = if bt1 then decide (orI (sgnI as1 bs1) (orI (sgnI ap1.length bp1.length) (cmpZ ap1 bp1)) < 0) else at1) := hR
  rw [← hR]
  clear hR
  obtain ⟨W1, hW1⟩ : ∃ W1, W1 = (w.alloc (.cells #[.bool at1, .int .i64 as1, .slice aa ap1.length ca] 36)).alloc (.cells #[.bool bt1, .int .i64 bs1, .slice ab bp1.length cb] 36) := ⟨_, rfl⟩
  obtain ⟨g, hg⟩ : ∃ g, g = w.heap.size := ⟨_, rfl⟩
  have hBA : Below w.heap.size w W1 := by rw [hW1]; exact ((Below.refl _ _).alloc (Nat.le_refl _) _).alloc (by simp) _
  have hcx : CellsAt W1 g 36 #[.bool at1, .int .i64 as1, .slice aa ap1.length ca] := by rw [hW1, hg]; exact CellsAt.allocC (CellsAt.new w _ _)
  have hcy : CellsAt W1 (g + 1) 36 #[.bool bt1, .int .i64 bs1, .slice ab bp1.length cb] := by rw [hW1, hg]; exact CellsAt.new' (by simp)
  have hia : ∀ k x, ap1[k]? = some x → ∃ gb ob, aa = some ⟨gb, ob, none⟩ ∧ W1.cell? ⟨gb, ob + k, none⟩ = some (.int .i64 x) := by
    obtain ⟨a', c', h1, _, h2⟩ := RowL.shape (f := IV) (xs := ap1) (Row.stays ha hBA)
    cases h1
    exact h2
  have hib : ∀ k x, bp1[k]? = some x → ∃ gb ob, ab = some ⟨gb, ob, none⟩ ∧ W1.cell? ⟨gb, ob + k, none⟩ = some (.int .i64 x) := by
    obtain ⟨a', c', h1, _, h2⟩ := RowL.shape (f := IV) (xs := bp1) (Row.stays hb hBA)
    cases h1
    exact h2
  have HIA := Lib.hid hia
  have HIB := Lib.hid hib
  have x0 := hcx.cell 0 rfl
  have x1 := hcx.cell 1 rfl
  have x2 := hcx.cell 2 rfl
  have y0 := hcy.cell 0 rfl
  have y1 := hcy.cell 1 rfl
  have y2 := hcy.cell 2 rfl
  have HBA := Lib.hid hBA
  have HW1 := Lib.hid hW1
  have HG := Lib.hid hg
  clear ha hb hBA hcx hcy hia hib hW1 hg
  go_enter Tryd.func28, Tryd.ntmps28
  go_upto_region 1 with fail
  rw [← HW1.out, ← HG.out]
  clear HW1 HG
  cases bt1 with
  | false =>
    have HZ : Hid (R = at1) := HR.out
    clear HR
    go_wp2_with fail
    go_ret
    exact ⟨congrArg (fun z => Ending.returned (Value.bool z)) HZ.out.symm, HBA.out⟩
  | true =>
    have HR2 : Hid (R = decide (orI (sgnI as1 bs1) (orI (sgnI ap1.length bp1.length) (cmpZ ap1 bp1)) < 0)) := HR.out
    clear HR
    by_cases h1 : as1 = bs1
    · have e1 : (as1 != bs1) = false := by simpa using h1
      have HR3 : Hid (R = decide (orI (sgnI ap1.length bp1.length) (cmpZ ap1 bp1) < 0)) := by
        show _ = _
        rw [HR2.out, sgnI_zero.2 h1]; rfl
      clear HR2 h1
      by_cases h2 : ap1.length = bp1.length
      · have e2 : ((ap1.length : Int) != bp1.length) = false := by simp; omega
        have e2' : (ap1.length != bp1.length) = false := by simpa using h2
        have HR4 : Hid (R = decide (cmpZ ap1 bp1 < 0)) := by
          show _ = _
          rw [HR3.out, sgnI_zero.2 (by omega)]; rfl
        have HL := Lib.hid h2
        clear HR3 h2
        go_wp2_with fail
        go_loopw [38] (fun i wr => ∃ k : Nat, k ≤ ap1.length ∧ i = .int .i64 k ∧ Hid (R = decide (cmpZ (ap1.drop k) (bp1.drop k) < 0)) ∧ ∃ q, wr = W1.drewN q) (fun i _ => ap1.length - (intOf i).toNat)
        case atStart => exact ⟨0, Nat.zero_le _, rfl, HR4.out, 0, rfl⟩
        case round =>
          obtain ⟨k, hk, rfl, HT, q, rfl⟩ := hrel
          by_cases h1 : k < ap1.length
          · have h2 : k < bp1.length := by have := HL.out; omega
            obtain ⟨x, hx⟩ : ∃ x, ap1[k]? = some x := ⟨_, List.getElem?_eq_getElem h1⟩
            obtain ⟨y, hy⟩ : ∃ y, bp1[k]? = some y := ⟨_, List.getElem?_eq_getElem h2⟩
            obtain ⟨ga, oa, rfl, d3⟩ := HIA.out k x hx
            obtain ⟨gb, ob, rfl, d4⟩ := HIB.out k y hy
            have hT := HT.out
            rw [cmpZ_lt (drop_at hx) (drop_at hy)] at hT
            clear hx hy HT HR4
            by_cases h3 : x = y
            · have e3 : (x != y) = false := by simpa using h3
              have HT2 : Hid (R = decide (cmpZ (ap1.drop (k + 1)) (bp1.drop (k + 1)) < 0)) := by show _ = _; rw [hT, sgnI_zero.2 h3]; rfl
              clear h3 hT
              go_wp2_with fail
              go_region
              all_goals go_wp2_with fail
              all_goals go_roundw
              case rel => exact ⟨k + 1, h1, by go_num, HT2, q + 1, rfl⟩
              case measure => simp only [intOf]; omega
            · have e3 : (x != y) = true := by simpa using h3
              have HT2 : Hid (R = decide (x < y)) := by
                show _ = _
                rw [hT]
                unfold orI sgnI
                by_cases h4 : x < y
                · simp [h4]
                · have h5 : y < x := by omega
                  simp [h4, h5]
              clear h3 hT
              go_wp2_with fail
              go_region
              all_goals go_wp2_with fail
              all_goals go_region
              all_goals go_wp2_with fail
              all_goals go_ret
              all_goals exact ⟨congrArg (fun z => Ending.returned (Value.bool z)) HT2.out.symm, below_drewQ (n := q + 2) HBA.out⟩
          · obtain rfl : k = ap1.length := by omega
            have HT2 : Hid (R = false) := by
              show _ = _
              rw [HT.out, List.drop_of_length_le (Nat.le_refl _), List.drop_of_length_le (by have := HL.out; omega)]; rfl
            clear HT
            go_wp2_with fail
            go_ret
            exact ⟨congrArg (fun z => Ending.returned (Value.bool z)) HT2.out.symm, below_drewQ HBA.out⟩
      · have e2 : ((ap1.length : Int) != bp1.length) = true := by simp; omega
        have e2' : (ap1.length != bp1.length) = true := by simpa using h2
        have HR4 : Hid (R = decide ((ap1.length : Int) < bp1.length)) := by
          show _ = _
          rw [HR3.out]
          unfold orI sgnI
          by_cases h4 : (ap1.length : Int) < bp1.length
          · simp only [if_pos h4]; simp; omega
          · have h5 : (bp1.length : Int) < ap1.length := by omega
            simp only [if_neg h4, if_pos h5]; simp; omega
        clear HR3 h2
        go_wp2_with fail
        go_ret
        exact ⟨congrArg (fun z => Ending.returned (Value.bool z)) (by rw [HR4.out]; simp), HBA.out⟩
    · have e1 : (as1 != bs1) = true := by simpa using h1
      have HR3 : Hid (R = decide (as1 < bs1)) := by
        show _ = _
        rw [HR2.out]
        unfold orI sgnI
        by_cases h4 : as1 < bs1
        · simp [h4]
        · have h5 : bs1 < as1 := by omega
          simp [h4, h5]
      clear HR2 h1
      go_wp2_with fail
      go_ret
      exact ⟨congrArg (fun z => Ending.returned (Value.bool z)) HR3.out.symm, HBA.out⟩
end
end Go.Proofs.YthabjnppmhlomaaDoor
