/- The walk of PlanWays: the cheapest way is the document's. -/
import Derived.Test.YthabjnppmhlomaaDoorPnS
import Derived.Test.YthabjnppmhlomaaDoorErrs
namespace Go.Proofs.YthabjnppmhlomaaDoor
open Go Go.RowKit
set_option linter.unusedVariables false
/-- what is answered of edges: the path, the sum, the error's number -/
def WayA (L : List Eg) (tgt : Int) (xs : List Int) (s : Int) (K : Nat) : Prop :=
  (rightL L = false ∧ xs = [] ∧ s = 0 ∧ K = 9) ∨ (rightL L = true ∧ ∃ B, Least L B ∧ ((∃ t, B tgt = some t ∧ xs = t.path ∧ s = t.sum ∧ K = 0) ∨ (B tgt = none ∧ xs = [] ∧ s = 0 ∧ K = 14)))
theorem WayA.uniq {L : List Eg} {tgt s s' : Int} {xs xs' : List Int} {K K' : Nat} (h : WayA L tgt xs s K) (h' : WayA L tgt xs' s' K') : xs' = xs ∧ s' = s ∧ K' = K := by
  rcases h with ⟨h1, rfl, rfl, rfl⟩ | ⟨h1, B, hB, h⟩
  · rcases h' with ⟨_, rfl, rfl, rfl⟩ | ⟨h2, _⟩
    · exact ⟨rfl, rfl, rfl⟩
    · rw [h1] at h2; cases h2
  · rcases h' with ⟨h2, _⟩ | ⟨_, C, hC, h'⟩
    · rw [h1] at h2; cases h2
    · have hu := hB.unique hC tgt
      rcases h with ⟨t, h2, rfl, rfl, rfl⟩ | ⟨h2, rfl, rfl, rfl⟩
      · rcases h' with ⟨t', h3, rfl, rfl, rfl⟩ | ⟨h3, _⟩
        · rw [h2, h3] at hu
          cases hu
          exact ⟨rfl, rfl, rfl⟩
        · rw [h2, h3] at hu; cases hu
      · rcases h' with ⟨t', h3, _⟩ | ⟨h3, rfl, rfl, rfl⟩
        · rw [h2, h3] at hu; cases hu
        · exact ⟨rfl, rfl, rfl⟩
theorem WayA.bd {L : List Eg} {tgt s : Int} {xs : List Int} {K : Nat} (h : WayA L tgt xs s K) : xs.length ≤ 401 ∧ K ≤ 19 := by
  rcases h with ⟨h1, rfl, rfl, rfl⟩ | ⟨h1, B, hB, h⟩
  · exact ⟨by decide, by decide⟩
  · rcases h with ⟨t, h2, rfl, rfl, rfl⟩ | ⟨h2, rfl, rfl, rfl⟩
    · have := (((hB tgt).1 t h2).1.bd ((rightL_iff L).1 h1))
      exact ⟨by omega, by decide⟩
    · exact ⟨by decide, by decide⟩
set_option maxRecDepth 100000 in
set_option maxHeartbeats 2000000 in
theorem walkPlanWays (w : World) (vl : Value) (L : List Eg) (hr : RowS eC w vl L) (hgood : ∀ e ∈ L, eG e) (tgt : Int) (bd : -9223372036854775808 ≤ tgt ∧ tgt ≤ 9223372036854775807) (ea : Nat → Addr) (he : ErrsAll ea w) :
    Calls Tryd.prog 4 #[vl, .int .i64 tgt] w fun e w' => e = .returned (.bool true) ∧ Below w.heap.size w w' := by
  clear hgood
  have HA := Lib.hid (alive35 w ea he.e14)
  obtain ⟨la, lc, rfl, hml, -⟩ := hr.shape eC_len
  unfold maxLen at hml
  have HR : Hid (∀ W, Below w.heap.size w W → RowS eC W (.slice la L.length lc) L) := fun W hb => hr.stays hb
  have HE : Hid (∀ W, Below w.heap.size w W → ErrsAll ea W) := fun W hb => he.stays hb
  have HBD := Lib.hid bd
  clear hr he bd
  go_enter Tryd.func4, Tryd.ntmps4
  go_wp2_with fail
  refine HA.out.mono ?_
  rintro e w1 ⟨rfl, hb1⟩
  clear HA
  by_cases hl : 60 < L.length
  · go_wp2_with fail
    go_ret
    exact ⟨rfl, hb1⟩
  · have hl3 : L.length ≤ 3000 := by omega
    have HL3 := Lib.hid hl3
    have HOF := Lib.hid (ofE_any (HR.out w1 hb1) hl3)
    clear hl3
    go_wp2_with fail
    refine HOF.out.mono ?_
    rintro e w2 ⟨v2, rfl, ho2, hb2⟩
    obtain ⟨oa, oc, rfl, -, -⟩ := ho2.row.shape eC_len
    have hb12 := hb1.trans (hb2.mono hb1.size)
    have HO2 : Hid (∀ W, Below w2.heap.size w2 W → RowS eC W (.slice oa L.length oc) L) := fun W hb => ho2.row.stays hb
    have HWY : Hid (Calls Tryd.prog 8 #[.slice la L.length lc, .int .i64 tgt] w2 fun e w' => ∃ (v : Value) (xs : List Int) (s : Int) (K : Nat), e = .returned (.tuple #[v, .int .i64 s, EV ea K]) ∧ RowZ w' v xs ∧ Below w2.heap.size w2 w' ∧ WayA L tgt xs s K) := by
      show Calls _ _ _ _ _
      cases hR : rightL L with
      | false => exact (way_bad hR HL3.out (HR.out w2 hb12) tgt ea (HE.out w2 hb12).e9).mono fun _ _ ⟨h1, h2⟩ => ⟨_, [], 0, 9, h1, RowL.nil _, h2, .inl ⟨hR, rfl, rfl, rfl⟩⟩
      | true => exact (way_ok hR HL3.out (HR.out w2 hb12) tgt HBD.out ea (HE.out w2 hb12).e14).mono fun _ _ ⟨B, v, xs, s, K, h1, h2, h3, h4, h5⟩ => ⟨v, xs, s, K, h1, h3, h4, .inr ⟨hR, B, h2, h5⟩⟩
    clear HOF hb1 hb2 ho2
    go_wp2_with fail
    refine HWY.out.mono ?_
    rintro e w3 ⟨v3, xs, s, K, rfl, hr3, hb3, hA⟩
    obtain ⟨av, cv, rfl, -, -⟩ := hr3.gen.shape
    have hb13 := hb12.trans (hb3.mono hb12.size)
    have hex : rightL L = true → ∃ C, Least L C := fun h => by
      rcases hA with ⟨h1, _⟩ | ⟨_, B, hB, _⟩
      · rw [h] at h1; cases h1
      · exact ⟨B, hB⟩
    have HF : Hid (Calls Tryd.prog 11 #[.slice oa L.length oc, .int .i64 tgt] w3 fun e w' => ∃ (t : Bool) (a : Option Addr) (c : Nat), e = .returned (.tuple #[.agg #[.bool t, .int .i64 s, .slice a xs.length c], .int .i64 K]) ∧ RowZ w' (.slice a xs.length c) xs ∧ Below w3.heap.size w3 w') :=
      (rfind_any HL3.out (HO2.out w3 hb3) tgt HBD.out hex).mono fun _ _ ⟨⟨⟨xt, xs', xp⟩, xa, xc⟩, k, h1, h2, h3, h4, h5⟩ => by
        have hW : ∃ K' : Nat, k = (K' : Int) ∧ WayA L tgt xp xs' K' := by
          cases hR : rightL L with
          | false =>
            obtain ⟨e1, rfl⟩ := h4 hR
            cases e1
            exact ⟨9, rfl, .inl ⟨hR, rfl, rfl, rfl⟩⟩
          | true =>
            obtain ⟨C, hC, h6⟩ := h5 hR
            rcases h6 with ⟨t, h7, h8, rfl⟩ | ⟨h7, h8, rfl⟩
            · cases h8
              exact ⟨0, rfl, .inr ⟨hR, C, hC, .inl ⟨t, h7, rfl, rfl, rfl⟩⟩⟩
            · cases h8
              exact ⟨14, rfl, .inr ⟨hR, C, hC, .inr ⟨h7, rfl, rfl, rfl⟩⟩⟩
        obtain ⟨K', rfl, hW'⟩ := hW
        obtain ⟨rfl, rfl, rfl⟩ := hA.uniq hW'
        exact ⟨xt, xa, xc, h1, h2, h3⟩
    obtain ⟨hxl, hK⟩ := hA.bd
    have HXL := Lib.hid hxl
    have HK := Lib.hid hK
    have HR3 := Lib.hid hr3
    have HB3 := Lib.hid hb3
    clear hA hex hxl hK hr3 hb3 hb12 HWY
    go_wp2_with fail
    refine HF.out.mono ?_
    rintro e w4 ⟨t, a4, c4, rfl, hr4, hb4⟩
    have hb14 := hb13.trans (hb4.mono hb13.size)
    obtain ⟨W5, hW5⟩ : ∃ W5, W5 = w4.alloc (.cells #[.bool t, .int .i64 s, .slice a4 xs.length c4] 36) := ⟨_, rfl⟩
    obtain ⟨g5, hg5⟩ : ∃ g5, g5 = w4.heap.size := ⟨_, rfl⟩
    have hb45 : Below w4.heap.size w4 W5 := by rw [hW5]; exact (Below.refl _ _).alloc (Nat.le_refl _) _
    have hc5 : CellsAt W5 g5 36 #[.bool t, .int .i64 s, .slice a4 xs.length c4] := by rw [hW5, hg5]; exact CellsAt.new w4 _ _
    have hb35 : Below w3.heap.size w3 W5 := hb4.trans (hb45.mono hb4.size)
    have hb15 : Below w.heap.size w W5 := hb14.trans (hb45.mono hb14.size)
    have hb25 : Below w2.heap.size w2 W5 := HB3.out.trans (hb35.mono HB3.out.size)
    have HS : Hid (∀ W, Below W5.heap.size W5 W → W.cell? ⟨g5, 1, none⟩ = some (.int .i64 s) ∧ W.cell? ⟨g5, 2, none⟩ = some (.slice a4 xs.length c4)) := fun W hW => ⟨(hc5.stays hW).cell 1 rfl, (hc5.stays hW).cell 2 rfl⟩
    obtain ⟨R, hR⟩ : ∃ R, R = rightL L := ⟨_, rfl⟩
    have HC1 : Hid (∀ W, Below W5.heap.size W5 W → Calls Tryd.prog 7 #[.slice la L.length lc] W fun e w' => e = .returned (.bool R) ∧ Below W.heap.size W w') := fun W hW => by rw [hR]; exact right_any (HR.out W (hb15.trans (hW.mono hb15.size))) HL3.out
    have HC2 : Hid (∀ W, Below W5.heap.size W5 W → Calls Tryd.prog 12 #[.slice oa L.length oc] W fun e w' => e = .returned (.bool R) ∧ Below W.heap.size W w') := fun W hW => by rw [hR]; exact rright_any (HO2.out W (hb25.trans (hW.mono hb25.size))) HL3.out
    have HC3 : Hid (∀ W, Below W5.heap.size W5 W → Calls Tryd.prog 13 #[.slice av xs.length cv, .slice a4 xs.length c4] W fun e w' => e = .returned (.bool true) ∧ Below W.heap.size W w') := fun W hW => by
      have h := sameZ_any _ _ xs xs W (Row.stays HR3.out (hb35.trans (hW.mono hb35.size))) (Row.stays hr4 (hb45.trans (hW.mono hb45.size))) (by have := HXL.out; omega) (by have := HXL.out; omega)
      rwa [eqB_yes rfl] at h
    have HC4 : Hid (∀ W, Below W5.heap.size W5 W → Calls Tryd.prog 14 #[EV ea K] W fun e w' => e = .returned (.int .i64 K) ∧ Below W.heap.size W w') := fun W hW => num_any ea K HK.out W (HE.out W (hb15.trans (hW.mono hb15.size)))
    have HB15 := Lib.hid hb15
    have HW5 := Lib.hid hW5
    have HG5 := Lib.hid hg5
    have hd0 : Below W5.heap.size W5 W5 := Below.refl _ _
    clear hr4 hb4 hb14 hb45 hc5 hb35 hb15 hb25 hR hW5 hg5 HF hb13
    go_upto_region 8 with fail
    rw [← HW5.out, ← HG5.out]
    go_wp2_with fail
    refine (HC1.out _ hd0).mono ?_
    rintro e w6 ⟨rfl, hb6⟩
    clear HC1
    go_wp2_with fail
    refine (HC2.out _ hb6).mono ?_
    rintro e w7 ⟨rfl, hb7⟩
    have hb57 := hb6.trans (hb7.mono hb6.size)
    obtain ⟨d1, d2⟩ := HS.out _ hb57
    clear HC2 hb6 hb7
    go_wp2_with fail
    refine (HC3.out _ hb57).mono ?_
    rintro e w8 ⟨rfl, hb8⟩
    have hb58 := hb57.trans (hb8.mono hb57.size)
    obtain ⟨e1, e2⟩ := HS.out _ hb58
    clear HC3 hb57 hb8 d1 d2
    go_wp2_with fail
    refine (HC4.out _ hb58).mono ?_
    rintro e w9 ⟨rfl, hb9⟩
    have hb59 := hb58.trans (hb9.mono hb58.size)
    have HB6 := Lib.hid hb59
    clear HC4 hb58 hb9 e1 e2 HS hb59
    go_wp2_with fail
    go_ret
    exact ⟨by simp, HB15.out.trans (HB6.out.mono HB15.out.size)⟩
end Go.Proofs.YthabjnppmhlomaaDoor
