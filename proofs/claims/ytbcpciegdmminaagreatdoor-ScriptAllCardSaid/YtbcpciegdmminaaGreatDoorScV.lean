/- Scripts: all words behind an act's first one; an act's line. -/
import Derived.Test.YtbcpciegdmminaaGreatDoorScU
import Derived.Deep.RegionHeld3
namespace Go.Proofs.YtbcpciegdmminaaGreatDoor
open Go Go.RowKit
set_option linter.unusedVariables false
theorem lit_own (W : World) {B : Nat} (hB : B ≤ W.heap.size) (xs : List Bs) (us : Array Value) (hu : us.toList = xs.map SV) (hn : xs.length ≤ 1000) : OwnL 9 SV B (W.alloc (.cells us 9)) (.slice (some ⟨W.heap.size, 0, none⟩) xs.length xs.length) xs := by
  have h1 : us.size = xs.length := by rw [← Array.length_toList, hu, List.length_map]
  have hown := World.ownsRow_lit (base := B) (e := 9) (size := 1) W us xs.length hB (by unfold maxLen; omega) (by omega)
  rw [hu] at hown
  exact hown
/-- what a right act's numbers are -/
theorem right_parts {k a b c n : Int} {bs : Bs} {keep : List Int} {torn : List (Int × Bs)} (h : rightA ⟨k, a, b, c, n, bs, keep, torn⟩ = true) : (1 ≤ k ∧ k ≤ 11) ∧ numb k a b c n = true ∧ bs.length ≤ 4096 ∧ keep.length ≤ 200 ∧ torn.length ≤ 200 ∧ keep.all inN = true ∧ torn.all tornOk = true := by
  unfold rightA at h
  simp only [Bool.and_eq_true, decide_eq_true_eq] at h
  obtain ⟨⟨⟨⟨⟨⟨h1, h2⟩, h3⟩, h4⟩, h5⟩, h6⟩, h7⟩ := h
  exact ⟨h1, h2, h5.1, h5.2.1, h5.2.2, h6, h7⟩
abbrev RestPost (w : World) (R : List Bs) : Ending → World → Prop := fun e w' => ∃ v, e = .returned v ∧ OwnL 9 SV w.heap.size w' v R ∧ Below w.heap.size w w'
set_option maxRecDepth 100000 in
set_option maxHeartbeats 2000000 in
theorem rest_a {w : World} {k a b c n : Int} {vb vk vt : Value} {bs : Bs} {keep : List Int} {torn : List (Int × Bs)} (hp : PowAt w) (hA : ActI w vb vk vt bs keep torn) (hk : k = 3 ∨ k = 6 ∨ k = 11) (ha : inN a = true) : Calls Tryz.prog 31 #[.agg (acCells k a b c n vb vk vt)] w (RestPost w [decI a]) := by
  obtain ⟨W0, hW0⟩ : ∃ W0, W0 = w.alloc (.cells (acCells k a b c n vb vk vt) 26) := ⟨_, rfl⟩
  obtain ⟨g, hg⟩ : ∃ g, g = w.heap.size := ⟨_, rfl⟩
  have hb : Below w.heap.size w W0 := by rw [hW0]; exact (Below.refl _ _).alloc (Nat.le_refl _) _
  have hc : CellsAt W0 g 26 (acCells k a b c n vb vk vt) := by rw [hW0, hg]; exact CellsAt.new w _ _
  have c0 := hc.cell 0 (v := .int .i64 k) rfl
  have HC : Hid (∀ W, Below W0.heap.size W0 W → CellsAt W g 26 (acCells k a b c n vb vk vt)) := fun W h => hc.stays h
  have HP : Hid (∀ W, Below W0.heap.size W0 W → PowAt W) := fun W h => (hp.stays hb).stays h
  have HF : Hid (∀ W n, Below W0.heap.size W0 W → inN n = true → Calls Tryz.prog 52 #[.int .i64 n] W fun e w' => e = .returned (.string (strB (decI n))) ∧ Below W.heap.size W w') := fun W n h hn => fig_any ((hp.stays hb).stays h) hn
  have HA : Hid (∀ W, Below W0.heap.size W0 W → ActI W vb vk vt bs keep torn) := fun W h => (hA.stays hb).stays h
  have HW := Lib.hid hW0
  have HG := Lib.hid hg
  have HB := Lib.hid hb
  clear hW0 hg hb hc hA hp
  have c1 := (HC.out _ (Below.refl _ _)).cell 1 (v := .int .i64 a) rfl
  have HM := Lib.hid (HF.out W0 a (Below.refl _ _) ha)
  clear ha HC HP HF HA
  rcases hk with rfl | rfl | rfl
  all_goals
    go_enter Tryz.func31, Tryz.ntmps31
    go_upto_region 1 with fail
    rw [← HW.out, ← HG.out]
    clear HW HG
    go_wp2_with fail
    refine HM.out.mono ?_
    rintro e w1 ⟨rfl, hb1⟩
    have HB1 := Lib.hid (HB.out.trans (hb1.mono HB.out.size))
    clear HM hb1
    go_wp2_with fail
    go_ret
    exact ⟨_, rfl, lit_own w1 HB1.out.size [decI a] _ rfl (by simp), HB1.out.alloc HB1.out.size _⟩
set_option maxRecDepth 100000 in
set_option maxHeartbeats 2000000 in
theorem rest_1 {w : World} {k a b c n : Int} {vb vk vt : Value} {bs : Bs} {keep : List Int} {torn : List (Int × Bs)} (hp : PowAt w) (hA : ActI w vb vk vt bs keep torn) (hk : k = 1) (hl : bs.length ≤ 4096) : Calls Tryz.prog 31 #[.agg (acCells k a b c n vb vk vt)] w (RestPost w [putB bs]) := by
  obtain ⟨ab, cb, rfl, -, -⟩ := hA.1.gen.shape
  obtain ⟨W0, hW0⟩ : ∃ W0, W0 = w.alloc (.cells (acCells k a b c n (.slice ab bs.length cb) vk vt) 26) := ⟨_, rfl⟩
  obtain ⟨g, hg⟩ : ∃ g, g = w.heap.size := ⟨_, rfl⟩
  have hb : Below w.heap.size w W0 := by rw [hW0]; exact (Below.refl _ _).alloc (Nat.le_refl _) _
  have hc : CellsAt W0 g 26 (acCells k a b c n (.slice ab bs.length cb) vk vt) := by rw [hW0, hg]; exact CellsAt.new w _ _
  have c0 := hc.cell 0 (v := .int .i64 k) rfl
  have HC : Hid (∀ W, Below W0.heap.size W0 W → CellsAt W g 26 (acCells k a b c n (.slice ab bs.length cb) vk vt)) := fun W h => hc.stays h
  have HP : Hid (∀ W, Below W0.heap.size W0 W → PowAt W) := fun W h => (hp.stays hb).stays h
  have HF : Hid (∀ W n, Below W0.heap.size W0 W → inN n = true → Calls Tryz.prog 52 #[.int .i64 n] W fun e w' => e = .returned (.string (strB (decI n))) ∧ Below W.heap.size W w') := fun W n h hn => fig_any ((hp.stays hb).stays h) hn
  have HA : Hid (∀ W, Below W0.heap.size W0 W → ActI W (.slice ab bs.length cb) vk vt bs keep torn) := fun W h => (hA.stays hb).stays h
  have HW := Lib.hid hW0
  have HG := Lib.hid hg
  have HB := Lib.hid hb
  clear hW0 hg hb hc hA hp
  have c1 := (HC.out _ (Below.refl _ _)).cell 5 (v := .slice ab bs.length cb) rfl
  have HM := Lib.hid (putB_any (HA.out W0 (Below.refl _ _)).1 hl)
  clear hl HC HP HF HA
  subst hk
  go_enter Tryz.func31, Tryz.ntmps31
  go_upto_region 1 with fail
  rw [← HW.out, ← HG.out]
  clear HW HG
  go_wp2_with fail
  refine HM.out.mono ?_
  rintro e w1 ⟨rfl, hb1⟩
  have HB1 := Lib.hid (HB.out.trans (hb1.mono HB.out.size))
  clear HM hb1
  go_wp2_with fail
  go_ret
  exact ⟨_, rfl, lit_own w1 HB1.out.size [putB bs] _ rfl (by simp), HB1.out.alloc HB1.out.size _⟩
set_option maxRecDepth 100000 in
set_option maxHeartbeats 2000000 in
theorem rest_8 {w : World} {k a b c n : Int} {vb vk vt : Value} {bs : Bs} {keep : List Int} {torn : List (Int × Bs)} (hp : PowAt w) (hA : ActI w vb vk vt bs keep torn) (hk : k = 8) (ha : a = -1 ∨ inN a = true) : Calls Tryz.prog 31 #[.agg (acCells k a b c n vb vk vt)] w (RestPost w (if a = -1 then [offW] else [decI a])) := by
  obtain ⟨W0, hW0⟩ : ∃ W0, W0 = w.alloc (.cells (acCells k a b c n vb vk vt) 26) := ⟨_, rfl⟩
  obtain ⟨g, hg⟩ : ∃ g, g = w.heap.size := ⟨_, rfl⟩
  have hb : Below w.heap.size w W0 := by rw [hW0]; exact (Below.refl _ _).alloc (Nat.le_refl _) _
  have hc : CellsAt W0 g 26 (acCells k a b c n vb vk vt) := by rw [hW0, hg]; exact CellsAt.new w _ _
  have c0 := hc.cell 0 (v := .int .i64 k) rfl
  have HC : Hid (∀ W, Below W0.heap.size W0 W → CellsAt W g 26 (acCells k a b c n vb vk vt)) := fun W h => hc.stays h
  have HP : Hid (∀ W, Below W0.heap.size W0 W → PowAt W) := fun W h => (hp.stays hb).stays h
  have HF : Hid (∀ W n, Below W0.heap.size W0 W → inN n = true → Calls Tryz.prog 52 #[.int .i64 n] W fun e w' => e = .returned (.string (strB (decI n))) ∧ Below W.heap.size W w') := fun W n h hn => fig_any ((hp.stays hb).stays h) hn
  have HA : Hid (∀ W, Below W0.heap.size W0 W → ActI W vb vk vt bs keep torn) := fun W h => (hA.stays hb).stays h
  have HW := Lib.hid hW0
  have HG := Lib.hid hg
  have HB := Lib.hid hb
  clear hW0 hg hb hc hA hp
  have c1 := (HC.out _ (Below.refl _ _)).cell 1 (v := .int .i64 a) rfl
  by_cases hm : a = -1
  · have e1 : (a == -1) = true := by simpa using hm
    rw [if_pos hm]
    clear ha HC HP HF HA hm
    subst hk
    go_enter Tryz.func31, Tryz.ntmps31
    go_upto_region 1 with fail
    rw [← HW.out, ← HG.out]
    clear HW HG
    go_wp2_with fail
    go_ret
    exact ⟨_, rfl, lit_own W0 HB.out.size [offW] _ rfl (by simp), HB.out.alloc HB.out.size _⟩
  · have e1 : (a == -1) = false := by simpa using hm
    rw [if_neg hm]
    have HM := Lib.hid (HF.out W0 a (Below.refl _ _) (ha.resolve_left hm))
    clear ha HC HP HF HA hm
    subst hk
    go_enter Tryz.func31, Tryz.ntmps31
    go_upto_region 1 with fail
    rw [← HW.out, ← HG.out]
    clear HW HG
    go_wp2_with fail
    refine HM.out.mono ?_
    rintro e w1 ⟨rfl, hb1⟩
    have HB1 := Lib.hid (HB.out.trans (hb1.mono HB.out.size))
    clear HM hb1
    go_wp2_with fail
    go_ret
    exact ⟨_, rfl, lit_own w1 HB1.out.size [decI a] _ rfl (by simp), HB1.out.alloc HB1.out.size _⟩
set_option maxRecDepth 100000 in
set_option maxHeartbeats 2000000 in
theorem rest_0 {w : World} {k a b c n : Int} {vb vk vt : Value} {bs : Bs} {keep : List Int} {torn : List (Int × Bs)} (hp : PowAt w) (hA : ActI w vb vk vt bs keep torn) (hk : k = 2 ∨ k = 7 ∨ k = 10) : Calls Tryz.prog 31 #[.agg (acCells k a b c n vb vk vt)] w (RestPost w []) := by
  obtain ⟨W0, hW0⟩ : ∃ W0, W0 = w.alloc (.cells (acCells k a b c n vb vk vt) 26) := ⟨_, rfl⟩
  obtain ⟨g, hg⟩ : ∃ g, g = w.heap.size := ⟨_, rfl⟩
  have hb : Below w.heap.size w W0 := by rw [hW0]; exact (Below.refl _ _).alloc (Nat.le_refl _) _
  have hc : CellsAt W0 g 26 (acCells k a b c n vb vk vt) := by rw [hW0, hg]; exact CellsAt.new w _ _
  have c0 := hc.cell 0 (v := .int .i64 k) rfl
  have HC : Hid (∀ W, Below W0.heap.size W0 W → CellsAt W g 26 (acCells k a b c n vb vk vt)) := fun W h => hc.stays h
  have HP : Hid (∀ W, Below W0.heap.size W0 W → PowAt W) := fun W h => (hp.stays hb).stays h
  have HF : Hid (∀ W n, Below W0.heap.size W0 W → inN n = true → Calls Tryz.prog 52 #[.int .i64 n] W fun e w' => e = .returned (.string (strB (decI n))) ∧ Below W.heap.size W w') := fun W n h hn => fig_any ((hp.stays hb).stays h) hn
  have HA : Hid (∀ W, Below W0.heap.size W0 W → ActI W vb vk vt bs keep torn) := fun W h => (hA.stays hb).stays h
  have HW := Lib.hid hW0
  have HG := Lib.hid hg
  have HB := Lib.hid hb
  clear hW0 hg hb hc hA hp
  clear HC HP HF HA
  rcases hk with rfl | rfl | rfl
  all_goals
    go_enter Tryz.func31, Tryz.ntmps31
    go_upto_region 1 with fail
    rw [← HW.out, ← HG.out]
    clear HW HG
    go_wp2_with fail
    go_ret
    exact ⟨_, rfl, OwnL.nil _ _, HB.out⟩
set_option maxRecDepth 100000 in
set_option maxHeartbeats 2000000 in
theorem rest_5 {w : World} {k a b c n : Int} {vb vk vt : Value} {bs : Bs} {keep : List Int} {torn : List (Int × Bs)} (hp : PowAt w) (hA : ActI w vb vk vt bs keep torn) (hk : k = 5) (ha : inN a = true) (hb2 : inN b = true) : Calls Tryz.prog 31 #[.agg (acCells k a b c n vb vk vt)] w (RestPost w [decI a, decI b]) := by
  obtain ⟨W0, hW0⟩ : ∃ W0, W0 = w.alloc (.cells (acCells k a b c n vb vk vt) 26) := ⟨_, rfl⟩
  obtain ⟨g, hg⟩ : ∃ g, g = w.heap.size := ⟨_, rfl⟩
  have hb : Below w.heap.size w W0 := by rw [hW0]; exact (Below.refl _ _).alloc (Nat.le_refl _) _
  have hc : CellsAt W0 g 26 (acCells k a b c n vb vk vt) := by rw [hW0, hg]; exact CellsAt.new w _ _
  have c0 := hc.cell 0 (v := .int .i64 k) rfl
  have HC : Hid (∀ W, Below W0.heap.size W0 W → CellsAt W g 26 (acCells k a b c n vb vk vt)) := fun W h => hc.stays h
  have HP : Hid (∀ W, Below W0.heap.size W0 W → PowAt W) := fun W h => (hp.stays hb).stays h
  have HF : Hid (∀ W n, Below W0.heap.size W0 W → inN n = true → Calls Tryz.prog 52 #[.int .i64 n] W fun e w' => e = .returned (.string (strB (decI n))) ∧ Below W.heap.size W w') := fun W n h hn => fig_any ((hp.stays hb).stays h) hn
  have HA : Hid (∀ W, Below W0.heap.size W0 W → ActI W vb vk vt bs keep torn) := fun W h => (hA.stays hb).stays h
  have HW := Lib.hid hW0
  have HG := Lib.hid hg
  have HB := Lib.hid hb
  clear hW0 hg hb hc hA hp
  have HM1 : Hid (∀ W, Below W0.heap.size W0 W → Calls Tryz.prog 52 #[.int .i64 a] W fun e w' => e = .returned (.string (strB (decI a))) ∧ Below W.heap.size W w') := fun W h => HF.out W a h ha
  have HM2 : Hid (∀ W, Below W0.heap.size W0 W → Calls Tryz.prog 52 #[.int .i64 b] W fun e w' => e = .returned (.string (strB (decI b))) ∧ Below W.heap.size W w') := fun W h => HF.out W b h hb2
  clear HF HP HA ha hb2
  subst hk
  go_enter Tryz.func31, Tryz.ntmps31
  go_upto_region 1 with fail
  rw [← HW.out, ← HG.out]
  clear HW HG
  go_upto_region 9 with fail
  have HS : Hid (∀ W, Below W0.heap.size W0 W → Below W0.heap.size W0 W ∧ W.cell? ⟨g, 1, none⟩ = some (.int .i64 a) ∧ W.cell? ⟨g, 2, none⟩ = some (.int .i64 b)) := fun W h => ⟨h, (HC.out W h).cell 1 rfl, (HC.out W h).cell 2 rfl⟩
  have hd0 : Below W0.heap.size W0 W0 := Below.refl _ _
  have hd1 : Below W0.heap.size W0 W0.drew := hd0.drew
  clear HC c0
  go_region_held3 (fun W => Below W0.heap.size W0 W ∧ W.cell? ⟨g, 1, none⟩ = some (.int .i64 a) ∧ W.cell? ⟨g, 2, none⟩ = some (.int .i64 b))
    (first | exact HS.out _ (by assumption) | exact HS.out _ (hd3.alloc hd3.size _))
    ((first
      | (go_at_call 52; (with_reducible refine (HM1.out _ (by assumption)).mono ?_); rintro e w1 ⟨rfl, hb1⟩; have hd2 := hd1.trans (hb1.mono hd1.size))
      | (go_at_call 52; (with_reducible refine (HM2.out _ (by assumption)).mono ?_); rintro e w2 ⟨rfl, hb2⟩; have hd3 := hd2.trans (hb2.mono hd2.size))))
  rename_i hHH
  clear hHH
  have HB3 := Lib.hid (HB.out.trans (hd3.mono HB.out.size))
  clear hd0 hd1 hd2 hd3 hb1 hb2 HM1 HM2 HS
  go_wp2_with fail
  go_ret
  exact ⟨_, rfl, lit_own w2 HB3.out.size [decI a, decI b] _ rfl (by simp), HB3.out.alloc HB3.out.size _⟩
set_option maxRecDepth 100000 in
set_option maxHeartbeats 2000000 in
theorem rest_4 {w : World} {k a b c n : Int} {vb vk vt : Value} {bs : Bs} {keep : List Int} {torn : List (Int × Bs)} (hp : PowAt w) (hA : ActI w vb vk vt bs keep torn) (hk : k = 4) (ha : inN a = true) (hb2 : inN b = true) (hc2 : inN c = true) : Calls Tryz.prog 31 #[.agg (acCells k a b c n vb vk vt)] w (RestPost w [decI a, decI b, decI c, polOf n]) := by
  obtain ⟨W0, hW0⟩ : ∃ W0, W0 = w.alloc (.cells (acCells k a b c n vb vk vt) 26) := ⟨_, rfl⟩
  obtain ⟨g, hg⟩ : ∃ g, g = w.heap.size := ⟨_, rfl⟩
  have hb : Below w.heap.size w W0 := by rw [hW0]; exact (Below.refl _ _).alloc (Nat.le_refl _) _
  have hc : CellsAt W0 g 26 (acCells k a b c n vb vk vt) := by rw [hW0, hg]; exact CellsAt.new w _ _
  have c0 := hc.cell 0 (v := .int .i64 k) rfl
  have HC : Hid (∀ W, Below W0.heap.size W0 W → CellsAt W g 26 (acCells k a b c n vb vk vt)) := fun W h => hc.stays h
  have HP : Hid (∀ W, Below W0.heap.size W0 W → PowAt W) := fun W h => (hp.stays hb).stays h
  have HF : Hid (∀ W n, Below W0.heap.size W0 W → inN n = true → Calls Tryz.prog 52 #[.int .i64 n] W fun e w' => e = .returned (.string (strB (decI n))) ∧ Below W.heap.size W w') := fun W n h hn => fig_any ((hp.stays hb).stays h) hn
  have HA : Hid (∀ W, Below W0.heap.size W0 W → ActI W vb vk vt bs keep torn) := fun W h => (hA.stays hb).stays h
  have HW := Lib.hid hW0
  have HG := Lib.hid hg
  have HB := Lib.hid hb
  clear hW0 hg hb hc hA hp
  have HM1 : Hid (∀ W, Below W0.heap.size W0 W → Calls Tryz.prog 52 #[.int .i64 a] W fun e w' => e = .returned (.string (strB (decI a))) ∧ Below W.heap.size W w') := fun W h => HF.out W a h ha
  have HM2 : Hid (∀ W, Below W0.heap.size W0 W → Calls Tryz.prog 52 #[.int .i64 b] W fun e w' => e = .returned (.string (strB (decI b))) ∧ Below W.heap.size W w') := fun W h => HF.out W b h hb2
  have HM3 : Hid (∀ W, Below W0.heap.size W0 W → Calls Tryz.prog 52 #[.int .i64 c] W fun e w' => e = .returned (.string (strB (decI c))) ∧ Below W.heap.size W w') := fun W h => HF.out W c h hc2
  have HM4 : Hid (∀ W, Calls Tryz.prog 45 #[.int .i64 n] W fun e w' => e = .returned (.string (strB (polOf n))) ∧ w' = W) := fun W => pword_any n W
  clear HF HP HA ha hb2 hc2
  subst hk
  go_enter Tryz.func31, Tryz.ntmps31
  go_upto_region 1 with fail
  rw [← HW.out, ← HG.out]
  clear HW HG
  go_upto_region 11 with fail
  have HS : Hid (∀ W, Below W0.heap.size W0 W → Below W0.heap.size W0 W ∧ W.cell? ⟨g, 1, none⟩ = some (.int .i64 a) ∧ W.cell? ⟨g, 2, none⟩ = some (.int .i64 b) ∧ W.cell? ⟨g, 3, none⟩ = some (.int .i64 c) ∧ W.cell? ⟨g, 4, none⟩ = some (.int .i64 n)) := fun W h => ⟨h, (HC.out W h).cell 1 rfl, (HC.out W h).cell 2 rfl, (HC.out W h).cell 3 rfl, (HC.out W h).cell 4 rfl⟩
  have hd0 : Below W0.heap.size W0 W0 := Below.refl _ _
  have hd1 : Below W0.heap.size W0 W0.drew := hd0.drew
  clear HC c0
  go_region_held3 (fun W => Below W0.heap.size W0 W ∧ W.cell? ⟨g, 1, none⟩ = some (.int .i64 a) ∧ W.cell? ⟨g, 2, none⟩ = some (.int .i64 b) ∧ W.cell? ⟨g, 3, none⟩ = some (.int .i64 c) ∧ W.cell? ⟨g, 4, none⟩ = some (.int .i64 n))
    (first | exact HS.out _ (by assumption) | exact HS.out _ (hd4.alloc hd4.size _))
    ((first
      | (go_at_call 52; (with_reducible refine (HM1.out _ (by assumption)).mono ?_); rintro e w1 ⟨rfl, hb1⟩; have hd2 := hd1.trans (hb1.mono hd1.size))
      | (go_at_call 52; (with_reducible refine (HM2.out _ (by assumption)).mono ?_); rintro e w2 ⟨rfl, hb2⟩; have hd3 := hd2.trans (hb2.mono hd2.size))
      | (go_at_call 52; (with_reducible refine (HM3.out _ (by assumption)).mono ?_); rintro e w3 ⟨rfl, hb3⟩; have hd4 := hd3.trans (hb3.mono hd3.size))
      | (go_at_call 45; (with_reducible refine (HM4.out _).mono ?_); rintro e w4 ⟨rfl, rfl⟩)))
  rename_i hHH
  clear hHH
  have HB3 := Lib.hid (HB.out.trans (hd4.mono HB.out.size))
  clear hd0 hd1 hd2 hd3 hd4 hb1 hb2 hb3 HM1 HM2 HM3 HM4 HS
  go_wp2_with fail
  go_ret
  exact ⟨_, rfl, lit_own _ HB3.out.size [decI a, decI b, decI c, polOf n] _ rfl (by simp), HB3.out.alloc HB3.out.size _⟩
set_option maxRecDepth 100000 in
set_option maxHeartbeats 2000000 in
theorem rest_9 {w : World} {k a b c n : Int} {vb vk vt : Value} {bs : Bs} {keep : List Int} {torn : List (Int × Bs)} (hp : PowAt w) (hA : ActI w vb vk vt bs keep torn) (hk : k = 9) (h1 : keep.all inN = true) (h2 : torn.all tornOk = true) (l1 : keep.length ≤ 200) (l2 : torn.length ≤ 200) : Calls Tryz.prog 31 #[.agg (acCells k a b c n vb vk vt)] w (RestPost w [keepW, putL decI keep, tornW, putL putT torn]) := by
  obtain ⟨r1, r2, acc, r3, r4, r5⟩ := hA
  obtain ⟨ak, ck, rfl, -, -⟩ := r2.shape
  obtain ⟨at', ct, rfl, -, -⟩ := r3.shape tqC_len
  have hA : ActI w vb (.slice ak keep.length ck) (.slice at' acc.length ct) bs keep torn := ⟨r1, r2, acc, r3, r4, r5⟩
  obtain ⟨W0, hW0⟩ : ∃ W0, W0 = w.alloc (.cells (acCells k a b c n vb (.slice ak keep.length ck) (.slice at' acc.length ct)) 26) := ⟨_, rfl⟩
  obtain ⟨g, hg⟩ : ∃ g, g = w.heap.size := ⟨_, rfl⟩
  have hb : Below w.heap.size w W0 := by rw [hW0]; exact (Below.refl _ _).alloc (Nat.le_refl _) _
  have hc : CellsAt W0 g 26 (acCells k a b c n vb (.slice ak keep.length ck) (.slice at' acc.length ct)) := by rw [hW0, hg]; exact CellsAt.new w _ _
  have c0 := hc.cell 0 (v := .int .i64 k) rfl
  have HC : Hid (∀ W, Below W0.heap.size W0 W → CellsAt W g 26 (acCells k a b c n vb (.slice ak keep.length ck) (.slice at' acc.length ct))) := fun W h => hc.stays h
  have HP : Hid (∀ W, Below W0.heap.size W0 W → PowAt W) := fun W h => (hp.stays hb).stays h
  have HF : Hid (∀ W n, Below W0.heap.size W0 W → inN n = true → Calls Tryz.prog 52 #[.int .i64 n] W fun e w' => e = .returned (.string (strB (decI n))) ∧ Below W.heap.size W w') := fun W n h hn => fig_any ((hp.stays hb).stays h) hn
  have HA : Hid (∀ W, Below W0.heap.size W0 W → ActI W vb (.slice ak keep.length ck) (.slice at' acc.length ct) bs keep torn) := fun W h => (hA.stays hb).stays h
  have HW := Lib.hid hW0
  have HG := Lib.hid hg
  have HB := Lib.hid hb
  clear hW0 hg hb hc hA hp
  have hacc : acc.length ≤ 200 := by rw [← r5, List.length_map] at l2; exact l2
  have HM1 : Hid (∀ W, Below W0.heap.size W0 W → Calls Tryz.prog 53 #[.slice ak keep.length ck, .func (.func 52) #[] #[]] W fun e w' => e = .returned (.string (strB (putL decI keep))) ∧ Below W.heap.size W w') := fun W h => listI_any (HP.out W h) (HA.out W h).2.1 h1 l1
  have HM2 : Hid (∀ W, Below W0.heap.size W0 W → Calls Tryz.prog 54 #[.slice at' acc.length ct, .func (.func 55) #[] #[]] W fun e w' => e = .returned (.string (strB (putL putT torn))) ∧ Below W.heap.size W w') := fun W h => by
    have hbw := HB.out.trans (h.mono HB.out.size)
    have := listT_any (HP.out W h) (Row.stays r3 hbw) (by rw [r5]; exact h2) (fun y hy => Row.stays (r4 y hy) hbw) hacc
    rw [r5] at this
    exact this
  clear HF HP HA h1 h2 l1 l2 hacc r1 r2 r3 r4 r5
  subst hk
  go_enter Tryz.func31, Tryz.ntmps31
  go_upto_region 1 with fail
  rw [← HW.out, ← HG.out]
  clear HW HG
  go_upto_region 17 with fail
  have HS : Hid (∀ W, Below W0.heap.size W0 W → Below W0.heap.size W0 W ∧ W.cell? ⟨g, 6, none⟩ = some (.slice ak keep.length ck) ∧ W.cell? ⟨g, 7, none⟩ = some (.slice at' acc.length ct)) := fun W h => ⟨h, (HC.out W h).cell 6 rfl, (HC.out W h).cell 7 rfl⟩
  have hd0 : Below W0.heap.size W0 W0 := Below.refl _ _
  have hd1 : Below W0.heap.size W0 W0.drew := hd0.drew
  clear HC c0
  go_region_held3 (fun W => Below W0.heap.size W0 W ∧ W.cell? ⟨g, 6, none⟩ = some (.slice ak keep.length ck) ∧ W.cell? ⟨g, 7, none⟩ = some (.slice at' acc.length ct))
    (first | exact HS.out _ (by assumption) | exact HS.out _ (hd3.alloc hd3.size _))
    ((first
      | (go_at_call 53; (with_reducible refine (HM1.out _ (by assumption)).mono ?_); rintro e w1 ⟨rfl, hb1⟩; have hd2 := hd1.trans (hb1.mono hd1.size))
      | (go_at_call 54; (with_reducible refine (HM2.out _ (by assumption)).mono ?_); rintro e w2 ⟨rfl, hb2⟩; have hd3 := hd2.trans (hb2.mono hd2.size))))
  rename_i hHH
  clear hHH
  have HB3 := Lib.hid (HB.out.trans (hd3.mono HB.out.size))
  clear hd0 hd1 hd2 hd3 hb1 hb2 HM1 HM2 HS
  go_wp2_with fail
  go_ret
  exact ⟨_, rfl, lit_own w2 HB3.out.size [keepW, putL decI keep, tornW, putL putT torn] _ rfl (by simp), HB3.out.alloc HB3.out.size _⟩
/-- a right act's words -/
theorem rest_any {w : World} {k a b c n : Int} {vb vk vt : Value} {bs : Bs} {keep : List Int} {torn : List (Int × Bs)} (hp : PowAt w) (hA : ActI w vb vk vt bs keep torn) (hR : rightA ⟨k, a, b, c, n, bs, keep, torn⟩ = true) : Calls Tryz.prog 31 #[.agg (acCells k a b c n vb vk vt)] w (RestPost w (restA ⟨k, a, b, c, n, bs, keep, torn⟩)) := by
  obtain ⟨hk, hn, l1, l2, l3, h1, h2⟩ := right_parts hR
  unfold numb numbered at hn
  unfold restA
  simp only at hn ⊢
  by_cases e1 : k = 1
  · rw [if_pos e1]; exact rest_1 hp hA e1 l1
  · rw [if_neg e1]
    by_cases e3 : k = 3 ∨ k = 6 ∨ k = 11
    · rw [if_pos e3] at hn ⊢
      simp only [Bool.and_eq_true] at hn
      exact rest_a hp hA e3 hn.1
    · rw [if_neg e3] at hn ⊢
      by_cases e5 : k = 5
      · rw [if_pos e5] at hn ⊢
        simp only [Bool.and_eq_true] at hn
        exact rest_5 hp hA e5 hn.1.1 hn.1.2
      · rw [if_neg e5] at hn ⊢
        by_cases e4 : k = 4
        · rw [if_pos e4] at hn ⊢
          simp only [Bool.and_eq_true] at hn
          exact rest_4 hp hA e4 hn.1.1.1 hn.1.1.2 hn.1.2
        · rw [if_neg e4] at hn ⊢
          by_cases e8 : k = 8
          · rw [if_pos e8] at hn ⊢
            simp only [Bool.and_eq_true, Bool.or_eq_true, beq_iff_eq] at hn
            exact rest_8 hp hA e8 hn.1.symm
          · rw [if_neg e8]
            by_cases e9 : k = 9
            · rw [if_pos e9]; exact rest_9 hp hA e9 h1 h2 l2 l3
            · rw [if_neg e9]; exact rest_0 hp hA (by omega)
end Go.Proofs.YtbcpciegdmminaaGreatDoor
