/- Scripts: a line's act. -/
import Derived.Test.YtbcpciegdmminaaGreatDoorScW
namespace Go.Proofs.YtbcpciegdmminaaGreatDoor
open Go Go.RowKit
set_option linter.unusedVariables false
theorem idxF_words : ∀ (l : List Bs) (x : Bs) (k : Nat), Lib.idxFromS (l.map strB) (strB x) k = if x ∈ l then ((k + l.idxOf x : Nat) : Int) else -1
  | [], x, k => rfl
  | y :: l, x, k => by
    rw [List.map_cons, Lib.idxFromS]
    by_cases h : y = x
    · subst h
      rw [if_pos rfl, if_pos (by simp), List.idxOf_cons_self]; rfl
    · rw [if_neg (fun e => h (strB_inj e)), idxF_words l x (k + 1)]
      by_cases hm : x ∈ l
      · have hb : (y == x) = false := by simpa using h
        rw [if_pos hm, if_pos (by simp [hm]), List.idxOf_cons, hb]
        simp only [cond_false]
        congr 1; omega
      · rw [if_neg hm, if_neg (by simp [hm]; exact fun e => h e.symm)]
theorem idxS_words (l : List Bs) (x : Bs) : Lib.idxOfS (l.map strB) (strB x) = if x ∈ l then ((l.idxOf x : Nat) : Int) else -1 := by
  unfold Lib.idxOfS
  rw [idxF_words, Nat.zero_add]
/-- what parsing reads of the variables -/
structure VarsP (aS aR aF : Addr) (w : World) : Prop where
  vs : VarsS aS aR w
  words : WordsAt w
  form : ErrAt w 1 aF
theorem VarsP.stays {aS aR aF : Addr} {w w' : World} (h : VarsP aS aR aF w) (hb : Below w.heap.size w w') : VarsP aS aR aF w' := ⟨h.vs.stays hb, h.words.stays hb, h.form.stays hb⟩
theorem index_any {w : World} (h : WordsAt w) (x : Bs) : Calls Tryz.prog 37 #[.slice (some ⟨0, 0, none⟩) 12 12, .string (strB x)] w fun e w' => e = .returned (.int .i64 (if x ∈ wordsL then kindOf x else -1)) ∧ w' = w := by
  have h1 := Any.slices_Index_string Tryz.lays109 0 0 12 12 (wordsL.map strB) (strB x) w (by decide) (by decide) (fun j hj => by
    have h2 : j < 12 := by simpa [wordsL] using hj
    have h3 := h j h2
    rw [Nat.zero_add, h3]
    congr 2
    have h4 : j < wordsL.length := h2
    rw [List.getD_eq_getElem?_getD, List.getD_eq_getElem?_getD, List.getElem?_map, List.getElem?_eq_getElem h4]; rfl)
  rw [show (wordsL.map strB).take 12 = wordsL.map strB from rfl, idxS_words] at h1
  refine h1.mono ?_
  rintro e w' ⟨h5, h6⟩
  refine ⟨?_, h6⟩
  rw [h5]
  unfold kindOf
  by_cases hm : x ∈ wordsL
  · rw [if_pos hm, if_pos hm, if_pos hm]
  · rw [if_neg hm, if_neg hm]
theorem cells_set8 {W : World} {g : Nat} {T : TypeId} (h : CellsAt W g T (acCells 0 0 0 0 0 nilS nilS nilS)) (z : Int) :
    CellsAt ((((((((W.setCell ⟨g, 0, none⟩ (.int .i64 z)).setCell ⟨g, 1, none⟩ (.int .i64 0)).setCell ⟨g, 2, none⟩ (.int .i64 0)).setCell ⟨g, 3, none⟩ (.int .i64 0)).setCell ⟨g, 4, none⟩ (.int .i64 0)).setCell ⟨g, 5, none⟩ (.slice none 0 0)).setCell ⟨g, 6, none⟩ (.slice none 0 0)).setCell ⟨g, 7, none⟩ (.slice none 0 0)) g T (acCells z 0 0 0 0 nilS nilS nilS) := by
  have h0 := h.set 0 (.int .i64 z)
  have h1 := h0.set 1 (.int .i64 0)
  have h2 := h1.set 2 (.int .i64 0)
  have h3 := h2.set 3 (.int .i64 0)
  have h4 := h3.set 4 (.int .i64 0)
  have h5 := h4.set 5 (.slice none 0 0)
  have h6 := h5.set 6 (.slice none 0 0)
  have h7 := h6.set 7 (.slice none 0 0)
  have e : ((((((((acCells 0 0 0 0 0 nilS nilS nilS).setIfInBounds 0 (.int .i64 z)).setIfInBounds 1 (.int .i64 0)).setIfInBounds 2 (.int .i64 0)).setIfInBounds 3 (.int .i64 0)).setIfInBounds 4 (.int .i64 0)).setIfInBounds 5 (.slice none 0 0)).setIfInBounds 6 (.slice none 0 0)).setIfInBounds 7 (.slice none 0 0) = acCells z 0 0 0 0 nilS nilS nilS := by
    simp [acCells]
  rw [e] at h7
  exact h7
theorem cells_set8' {W : World} {g : Nat} {T : TypeId} (h : CellsAt W g T (acCells 0 0 0 0 0 nilS nilS nilS)) (k a b c n : Int) (vb vk vt : Value) :
    CellsAt ((((((((W.setCell ⟨g, 0, none⟩ (.int .i64 k)).setCell ⟨g, 1, none⟩ (.int .i64 a)).setCell ⟨g, 2, none⟩ (.int .i64 b)).setCell ⟨g, 3, none⟩ (.int .i64 c)).setCell ⟨g, 4, none⟩ (.int .i64 n)).setCell ⟨g, 5, none⟩ vb).setCell ⟨g, 6, none⟩ vk).setCell ⟨g, 7, none⟩ vt) g T (acCells k a b c n vb vk vt) := by
  have h0 := h.set 0 (.int .i64 k)
  have h1 := h0.set 1 (.int .i64 a)
  have h2 := h1.set 2 (.int .i64 b)
  have h3 := h2.set 3 (.int .i64 c)
  have h4 := h3.set 4 (.int .i64 n)
  have h5 := h4.set 5 vb
  have h6 := h5.set 6 vk
  have h7 := h6.set 7 vt
  have e : ((((((((acCells 0 0 0 0 0 nilS nilS nilS).setIfInBounds 0 (.int .i64 k)).setIfInBounds 1 (.int .i64 a)).setIfInBounds 2 (.int .i64 b)).setIfInBounds 3 (.int .i64 c)).setIfInBounds 4 (.int .i64 n)).setIfInBounds 5 vb).setIfInBounds 6 vk).setIfInBounds 7 vt = acCells k a b c n vb vk vt := by
    simp [acCells]
  rw [e] at h7
  exact h7
theorem grown_set8 {W : World} {g : Nat} (u0 u1 u2 u3 u4 u5 u6 u7 : Value) : W.grownBy ((((((((W.setCell ⟨g, 0, none⟩ u0).setCell ⟨g, 1, none⟩ u1).setCell ⟨g, 2, none⟩ u2).setCell ⟨g, 3, none⟩ u3).setCell ⟨g, 4, none⟩ u4).setCell ⟨g, 5, none⟩ u5).setCell ⟨g, 6, none⟩ u6).setCell ⟨g, 7, none⟩ u7) (some g) :=
  grownBy_setCell (grownBy_setCell (grownBy_setCell (grownBy_setCell (grownBy_setCell (grownBy_setCell (grownBy_setCell (grownBy_setCell (grownBy_refl _ _) ⟨g, 0, none⟩ (.inl rfl) _) ⟨g, 1, none⟩ (.inl rfl) _) ⟨g, 2, none⟩ (.inl rfl) _) ⟨g, 3, none⟩ (.inl rfl) _) ⟨g, 4, none⟩ (.inl rfl) _) ⟨g, 5, none⟩ (.inl rfl) _) ⟨g, 6, none⟩ (.inl rfl) _) ⟨g, 7, none⟩ (.inl rfl) _
theorem parse_eq (line : Bs) : parseA line = if kindOf ((spl 32 line).headD []) = 0 then none else match fillA (kindOf ((spl 32 line).headD [])) (spl 32 line).tail with | some a => if rightA a then some a else none | none => none := by
  unfold parseA
  cases h : spl 32 line with
  | nil => exact absurd h (spl_ne 32 line)
  | cons w r => rfl
theorem mapO_len {α : Type} (g : Bs → Option α) {s : Bs} {l : List α} (h : getL g s = some l) : l.length ≤ s.length + 1 := by
  unfold getL at h
  split at h
  · cases h; simp
  · have := (mapO_get g _ _ h).1
    have := spl_len 44 s
    omega
theorem fill_len {k : Int} {ws : List Bs} {A : Ac} (h : fillA k ws = some A) (hle : ∀ x ∈ ws, x.length ≤ 1000000) : A.keep.length ≤ 2000000 ∧ A.torn.length ≤ 2000000 := by
  have z : A.keep = [] ∧ A.torn = [] → A.keep.length ≤ 2000000 ∧ A.torn.length ≤ 2000000 := fun e => by rw [e.1, e.2]; simp
  by_cases h3 : k = 3 ∨ k = 6 ∨ k = 11
  · have := (plain_a h3 ws).2 A h; exact z (by rw [this]; exact ⟨rfl, rfl⟩)
  · by_cases h1 : k = 1
    · subst h1; have := (plain_1 ws).2 A h; exact z (by rw [this]; exact ⟨rfl, rfl⟩)
    · by_cases h5 : k = 5
      · subst h5; have := (plain_5 ws).2 A h; exact z (by rw [this]; exact ⟨rfl, rfl⟩)
      · by_cases h4 : k = 4
        · subst h4; have := (plain_4 ws).2 A h; exact z (by rw [this]; exact ⟨rfl, rfl⟩)
        · by_cases h8 : k = 8
          · subst h8
            by_cases ho : ws.headD [] = offW
            · have := ((plain_8 ws).1 ho).2 A h; exact z (by rw [this]; exact ⟨rfl, rfl⟩)
            · have := ((plain_8 ws).2 ho).2 A h; exact z (by rw [this]; exact ⟨rfl, rfl⟩)
          · by_cases h9 : k = 9
            · subst h9
              obtain ⟨-, -, -, -, -, -, q7, q8⟩ := (plain_9 ws).2 A h
              have l1 := mapO_len numO q7
              have l2 := mapO_len getT q8
              have m1 := hd_le _ (tl_le _ hle)
              have m2 := hd_le _ (tl_le _ (tl_le _ (tl_le _ hle)))
              omega
            · have := (plain_0 h1 (fun e => h3 (.inl e)) (fun e => h3 (.inr (.inl e))) (fun e => h3 (.inr (.inr e))) h5 h4 h8 h9 ws).2 A h; exact z (by rw [this]; exact ⟨rfl, rfl⟩)
/-- what parsing answers -/
def ParseP (B : Nat) (aF : Addr) (line : Bs) (e : Ending) (w' : World) : Prop :=
  (∀ A, parseA line = some A → ∃ vb vk vt, e = .returned (.tuple #[.agg (acCells A.k A.a A.b A.c A.n vb vk vt), .nilIface]) ∧ ActR B w' vb vk vt A.bs A.keep A.torn) ∧
  (parseA line = none → e = .returned (.tuple #[.agg (acCells 0 0 0 0 0 nilS nilS nilS), .iface 157 (.pointer (some aF))]))
theorem ParseP.bad {B : Nat} {aF : Addr} {line : Bs} {w' : World} (h : parseA line = none) : ParseP B aF line (.returned (.tuple #[.agg (acCells 0 0 0 0 0 nilS nilS nilS), .iface 157 (.pointer (some aF))])) w' := ⟨fun A hA => (by rw [h] at hA; cases hA), fun _ => rfl⟩
theorem ActR.mono {B B' : Nat} {w : World} {vb vk vt : Value} {bs : Bs} {keep : List Int} {torn : List (Int × Bs)} (h : ActR B w vb vk vt bs keep torn) (hB : B' ≤ B) : ActR B' w vb vk vt bs keep torn := by
  obtain ⟨h1, h2, acc, h3, h4, h5⟩ := h
  exact ⟨own_mono h1 hB, own_mono h2 hB, acc, own_mono h3 hB, fun y hy => ⟨(h4 y hy).1, fun q hq => Nat.le_trans hB ((h4 y hy).2 q hq)⟩, h5⟩
theorem ActR.stays {B : Nat} {w w' : World} {vb vk vt : Value} {bs : Bs} {keep : List Int} {torn : List (Int × Bs)} (h : ActR B w vb vk vt bs keep torn) (hb : Below w.heap.size w w') : ActR B w' vb vk vt bs keep torn := by
  obtain ⟨h1, h2, acc, h3, h4, h5⟩ := h
  exact ⟨own_stays h1 hb, own_stays h2 hb, acc, own_stays h3 hb, fun y hy => ⟨Row.stays (h4 y hy).1 hb, (h4 y hy).2⟩, h5⟩
set_option maxRecDepth 100000 in
set_option maxHeartbeats 4000000 in
theorem parse_any {aS aR aF : Addr} {w : World} (hV : VarsP aS aR aF w) (line : Bs) (hl : line.length ≤ 100000) :
    Calls Tryz.prog 17 #[.string (strB line)] w fun e w' => ParseP w.heap.size aF line e w' ∧ Below w.heap.size w w' := by
  have HPE := Lib.hid (parse_eq line)
  have HS : Hid (∀ W, Below w.heap.size w W → Calls Tryz.prog 36 #[.string (strB line), .string ⟨#[32]⟩] W fun e w' => ∃ g, e = .returned (.slice (some ⟨g, 0, none⟩) (spl 32 line).length (spl 32 line).length) ∧ OwnL 9 SV W.heap.size w' (.slice (some ⟨g, 0, none⟩) (spl 32 line).length (spl 32 line).length) (spl 32 line) ∧ Below W.heap.size W w') := fun W h => split_any (hV.stays h).vs 32 line (by omega)
  obtain ⟨W0, hW0⟩ : ∃ W0, W0 = w.alloc (.cells #[.int .i64 0, .int .i64 0, .int .i64 0, .int .i64 0, .int .i64 0, .slice none 0 0, .slice none 0 0, .slice none 0 0] 26) := ⟨_, rfl⟩
  obtain ⟨g0, hg0⟩ : ∃ g, g = w.heap.size := ⟨_, rfl⟩
  have hb0 : Below w.heap.size w W0 := by rw [hW0]; exact (Below.refl _ _).alloc (Nat.le_refl _) _
  have hc0 : CellsAt W0 g0 26 (acCells 0 0 0 0 0 nilS nilS nilS) := by rw [hW0, hg0]; exact CellsAt.new w _ _
  have HW := Lib.hid hW0
  have HG := Lib.hid hg0
  have HB0 := Lib.hid hb0
  have HC0 := Lib.hid hc0
  have HEF := Lib.hid hV.form
  clear hW0 hg0 hb0 hc0
  go_enter Tryz.func17, Tryz.ntmps17
  go_upto_region 1 with fail
  rw [← HW.out, ← HG.out]
  clear HW
  go_wp2_with fail
  refine (HS.out _ HB0.out).mono ?_
  rintro e w1 ⟨gs, rfl, ho1, hb1⟩
  clear HS
  have hbw1 : Below w.heap.size w w1 := HB0.out.trans (hb1.mono HB0.out.size)
  obtain ⟨r, hr⟩ : ∃ r, r = w1.heap.size := ⟨_, rfl⟩
  obtain ⟨W1, hW1⟩ : ∃ W1, W1 = w1.alloc (.cells #[.slice (some ⟨gs, 0, none⟩) (spl 32 line).length (spl 32 line).length, .bool false] 73) := ⟨_, rfl⟩
  have hba : Below w1.heap.size w1 W1 := by rw [hW1]; exact (Below.refl _ _).alloc (Nat.le_refl _) _
  have hbW1 : Below w.heap.size w W1 := hbw1.trans (hba.mono hbw1.size)
  have hrd : RD W1 r (spl 32 line) false := ⟨some ⟨gs, 0, none⟩, _, by rw [hW1, hr]; exact CellsAt.new w1 _ _, Row.stays (OwnL.row ho1) hba, fun k hk => by
    have := (World.ownsRow.lt ho1 k hk).2
    omega⟩
  have hln := spl_len 32 line
  have hle : ∀ x ∈ spl 32 line, x.length ≤ 100000 := fun x hx => Nat.le_trans (spl_le 32 line x hx) hl
  have hne := spl_ne 32 line
  obtain ⟨ws, hws⟩ : ∃ ws, ws = spl 32 line := ⟨_, rfl⟩
  rw [← hws] at hrd hln hle hne hW1 HPE
  obtain ⟨x, hx⟩ : ∃ x, x = ws.headD [] := ⟨_, rfl⟩
  rw [← hx] at HPE
  have hemp : ws.isEmpty = false := by cases ws with | nil => exact absurd rfl hne | cons a t => rfl
  have HNX : Hid (∀ W, Below W1.heap.size W1 W → Calls Tryz.prog 38 #[.pointer (some ⟨r, 0, none⟩)] W fun e w' => e = .returned (.string (strB x)) ∧ RD w' r ws.tail false ∧ W.grownBy w' (some r)) := fun W h => by
    have := next_any (hrd.stays h) (by omega)
    rw [← hx, hemp] at this
    exact this
  have HIX : Hid (∀ W, Below w.heap.size w W → Calls Tryz.prog 37 #[.slice (some ⟨0, 0, none⟩) 12 12, .string (strB x)] W fun e w' => e = .returned (.int .i64 (if x ∈ wordsL then kindOf x else -1)) ∧ w' = W) := fun W h => index_any (hV.stays h).words x
  rw [← hws]
  have HWS := Lib.hid hws
  have HX := Lib.hid hx
  have HWW := Lib.hid hW1
  have HRR := Lib.hid hr
  have HBW1 := Lib.hid hbW1
  have hrlt : r < W1.heap.size := hrd.lt
  have HRL := Lib.hid hrlt
  have HC1 := Lib.hid ((HC0.out.stays hb1).stays hba)
  have HGR : Hid (g0 < r) := by show _ < _; rw [hr]; exact (HC0.out.stays hb1).lt
  have HRW : Hid (w.heap.size ≤ r) := by show _ ≤ _; rw [hr]; exact hbw1.size
  have HLE := Lib.hid hle
  have HLN := Lib.hid hln
  clear ho1 hb1 hbw1 hba hbW1 hrd hln hle hne hws hx hemp hW1 hr
  go_upto_region 2 with fail
  rw [← HWW.out, ← HRR.out]
  clear HWW
  go_cut [5] from 5 to 15 (fun v wx => ∃ g, v = .pointer (some ⟨g, 0, none⟩) ∧ CellsAt wx g 26 (acCells (kindOf x) 0 0 0 0 nilS nilS nilS) ∧ RD wx r ws.tail false ∧ W1.heap.size ≤ g ∧ Grew [r] W1 wx)
  case first =>
    have hd0 : Below W1.heap.size W1 W1 := Below.refl _ _
    have hd1 : Below W1.heap.size W1 W1.drew := hd0.drew
    have hz : max (if x ∈ wordsL then kindOf x else -1) 0 = kindOf x := by
      by_cases hm : x ∈ wordsL
      · rw [if_pos hm, Int.max_eq_left (kind_bd x).1]
      · rw [if_neg hm]; unfold kindOf; rw [if_neg hm]; rfl
    generalize (if x ∈ wordsL then kindOf x else -1) = z at HIX hz
    have HZ := Lib.hid hz
    have hrg : r ≠ W1.heap.size := by have := HRL.out; omega
    clear hz
    go_region_law ((first
        | (go_simp; go_at_call 38; (with_reducible refine (HNX.out _ hd1).mono ?_); rintro e w5 ⟨rfl, hr5, hg5⟩; have hq5 := HBW1.out.drew.grown hg5 HBW1.out.size (fun k hk => by cases hk; exact HRW.out); have hgW : W1.grownBy w5 (some r) := ⟨hg5.os, hg5.tape, hg5.output, hg5.size, hg5.block⟩; have hs5 := hgW.size)
        | (go_simp; go_at_call 38; (with_reducible refine (HNX.out _ (hd0.alloc hd0.size _).drew).mono ?_); rintro e w5 ⟨rfl, hr5, hg5⟩; have hq5 := (HBW1.out.alloc HBW1.out.size _).drew.grown hg5 (HBW1.out.alloc HBW1.out.size _).drew.size (fun k hk => by cases hk; exact HRW.out); have hcA : CellsAt w5 W1.heap.size 26 (acCells 0 0 0 0 0 nilS nilS nilS) := CellsAt.grown (CellsAt.drew (CellsAt.new W1 _ _)) hg5 (fun e => hrg (Option.some.inj e)); have hgW : W1.grownBy w5 (some r) := grownBy_trans (World.grownBy_alloc W1 _ _) ⟨hg5.os, hg5.tape, hg5.output, hg5.size, hg5.block⟩; have c0 := hcA.cell 0 (v := .int .i64 0) rfl; have c1 := hcA.cell 1 (v := .int .i64 0) rfl; have c2 := hcA.cell 2 (v := .int .i64 0) rfl; have c3 := hcA.cell 3 (v := .int .i64 0) rfl; have c4 := hcA.cell 4 (v := .int .i64 0) rfl; have c5 := hcA.cell 5 (v := nilS) rfl; have c6 := hcA.cell 6 (v := nilS) rfl; have c7 := hcA.cell 7 (v := nilS) rfl; have f0 := hcA.free 0; have f1 := hcA.free 1; have f2 := hcA.free 2; have f3 := hcA.free 3; have f4 := hcA.free 4; have f5 := hcA.free 5; have f6 := hcA.free 6; have f7 := hcA.free 7)
        | (go_simp; go_at_call 37; (with_reducible refine (HIX.out _ hq5).mono ?_); rintro e w6 ⟨rfl, rfl⟩)
        | (go_simp; go_at_call 37; (with_reducible refine (HIX.out _ (hq5.alloc hq5.size _)).mono ?_); rintro e w6 ⟨rfl, rfl⟩)))
    all_goals go_wp2_with fail
    all_goals go_meet
    all_goals first
      | (have hcB := hcA; exact ⟨_, rfl, by rw [← HZ.out]; exact cells_set8 hcA (max z 0), hr5.kept (grown_set8 _ _ _ _ _ _ _ _) (fun q hq => by cases hq; exact HRL.out), Nat.le_refl _, (Grew.ofGrown hgW).grown (grown_set8 _ _ _ _ _ _ _ _) (fun i hi => by cases hi; exact .inr (Nat.le_refl _))⟩)
      | exact ⟨_, rfl, by rw [← HZ.out]; exact CellsAt.new _ _ _, hr5.stays ((Below.refl _ _).alloc (Nat.le_refl _) _), hs5, (Grew.ofGrown hgW).alloc _⟩
  case rest =>
    obtain ⟨g, rfl, hc, hrd, hgw, hgr⟩ := hcut
    obtain ⟨w2, rfl⟩ : ∃ w2 : World, w2 = wc := ⟨_, rfl⟩
    have hb2 : Below w.heap.size w w2 := hgr.below HBW1.out (fun i hi => by rw [List.mem_singleton] at hi; rw [hi]; exact HRW.out) HBW1.out.size
    have hc0 : CellsAt w2 g0 26 (acCells 0 0 0 0 0 nilS nilS nilS) := HC1.out.grew hgr (by have := HGR.out; simp; omega)
    have hv2 := hV.stays hb2
    have hrg : r < g := Nat.lt_of_lt_of_le HRL.out hgw
    have hc00 := hc.cell 0 (v := .int .i64 (kindOf x)) rfl
    have hwd := word_any hv2.words (kindOf x)
    have HWD := Lib.hid hwd
    have HB2 := Lib.hid hb2
    have HC02 := Lib.hid hc0
    have HV2 := Lib.hid hv2
    have HFI : Hid (1 ≤ kindOf x ∧ kindOf x ≤ 11 → FillGoal w2 r g (kindOf x) ws.tail) := fun hk => fill_any hk hrd hv2.vs hc hrg (tl_len _ (by have := HLN.out; omega)) (tl_le _ (fun y hy => by have := HLE.out y hy; omega))
    have HFL : Hid (∀ A, fillA (kindOf x) ws.tail = some A → A.keep.length ≤ 2000000 ∧ A.torn.length ≤ 2000000) := fun A hA => fill_len hA (tl_le _ (fun y hy => by have := HLE.out y hy; omega))
    have HGG : Hid (g0 ≠ g ∧ g0 ≠ r ∧ w.heap.size ≤ g ∧ g < w2.heap.size) := by
      have h1 := HGR.out; have h2 := HRW.out; have h3 := hc.lt
      exact ⟨by omega, by omega, by omega, h3⟩
    have hkb := kind_bd x
    have HF2 : Hid (ErrAt w2 1 aF) := hv2.form
    have HVV : Hid (∀ W, Below w.heap.size w W → VarsP aS aR aF W) := fun W h => hV.stays h
    clear hwd hb2 hc0 hv2 hrg hc hrd hgw hgr HNX hV
    have hne1 : g0 ≠ 1 := by have h1 := HEF.out.lt; have h2 := HG.out; omega
    have hne2 : 1 ≠ g0 := fun e => hne1 e.symm
    have hef : w2.cell? ⟨1, 0, none⟩ = some (.iface 157 (.pointer (some aF))) := HF2.out
    obtain ⟨k, hk⟩ : ∃ k, k = kindOf x := ⟨_, rfl⟩
    rw [← hk] at HPE HWD HFI HFL hkb hc00
    clear hk
    by_cases hk0 : k = 0
    · have HN : Hid (parseA line = none) := by show _ = _; rw [HPE.out, if_pos hk0]
      subst hk0
      obtain ⟨b0, b1, b2, b3, b4, b5, b6, b7⟩ : w2.cell? ⟨g0, 0, none⟩ = some (.int .i64 0) ∧ w2.cell? ⟨g0, 1, none⟩ = some (.int .i64 0) ∧ w2.cell? ⟨g0, 2, none⟩ = some (.int .i64 0) ∧ w2.cell? ⟨g0, 3, none⟩ = some (.int .i64 0) ∧ w2.cell? ⟨g0, 4, none⟩ = some (.int .i64 0) ∧ w2.cell? ⟨g0, 5, none⟩ = some nilS ∧ w2.cell? ⟨g0, 6, none⟩ = some nilS ∧ w2.cell? ⟨g0, 7, none⟩ = some nilS := ⟨HC02.out.cell 0 rfl, HC02.out.cell 1 rfl, HC02.out.cell 2 rfl, HC02.out.cell 3 rfl, HC02.out.cell 4 rfl, HC02.out.cell 5 rfl, HC02.out.cell 6 rfl, HC02.out.cell 7 rfl⟩
      have f0 := HC02.out.free 0
      have f1 := HC02.out.free 1
      have f2 := HC02.out.free 2
      have f3 := HC02.out.free 3
      have f4 := HC02.out.free 4
      have f5 := HC02.out.free 5
      have f6 := HC02.out.free 6
      have f7 := HC02.out.free 7
      clear HPE HFI HFL
      go_wp2_with fail
      refine HWD.out.mono ?_
      rintro e w3 ⟨rfl, rfl⟩
      have wn : (strB (wordOf 0)).toList.isEmpty = true := word_nil (by omega)
      go_wp2_with fail
      go_region
      all_goals go_wp2_with fail
      all_goals
        have hcz := cells_set8 HC02.out 0
        have hbz := HB2.out.grown (grown_set8 (W := w3) (g := g0) (.int .i64 0) (.int .i64 0) (.int .i64 0) (.int .i64 0) (.int .i64 0) (.slice none 0 0) (.slice none 0 0) (.slice none 0 0)) HB2.out.size (fun k hk => by cases hk; exact Nat.le_of_eq HG.out.symm)
        clear b0 b1 b2 b3 b4 b5 b6 b7 f0 f1 f2 f3 f4 f5 f6 f7
        generalize ((((((((w3.setCell ⟨g0, 0, none⟩ (.int .i64 0)).setCell ⟨g0, 1, none⟩ (.int .i64 0)).setCell ⟨g0, 2, none⟩ (.int .i64 0)).setCell ⟨g0, 3, none⟩ (.int .i64 0)).setCell ⟨g0, 4, none⟩ (.int .i64 0)).setCell ⟨g0, 5, none⟩ (.slice none 0 0)).setCell ⟨g0, 6, none⟩ (.slice none 0 0)).setCell ⟨g0, 7, none⟩ (.slice none 0 0)) = W9 at hcz hbz ⊢
        replace hcz : CellsAt W9.drew g0 26 (acCells 0 0 0 0 0 nilS nilS nilS) := hcz
        obtain ⟨b0, b1, b2, b3, b4, b5, b6, b7⟩ : W9.drew.cell? ⟨g0, 0, none⟩ = some (.int .i64 0) ∧ W9.drew.cell? ⟨g0, 1, none⟩ = some (.int .i64 0) ∧ W9.drew.cell? ⟨g0, 2, none⟩ = some (.int .i64 0) ∧ W9.drew.cell? ⟨g0, 3, none⟩ = some (.int .i64 0) ∧ W9.drew.cell? ⟨g0, 4, none⟩ = some (.int .i64 0) ∧ W9.drew.cell? ⟨g0, 5, none⟩ = some nilS ∧ W9.drew.cell? ⟨g0, 6, none⟩ = some nilS ∧ W9.drew.cell? ⟨g0, 7, none⟩ = some nilS := ⟨hcz.cell 0 rfl, hcz.cell 1 rfl, hcz.cell 2 rfl, hcz.cell 3 rfl, hcz.cell 4 rfl, hcz.cell 5 rfl, hcz.cell 6 rfl, hcz.cell 7 rfl⟩
        exact bodyPost_ret (v := .tuple #[.agg (acCells 0 0 0 0 0 nilS nilS nilS), .iface 157 (.pointer (some aF))]) (by simp [results, Tryz.results17, go_sem, b0, b1, b2, b3, b4, b5, b6, b7, acCells]) rfl ⟨ParseP.bad HN.out, hbz.drew⟩
    · have hp0 : 1 ≤ k ∧ k ≤ 11 := by omega
      have wn : (strB (wordOf k)).toList.isEmpty = false := word_ne hp0
      have HPE2 : Hid (parseA line = match fillA k ws.tail with | some a => if rightA a then some a else none | none => none) := by show _ = _; rw [HPE.out, if_neg hk0]
      have HFI2 := Lib.hid (HFI.out hp0)
      clear HPE HFI hk0 hp0 hkb
      go_wp2_with fail
      refine HWD.out.mono ?_
      rintro e w3 ⟨rfl, rfl⟩
      clear HWD
      go_wp2_with fail
      refine HFI2.out.mono ?_
      rintro e w4 ⟨rfl, ⟨a, b, c, n, vb, vk, vt, bs, keep, torn, ws', bad', hc4, hact, hrd4, hno, hso⟩, hgr4⟩
      obtain ⟨q1, q2, acc, q3, q4, q5⟩ := hact
      obtain ⟨ab, cb, rfl, -, -⟩ := q1.row.gen.shape
      obtain ⟨ak, ck, rfl, -, -⟩ := (OwnL.row q2).shape
      obtain ⟨at', ct, rfl, -, -⟩ := (OwnS.row q3).shape tqC_len
      have hact : ActR w3.heap.size w4 (.slice ab bs.length cb) (.slice ak keep.length ck) (.slice at' acc.length ct) bs keep torn := ⟨q1, q2, acc, q3, q4, q5⟩
      clear q1 q2 q3 q4 q5
      obtain ⟨gg1, gg2, gg3, gg4⟩ := HGG.out
      have hb4 : Below w.heap.size w w4 := hgr4.below HB2.out (fun i hi => by
        rcases List.mem_cons.1 hi with rfl | hi
        · exact HRW.out
        · rw [List.mem_singleton] at hi; rw [hi]; exact gg3) HB2.out.size
      have hc04 : CellsAt w4 g0 26 (acCells 0 0 0 0 0 nilS nilS nilS) := HC02.out.grew hgr4 (by simp; exact ⟨gg2, gg1⟩)
      have hef4 : w4.cell? ⟨1, 0, none⟩ = some (.iface 157 (.pointer (some aF))) := (HVV.out w4 hb4).form
      have HB4 := Lib.hid hb4
      have HC4 := Lib.hid hc4
      have HC04 := Lib.hid hc04
      have HACT := Lib.hid hact
      have HNO := Lib.hid hno
      have HSO := Lib.hid hso
      have HSZ4 := Lib.hid hgr4.size
      obtain ⟨wa, wc, hrc, hrr, -⟩ := hrd4
      have e0 := hrc.cell 0 (v := .slice wa ws'.length wc) rfl
      have e1 := hrc.cell 1 (v := .bool bad') rfl
      obtain ⟨L, hL⟩ : ∃ L, L = ws'.length := ⟨_, rfl⟩
      have hLb : L ≤ maxLen := by
        obtain ⟨_, _, hv, hm, _⟩ := hrr.shape
        rw [hL]; exact hm
      have HEL : Hid (ws'.isEmpty = decide (L = 0)) := by show _ = _; rw [hL]; cases ws' <;> rfl
      rw [← hL] at e0
      clear hc4 hact hno hso hb4 hc04 hrc hrr hgr4 HFI2 hef hL
      cases bad' with
      | true =>
        have HN : Hid (parseA line = none) := by
          show _ = _
          have h1 := HNO.out
          rw [HPE2.out]
          cases hq : fillA k ws.tail with
          | none => rfl
          | some A => rw [hq] at h1; cases h1
        clear HPE2 HNO HSO hLb
        obtain ⟨b0, b1, b2, b3, b4, b5, b6, b7⟩ : w4.cell? ⟨g0, 0, none⟩ = some (.int .i64 0) ∧ w4.cell? ⟨g0, 1, none⟩ = some (.int .i64 0) ∧ w4.cell? ⟨g0, 2, none⟩ = some (.int .i64 0) ∧ w4.cell? ⟨g0, 3, none⟩ = some (.int .i64 0) ∧ w4.cell? ⟨g0, 4, none⟩ = some (.int .i64 0) ∧ w4.cell? ⟨g0, 5, none⟩ = some nilS ∧ w4.cell? ⟨g0, 6, none⟩ = some nilS ∧ w4.cell? ⟨g0, 7, none⟩ = some nilS := ⟨HC04.out.cell 0 rfl, HC04.out.cell 1 rfl, HC04.out.cell 2 rfl, HC04.out.cell 3 rfl, HC04.out.cell 4 rfl, HC04.out.cell 5 rfl, HC04.out.cell 6 rfl, HC04.out.cell 7 rfl⟩
        have f0 := HC04.out.free 0
        have f1 := HC04.out.free 1
        have f2 := HC04.out.free 2
        have f3 := HC04.out.free 3
        have f4 := HC04.out.free 4
        have f5 := HC04.out.free 5
        have f6 := HC04.out.free 6
        have f7 := HC04.out.free 7
        go_wp2_with fail
        go_region
        all_goals go_wp2_with fail
        all_goals
          have hcz := cells_set8 HC04.out 0
          have hbz := HB4.out.grown (grown_set8 (W := w4) (g := g0) (.int .i64 0) (.int .i64 0) (.int .i64 0) (.int .i64 0) (.int .i64 0) (.slice none 0 0) (.slice none 0 0) (.slice none 0 0)) HB4.out.size (fun k hk => by cases hk; exact Nat.le_of_eq HG.out.symm)
          clear b0 b1 b2 b3 b4 b5 b6 b7 f0 f1 f2 f3 f4 f5 f6 f7
          generalize ((((((((w4.setCell ⟨g0, 0, none⟩ (.int .i64 0)).setCell ⟨g0, 1, none⟩ (.int .i64 0)).setCell ⟨g0, 2, none⟩ (.int .i64 0)).setCell ⟨g0, 3, none⟩ (.int .i64 0)).setCell ⟨g0, 4, none⟩ (.int .i64 0)).setCell ⟨g0, 5, none⟩ (.slice none 0 0)).setCell ⟨g0, 6, none⟩ (.slice none 0 0)).setCell ⟨g0, 7, none⟩ (.slice none 0 0)) = W9 at hcz hbz ⊢
          replace hcz : CellsAt W9.drew g0 26 (acCells 0 0 0 0 0 nilS nilS nilS) := hcz
          obtain ⟨b0, b1, b2, b3, b4, b5, b6, b7⟩ : W9.drew.cell? ⟨g0, 0, none⟩ = some (.int .i64 0) ∧ W9.drew.cell? ⟨g0, 1, none⟩ = some (.int .i64 0) ∧ W9.drew.cell? ⟨g0, 2, none⟩ = some (.int .i64 0) ∧ W9.drew.cell? ⟨g0, 3, none⟩ = some (.int .i64 0) ∧ W9.drew.cell? ⟨g0, 4, none⟩ = some (.int .i64 0) ∧ W9.drew.cell? ⟨g0, 5, none⟩ = some nilS ∧ W9.drew.cell? ⟨g0, 6, none⟩ = some nilS ∧ W9.drew.cell? ⟨g0, 7, none⟩ = some nilS := ⟨hcz.cell 0 rfl, hcz.cell 1 rfl, hcz.cell 2 rfl, hcz.cell 3 rfl, hcz.cell 4 rfl, hcz.cell 5 rfl, hcz.cell 6 rfl, hcz.cell 7 rfl⟩
          exact bodyPost_ret (v := .tuple #[.agg (acCells 0 0 0 0 0 nilS nilS nilS), .iface 157 (.pointer (some aF))]) (by simp [results, Tryz.results17, go_sem, b0, b1, b2, b3, b4, b5, b6, b7, acCells]) rfl ⟨ParseP.bad HN.out, hbz.drew⟩
      | false =>
        by_cases h0 : L = 0
        · obtain ⟨A, hA⟩ : ∃ A, fillA k ws.tail = some A := by
            have h1 := HNO.out
            rw [HEL.out, decide_eq_true h0] at h1
            cases hq : fillA k ws.tail with
            | none => rw [hq] at h1; cases h1
            | some A => exact ⟨A, rfl⟩
          have hAe := HSO.out A hA
          have hfl := HFL.out A hA
          rw [hAe] at hfl
          have HPA : Hid (parseA line = if rightA ⟨k, a, b, c, n, bs, keep, torn⟩ then some ⟨k, a, b, c, n, bs, keep, torn⟩ else none) := by show _ = _; rw [HPE2.out, hA, hAe]
          have HRT := Lib.hid (right_any (k := k) (a := a) (b := b) (c := c) (n := n) (HVV.out w4 HB4.out).words hfl.1 hfl.2 HACT.out.toI)
          have q0 : decide (0 < L) = false := decide_eq_false (by omega)
          generalize rightA ⟨k, a, b, c, n, bs, keep, torn⟩ = RT at HPA HRT
          obtain ⟨d0, d1, d2, d3, d4, d5, d6, d7⟩ : w4.cell? ⟨g, 0, none⟩ = some (.int .i64 k) ∧ w4.cell? ⟨g, 1, none⟩ = some (.int .i64 a) ∧ w4.cell? ⟨g, 2, none⟩ = some (.int .i64 b) ∧ w4.cell? ⟨g, 3, none⟩ = some (.int .i64 c) ∧ w4.cell? ⟨g, 4, none⟩ = some (.int .i64 n) ∧ w4.cell? ⟨g, 5, none⟩ = some (.slice ab bs.length cb) ∧ w4.cell? ⟨g, 6, none⟩ = some (.slice ak keep.length ck) ∧ w4.cell? ⟨g, 7, none⟩ = some (.slice at' acc.length ct) := ⟨HC4.out.cell 0 rfl, HC4.out.cell 1 rfl, HC4.out.cell 2 rfl, HC4.out.cell 3 rfl, HC4.out.cell 4 rfl, HC4.out.cell 5 rfl, HC4.out.cell 6 rfl, HC4.out.cell 7 rfl⟩
          clear HPE2 HNO HSO hLb hA hAe hfl h0
          go_wp2_with fail
          refine HRT.out.mono ?_
          rintro e w5 ⟨rfl, hb5⟩
          have hb5w : Below w.heap.size w w5 := HB4.out.trans (hb5.mono HB4.out.size)
          have hc05 := HC04.out.stays hb5
          have hc5 := HC4.out.stays hb5
          have hef4 : w5.cell? ⟨1, 0, none⟩ = some (.iface 157 (.pointer (some aF))) := (HVV.out w5 hb5w).form
          have HB5 := Lib.hid hb5w
          have HC05 := Lib.hid hc05
          have HC5 := Lib.hid hc5
          have HACT5 := Lib.hid (HACT.out.stays hb5)
          clear HRT hb5 hb5w hc05 hc5 d0 d1 d2 d3 d4 d5 d6 d7 e0 e1
          cases RT with
          | false =>
            have HN : Hid (parseA line = none) := by show _ = _; rw [HPA.out]; rfl
            clear HPA
            obtain ⟨b0, b1, b2, b3, b4, b5, b6, b7⟩ : w5.cell? ⟨g0, 0, none⟩ = some (.int .i64 0) ∧ w5.cell? ⟨g0, 1, none⟩ = some (.int .i64 0) ∧ w5.cell? ⟨g0, 2, none⟩ = some (.int .i64 0) ∧ w5.cell? ⟨g0, 3, none⟩ = some (.int .i64 0) ∧ w5.cell? ⟨g0, 4, none⟩ = some (.int .i64 0) ∧ w5.cell? ⟨g0, 5, none⟩ = some nilS ∧ w5.cell? ⟨g0, 6, none⟩ = some nilS ∧ w5.cell? ⟨g0, 7, none⟩ = some nilS := ⟨HC05.out.cell 0 rfl, HC05.out.cell 1 rfl, HC05.out.cell 2 rfl, HC05.out.cell 3 rfl, HC05.out.cell 4 rfl, HC05.out.cell 5 rfl, HC05.out.cell 6 rfl, HC05.out.cell 7 rfl⟩
            have f0 := HC05.out.free 0
            have f1 := HC05.out.free 1
            have f2 := HC05.out.free 2
            have f3 := HC05.out.free 3
            have f4 := HC05.out.free 4
            have f5 := HC05.out.free 5
            have f6 := HC05.out.free 6
            have f7 := HC05.out.free 7
            go_wp2_with fail
            go_region
            all_goals go_wp2_with fail
            all_goals
              have hcz := cells_set8 HC05.out 0
              have hbz := HB5.out.grown (grown_set8 (W := w5) (g := g0) (.int .i64 0) (.int .i64 0) (.int .i64 0) (.int .i64 0) (.int .i64 0) (.slice none 0 0) (.slice none 0 0) (.slice none 0 0)) HB5.out.size (fun k hk => by cases hk; exact Nat.le_of_eq HG.out.symm)
              clear b0 b1 b2 b3 b4 b5 b6 b7 f0 f1 f2 f3 f4 f5 f6 f7
              generalize ((((((((w5.setCell ⟨g0, 0, none⟩ (.int .i64 0)).setCell ⟨g0, 1, none⟩ (.int .i64 0)).setCell ⟨g0, 2, none⟩ (.int .i64 0)).setCell ⟨g0, 3, none⟩ (.int .i64 0)).setCell ⟨g0, 4, none⟩ (.int .i64 0)).setCell ⟨g0, 5, none⟩ (.slice none 0 0)).setCell ⟨g0, 6, none⟩ (.slice none 0 0)).setCell ⟨g0, 7, none⟩ (.slice none 0 0)) = W9 at hcz hbz ⊢
              replace hcz : CellsAt W9.drew g0 26 (acCells 0 0 0 0 0 nilS nilS nilS) := hcz
              obtain ⟨b0, b1, b2, b3, b4, b5, b6, b7⟩ : W9.drew.cell? ⟨g0, 0, none⟩ = some (.int .i64 0) ∧ W9.drew.cell? ⟨g0, 1, none⟩ = some (.int .i64 0) ∧ W9.drew.cell? ⟨g0, 2, none⟩ = some (.int .i64 0) ∧ W9.drew.cell? ⟨g0, 3, none⟩ = some (.int .i64 0) ∧ W9.drew.cell? ⟨g0, 4, none⟩ = some (.int .i64 0) ∧ W9.drew.cell? ⟨g0, 5, none⟩ = some nilS ∧ W9.drew.cell? ⟨g0, 6, none⟩ = some nilS ∧ W9.drew.cell? ⟨g0, 7, none⟩ = some nilS := ⟨hcz.cell 0 rfl, hcz.cell 1 rfl, hcz.cell 2 rfl, hcz.cell 3 rfl, hcz.cell 4 rfl, hcz.cell 5 rfl, hcz.cell 6 rfl, hcz.cell 7 rfl⟩
              exact bodyPost_ret (v := .tuple #[.agg (acCells 0 0 0 0 0 nilS nilS nilS), .iface 157 (.pointer (some aF))]) (by simp [results, Tryz.results17, go_sem, b0, b1, b2, b3, b4, b5, b6, b7, acCells]) rfl ⟨ParseP.bad HN.out, hbz.drew⟩
          | true =>
            have HN : Hid (parseA line = some ⟨k, a, b, c, n, bs, keep, torn⟩) := by show _ = _; rw [HPA.out]; rfl
            clear HPA
            obtain ⟨d0, d1, d2, d3, d4, d5, d6, d7⟩ : w5.cell? ⟨g, 0, none⟩ = some (.int .i64 k) ∧ w5.cell? ⟨g, 1, none⟩ = some (.int .i64 a) ∧ w5.cell? ⟨g, 2, none⟩ = some (.int .i64 b) ∧ w5.cell? ⟨g, 3, none⟩ = some (.int .i64 c) ∧ w5.cell? ⟨g, 4, none⟩ = some (.int .i64 n) ∧ w5.cell? ⟨g, 5, none⟩ = some (.slice ab bs.length cb) ∧ w5.cell? ⟨g, 6, none⟩ = some (.slice ak keep.length ck) ∧ w5.cell? ⟨g, 7, none⟩ = some (.slice at' acc.length ct) := ⟨HC5.out.cell 0 rfl, HC5.out.cell 1 rfl, HC5.out.cell 2 rfl, HC5.out.cell 3 rfl, HC5.out.cell 4 rfl, HC5.out.cell 5 rfl, HC5.out.cell 6 rfl, HC5.out.cell 7 rfl⟩
            obtain ⟨b0, b1, b2, b3, b4, b5, b6, b7⟩ : w5.cell? ⟨g0, 0, none⟩ = some (.int .i64 0) ∧ w5.cell? ⟨g0, 1, none⟩ = some (.int .i64 0) ∧ w5.cell? ⟨g0, 2, none⟩ = some (.int .i64 0) ∧ w5.cell? ⟨g0, 3, none⟩ = some (.int .i64 0) ∧ w5.cell? ⟨g0, 4, none⟩ = some (.int .i64 0) ∧ w5.cell? ⟨g0, 5, none⟩ = some nilS ∧ w5.cell? ⟨g0, 6, none⟩ = some nilS ∧ w5.cell? ⟨g0, 7, none⟩ = some nilS := ⟨HC05.out.cell 0 rfl, HC05.out.cell 1 rfl, HC05.out.cell 2 rfl, HC05.out.cell 3 rfl, HC05.out.cell 4 rfl, HC05.out.cell 5 rfl, HC05.out.cell 6 rfl, HC05.out.cell 7 rfl⟩
            have f0 := HC05.out.free 0
            have f1 := HC05.out.free 1
            have f2 := HC05.out.free 2
            have f3 := HC05.out.free 3
            have f4 := HC05.out.free 4
            have f5 := HC05.out.free 5
            have f6 := HC05.out.free 6
            have f7 := HC05.out.free 7
            go_wp2_with fail
            have hcz := cells_set8' HC05.out k a b c n (.slice ab bs.length cb) (.slice ak keep.length ck) (.slice at' acc.length ct)
            have hgz := grown_set8 (W := w5) (g := g0) (.int .i64 k) (.int .i64 a) (.int .i64 b) (.int .i64 c) (.int .i64 n) (.slice ab bs.length cb) (.slice ak keep.length ck) (.slice at' acc.length ct)
            have hbz := HB5.out.grown hgz HB5.out.size (fun k hk => by cases hk; exact Nat.le_of_eq HG.out.symm)
            have hactz := HACT5.out.grown hgz (by have h1 := HC02.out.lt; exact h1)
            clear b0 b1 b2 b3 b4 b5 b6 b7 f0 f1 f2 f3 f4 f5 f6 f7 d0 d1 d2 d3 d4 d5 d6 d7 hgz
            generalize ((((((((w5.setCell ⟨g0, 0, none⟩ (.int .i64 k)).setCell ⟨g0, 1, none⟩ (.int .i64 a)).setCell ⟨g0, 2, none⟩ (.int .i64 b)).setCell ⟨g0, 3, none⟩ (.int .i64 c)).setCell ⟨g0, 4, none⟩ (.int .i64 n)).setCell ⟨g0, 5, none⟩ (.slice ab bs.length cb)).setCell ⟨g0, 6, none⟩ (.slice ak keep.length ck)).setCell ⟨g0, 7, none⟩ (.slice at' acc.length ct)) = W9 at hcz hbz hactz ⊢
            obtain ⟨b0, b1, b2, b3, b4, b5, b6, b7⟩ : W9.cell? ⟨g0, 0, none⟩ = some (.int .i64 k) ∧ W9.cell? ⟨g0, 1, none⟩ = some (.int .i64 a) ∧ W9.cell? ⟨g0, 2, none⟩ = some (.int .i64 b) ∧ W9.cell? ⟨g0, 3, none⟩ = some (.int .i64 c) ∧ W9.cell? ⟨g0, 4, none⟩ = some (.int .i64 n) ∧ W9.cell? ⟨g0, 5, none⟩ = some (.slice ab bs.length cb) ∧ W9.cell? ⟨g0, 6, none⟩ = some (.slice ak keep.length ck) ∧ W9.cell? ⟨g0, 7, none⟩ = some (.slice at' acc.length ct) := ⟨hcz.cell 0 rfl, hcz.cell 1 rfl, hcz.cell 2 rfl, hcz.cell 3 rfl, hcz.cell 4 rfl, hcz.cell 5 rfl, hcz.cell 6 rfl, hcz.cell 7 rfl⟩
            exact bodyPost_ret (v := .tuple #[.agg (acCells k a b c n (.slice ab bs.length cb) (.slice ak keep.length ck) (.slice at' acc.length ct)), .nilIface]) (by simp [results, Tryz.results17, go_sem, b0, b1, b2, b3, b4, b5, b6, b7, acCells]) rfl ⟨⟨fun A hA => (by rw [HN.out] at hA; cases hA; exact ⟨(.slice ab bs.length cb), (.slice ak keep.length ck), (.slice at' acc.length ct), rfl, hactz.mono HB2.out.size⟩), fun hA => (by rw [HN.out] at hA; cases hA)⟩, hbz⟩
        · have HN : Hid (parseA line = none) := by
            show _ = _
            have h1 := HNO.out
            rw [HEL.out, decide_eq_false h0] at h1
            rw [HPE2.out]
            cases hq : fillA k ws.tail with
            | none => rfl
            | some A => rw [hq] at h1; cases h1
          have q0 : decide (0 < L) = true := decide_eq_true (by omega)
          clear HPE2 HNO HSO hLb
          obtain ⟨b0, b1, b2, b3, b4, b5, b6, b7⟩ : w4.cell? ⟨g0, 0, none⟩ = some (.int .i64 0) ∧ w4.cell? ⟨g0, 1, none⟩ = some (.int .i64 0) ∧ w4.cell? ⟨g0, 2, none⟩ = some (.int .i64 0) ∧ w4.cell? ⟨g0, 3, none⟩ = some (.int .i64 0) ∧ w4.cell? ⟨g0, 4, none⟩ = some (.int .i64 0) ∧ w4.cell? ⟨g0, 5, none⟩ = some nilS ∧ w4.cell? ⟨g0, 6, none⟩ = some nilS ∧ w4.cell? ⟨g0, 7, none⟩ = some nilS := ⟨HC04.out.cell 0 rfl, HC04.out.cell 1 rfl, HC04.out.cell 2 rfl, HC04.out.cell 3 rfl, HC04.out.cell 4 rfl, HC04.out.cell 5 rfl, HC04.out.cell 6 rfl, HC04.out.cell 7 rfl⟩
          have f0 := HC04.out.free 0
          have f1 := HC04.out.free 1
          have f2 := HC04.out.free 2
          have f3 := HC04.out.free 3
          have f4 := HC04.out.free 4
          have f5 := HC04.out.free 5
          have f6 := HC04.out.free 6
          have f7 := HC04.out.free 7
          go_wp2_with fail
          go_region
          all_goals go_wp2_with fail
          all_goals
            have hcz := cells_set8 HC04.out 0
            have hbz := HB4.out.grown (grown_set8 (W := w4) (g := g0) (.int .i64 0) (.int .i64 0) (.int .i64 0) (.int .i64 0) (.int .i64 0) (.slice none 0 0) (.slice none 0 0) (.slice none 0 0)) HB4.out.size (fun k hk => by cases hk; exact Nat.le_of_eq HG.out.symm)
            clear b0 b1 b2 b3 b4 b5 b6 b7 f0 f1 f2 f3 f4 f5 f6 f7
            generalize ((((((((w4.setCell ⟨g0, 0, none⟩ (.int .i64 0)).setCell ⟨g0, 1, none⟩ (.int .i64 0)).setCell ⟨g0, 2, none⟩ (.int .i64 0)).setCell ⟨g0, 3, none⟩ (.int .i64 0)).setCell ⟨g0, 4, none⟩ (.int .i64 0)).setCell ⟨g0, 5, none⟩ (.slice none 0 0)).setCell ⟨g0, 6, none⟩ (.slice none 0 0)).setCell ⟨g0, 7, none⟩ (.slice none 0 0)) = W9 at hcz hbz ⊢
            replace hcz : CellsAt W9.drew g0 26 (acCells 0 0 0 0 0 nilS nilS nilS) := hcz
            obtain ⟨b0, b1, b2, b3, b4, b5, b6, b7⟩ : W9.drew.cell? ⟨g0, 0, none⟩ = some (.int .i64 0) ∧ W9.drew.cell? ⟨g0, 1, none⟩ = some (.int .i64 0) ∧ W9.drew.cell? ⟨g0, 2, none⟩ = some (.int .i64 0) ∧ W9.drew.cell? ⟨g0, 3, none⟩ = some (.int .i64 0) ∧ W9.drew.cell? ⟨g0, 4, none⟩ = some (.int .i64 0) ∧ W9.drew.cell? ⟨g0, 5, none⟩ = some nilS ∧ W9.drew.cell? ⟨g0, 6, none⟩ = some nilS ∧ W9.drew.cell? ⟨g0, 7, none⟩ = some nilS := ⟨hcz.cell 0 rfl, hcz.cell 1 rfl, hcz.cell 2 rfl, hcz.cell 3 rfl, hcz.cell 4 rfl, hcz.cell 5 rfl, hcz.cell 6 rfl, hcz.cell 7 rfl⟩
            exact bodyPost_ret (v := .tuple #[.agg (acCells 0 0 0 0 0 nilS nilS nilS), .iface 157 (.pointer (some aF))]) (by simp [results, Tryz.results17, go_sem, b0, b1, b2, b3, b4, b5, b6, b7, acCells]) rfl ⟨ParseP.bad HN.out, hbz.drew⟩
end Go.Proofs.YtbcpciegdmminaaGreatDoor
