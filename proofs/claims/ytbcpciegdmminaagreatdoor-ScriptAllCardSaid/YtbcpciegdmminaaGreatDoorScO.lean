/- Scripts: what an act's kind has, taken from the words (reader.fill). -/
import Derived.Test.YtbcpciegdmminaaGreatDoorScM
import Derived.Test.YtbcpciegdmminaaGreatDoorScP
namespace Go.Proofs.YtbcpciegdmminaaGreatDoor
open Go Go.RowKit
set_option linter.unusedVariables false
/-- an act's cells -/
def acCells (k a b c n : Int) (vb vk vt : Value) : Array Value := #[.int .i64 k, .int .i64 a, .int .i64 b, .int .i64 c, .int .i64 n, vb, vk, vt]
/-- what the rows of an act hold; they lie behind B -/
def ActR (B : Nat) (w : World) (vb vk vt : Value) (bs : Bs) (keep : List Int) (torn : List (Int × Bs)) : Prop :=
  OwnB B w vb bs ∧ OwnL 3 IV B w vk keep ∧ ∃ acc : List TQ, OwnS 57 2 tqC B w vt acc ∧ (∀ y ∈ acc, RowB w (tqV y) y.1.2 ∧ ∀ q, (tqV y).ownBlock = some q → B ≤ q) ∧ acc.map Prod.fst = torn
theorem ActR.nil (B : Nat) (w : World) : ActR B w (.slice none 0 0) (.slice none 0 0) (.slice none 0 0) [] [] [] := ⟨OwnB.nil _ _, OwnL.nil _ _, [], OwnS.nil _ _, fun y hy => (by cases hy), rfl⟩
theorem ActR.grown {B g : Nat} {w w' : World} {vb vk vt : Value} {bs : Bs} {keep : List Int} {torn : List (Int × Bs)} (h : ActR B w vb vk vt bs keep torn) (hg : w.grownBy w' (some g)) (hB : g < B) : ActR B w' vb vk vt bs keep torn := by
  obtain ⟨h1, h2, acc, h3, h4, h5⟩ := h
  refine ⟨own_grownS h1 hg (fun k hk e => ?_), own_grownS h2 hg (fun k hk e => ?_), acc, own_grownS h3 hg (fun k hk e => ?_), fun y hy => ⟨rowB_kept (h4 y hy).1 hg (fun q hq e => ?_), (h4 y hy).2⟩, h5⟩
  · have := (World.ownsRow.lt h1 k hk).1; have := Option.some.inj e; omega
  · have := (World.ownsRow.lt h2 k hk).1; have := Option.some.inj e; omega
  · have := (World.ownsRow.lt h3 k hk).1; have := Option.some.inj e; omega
  · have := (h4 y hy).2 q hq; have := Option.some.inj e; omega
/-- what is filled: the act's cells, the reader, and what the words tell -/
def FillP (B r g : Nat) (k : Int) (ws : List Bs) (w' : World) : Prop :=
  ∃ (a b c n : Int) (vb vk vt : Value) (bs : Bs) (keep : List Int) (torn : List (Int × Bs)) (ws' : List Bs) (bad' : Bool),
    CellsAt w' g 26 (acCells k a b c n vb vk vt) ∧ ActR B w' vb vk vt bs keep torn ∧ RD w' r ws' bad' ∧ (fillA k ws).isNone = (bad' || !ws'.isEmpty) ∧ ∀ A, fillA k ws = some A → A = ⟨k, a, b, c, n, bs, keep, torn⟩
theorem cells_grown {w w' : World} {r g : Nat} {T : TypeId} {cs : Array Value} (h : CellsAt w g T cs) (hg : w.grownBy w' (some r)) (hne : r ≠ g) : CellsAt w' g T cs := h.grown hg (fun e => hne (Option.some.inj e))
/-- a moment of filling: the reader, the variables, the act's cells, what may have turned since -/
structure FSt (w0 w : World) (aS aR : Addr) (r g : Nat) (ws : List Bs) (bad : Bool) (cs : Array Value) : Prop where
  rd : RD w r ws bad
  vars : VarsS aS aR w
  cells : CellsAt w g 26 cs
  grew : Grew [r, g] w0 w
  rg : r < g
  old : g < w0.heap.size
section
variable {w0 w w' : World} {aS aR : Addr} {r g : Nat} {ws ws' : List Bs} {bad bad' : Bool} {cs : Array Value}
theorem FSt.step (h : FSt w0 w aS aR r g ws bad cs) (hr : RD w' r ws' bad') (hg : w.grownBy w' (some r)) : FSt w0 w' aS aR r g ws' bad' cs :=
  ⟨hr, h.vars.grown h.rd hg, cells_grown h.cells hg (Nat.ne_of_lt h.rg), h.grew.grown hg (fun i hi => .inl (by rw [← Option.some.inj hi]; simp)), h.rg, h.old⟩
theorem FSt.next (h : FSt w0 w aS aR r g ws bad cs) (hl : ws.length ≤ 1000000) : Calls Tryz.prog 38 #[.pointer (some ⟨r, 0, none⟩)] w fun e w' => e = .returned (.string (strB (ws.headD []))) ∧ FSt w0 w' aS aR r g ws.tail (bad || ws.isEmpty) cs ∧ w.grownBy w' (some r) :=
  (next_any h.rd (by omega)).mono fun e w' ⟨h1, h2, h3⟩ => ⟨h1, h.step h2 h3, h3⟩
theorem FSt.must (h : FSt w0 w aS aR r g ws bad cs) (hl : ws.length ≤ 1000000) (s : Bs) : Calls Tryz.prog 60 #[.pointer (some ⟨r, 0, none⟩), .string (strB s)] w fun e w' => e = .returned (.tuple #[]) ∧ FSt w0 w' aS aR r g ws.tail (decide (ws.headD [] ≠ s) || (bad || ws.isEmpty)) cs ∧ w.grownBy w' (some r) :=
  (must_any h.rd (by omega) s).mono fun e w' ⟨h1, h2, h3⟩ => ⟨h1, h.step h2 h3, h3⟩
theorem FSt.number (h : FSt w0 w aS aR r g ws bad cs) (s : Bs) (hs : s.length ≤ 1000000) : Calls Tryz.prog 58 #[.pointer (some ⟨r, 0, none⟩), .string (strB s)] w fun e w' => e = .returned (.int .i64 ((numO s).getD 0)) ∧ FSt w0 w' aS aR r g ws (bad || (numO s).isNone) cs ∧ w.grownBy w' (some r) :=
  (numberR h.rd h.vars s hs).mono fun e w' ⟨h1, h2, h3⟩ => ⟨h1, h.step h2 h3, h3⟩
theorem FSt.policy (h : FSt w0 w aS aR r g ws bad cs) (s : Bs) : Calls Tryz.prog 59 #[.pointer (some ⟨r, 0, none⟩), .string (strB s)] w fun e w' => e = .returned (.int .i64 ((polN s).getD 0)) ∧ FSt w0 w' aS aR r g ws (bad || (polN s).isNone) cs ∧ w.grownBy w' (some r) :=
  (policy_any h.rd s).mono fun e w' ⟨h1, h2, h3⟩ => ⟨h1, h.step h2 h3, h3⟩
theorem FSt.bytes (h : FSt w0 w aS aR r g ws bad cs) (s : Bs) (hs : s.length ≤ 1000000) : Calls Tryz.prog 57 #[.pointer (some ⟨r, 0, none⟩), .string (strB s)] w fun e w' => ∃ v, e = .returned v ∧ OwnB w.heap.size w' v ((unB s).getD []) ∧ FSt w0 w' aS aR r g ws (bad || (unB s).isNone) cs ∧ w.grownBy w' (some r) :=
  (bytes_any h.rd s hs).mono fun e w' ⟨v, h1, ho, h2, h3⟩ => ⟨v, h1, ho, h.step h2 h3, h3⟩
theorem FSt.set (h : FSt w0 w aS aR r g ws bad cs) (j : Nat) (u : Value) (hj : j ≠ 0) : FSt w0 (w.setCell ⟨g, j, none⟩ u) aS aR r g ws bad (cs.setIfInBounds j u) := by
  have hgr : w.grownBy (w.setCell ⟨g, j, none⟩ u) (some g) := grownBy_setCell (grownBy_refl _ _) _ (.inl rfl) _
  refine ⟨h.rd.kept hgr (fun q hq => by rw [← Option.some.inj hq]; exact h.rg), ?_, h.cells.set j u, h.grew.setCell (.inl (by simp)) u, h.rg, h.old⟩
  obtain ⟨h1, h2, m, h3⟩ := h.vars
  have ne : ∀ x : Nat, (⟨g, j, none⟩ : Addr) ≠ ⟨x, 0, none⟩ := fun x e => hj (congrArg Addr.off e)
  exact ⟨(World.cell?_setCell_other _ _ _ _ (ne _)).trans h1, (World.cell?_setCell_other _ _ _ _ (ne _)).trans h2, m, (World.cell?_setCell_other _ _ _ _ (ne _)).trans h3⟩
theorem FSt.start (hr : RD w r ws bad) (hv : VarsS aS aR w) (hc : CellsAt w g 26 cs) (hrg : r < g) : FSt w w aS aR r g ws bad cs := ⟨hr, hv, hc, Grew.refl _ _, hrg, hc.lt⟩
end
abbrev nilS : Value := .slice none 0 0
section
variable {w : World} {aS aR : Addr} {r g : Nat} {ws : List Bs}
abbrev FillGoal (w : World) (r g : Nat) (k : Int) (ws : List Bs) : Prop := Calls Tryz.prog 39 #[.pointer (some ⟨r, 0, none⟩), .pointer (some ⟨g, 0, none⟩)] w fun e w' => e = .returned (.tuple #[]) ∧ FillP w.heap.size r g k ws w' ∧ Grew [r, g] w w'
theorem hd_le {N : Nat} (ws : List Bs) (h : ∀ x ∈ ws, x.length ≤ N) : (ws.headD []).length ≤ N := by cases ws with | nil => simp | cons x t => exact h x (by simp)
theorem tl_le {N : Nat} (ws : List Bs) (h : ∀ x ∈ ws, x.length ≤ N) : ∀ x ∈ ws.tail, x.length ≤ N := fun x hx => h x (List.mem_of_mem_tail hx)
theorem tl_len {N : Nat} (ws : List Bs) (h : ws.length ≤ N) : ws.tail.length ≤ N := by rw [List.length_tail]; omega
/-- what is left to show where no row was made -/
theorem fillP_of {k a b c n : Int} {ws' : List Bs} {bad : Bool} {W : World} (h : FSt w W aS aR r g ws' bad (acCells k a b c n nilS nilS nilS)) (hp : (fillA k ws).isNone = (bad || !ws'.isEmpty) ∧ ∀ A, fillA k ws = some A → A = ⟨k, a, b, c, n, [], [], []⟩) : FillP w.heap.size r g k ws W ∧ Grew [r, g] w W :=
  ⟨⟨a, b, c, n, nilS, nilS, nilS, [], [], [], ws', bad, h.cells, ActR.nil _ _, h.rd, hp.1, hp.2⟩, h.grew⟩
set_option maxRecDepth 100000 in
set_option maxHeartbeats 1000000 in
theorem fill_a {k : Int} (hk : k = 3 ∨ k = 6 ∨ k = 11) (h : FSt w w aS aR r g ws false (acCells k 0 0 0 0 nilS nilS nilS)) (hl : ws.length ≤ 1000000) (hle : ∀ x ∈ ws, x.length ≤ 1000000) : FillGoal w r g k ws := by
  obtain ⟨s1, hs1⟩ : ∃ s, s = ws.headD [] := ⟨_, rfl⟩
  have HP := Lib.hid (plain_a hk ws)
  have HN1 := Lib.hid (h.next hl)
  have HL1 := Lib.hid (hd_le ws hle)
  rw [← hs1] at HN1 HL1 HP
  obtain ⟨n1, hn1⟩ : ∃ n, n = (numO s1).getD 0 := ⟨_, rfl⟩
  rw [← hn1] at HP
  have c0 := h.cells.cell 0 (v := .int .i64 k) rfl
  clear hs1 h hle hl
  rcases hk with rfl | rfl | rfl
  all_goals
    go_enter Tryz.func39, Tryz.ntmps39
    go_wp2_with fail
    refine HN1.out.mono ?_
    rintro e wa1 ⟨rfl, hf, hg⟩
    have HM1 := Lib.hid (hf.number s1 HL1.out)
    clear hf hg HN1
    go_wp2_with fail
    refine HM1.out.mono ?_
    rintro e wb1 ⟨rfl, hf, hg⟩
    rw [← hn1]
    have d0 := hf.cells.cell 1 (v := .int .i64 0) rfl
    have d1 := hf.cells.free 1
    have HF := Lib.hid (hf.set 1 (.int .i64 n1) (by decide))
    clear hf hg HM1 c0 hn1
    go_wp2_with fail
    go_end0
    exact ⟨rfl, fillP_of HF.out HP.out⟩
set_option maxRecDepth 100000 in
set_option maxHeartbeats 1000000 in
theorem fill_1 (h : FSt w w aS aR r g ws false (acCells 1 0 0 0 0 nilS nilS nilS)) (hl : ws.length ≤ 1000000) (hle : ∀ x ∈ ws, x.length ≤ 1000000) : FillGoal w r g 1 ws := by
  obtain ⟨s1, hs1⟩ : ∃ s, s = ws.headD [] := ⟨_, rfl⟩
  have HP := Lib.hid (plain_1 ws)
  have HN1 := Lib.hid (h.next hl)
  have HL1 := Lib.hid (hd_le ws hle)
  rw [← hs1] at HN1 HL1 HP
  obtain ⟨n1, hn1⟩ : ∃ n, n = (unB s1).getD [] := ⟨_, rfl⟩
  rw [← hn1] at HP
  have c0 := h.cells.cell 0 (v := .int .i64 1) rfl
  clear hs1 h hle hl
  go_enter Tryz.func39, Tryz.ntmps39
  go_wp2_with fail
  refine HN1.out.mono ?_
  rintro e wa1 ⟨rfl, hf, hg⟩
  have HM1 := Lib.hid (hf.bytes s1 HL1.out)
  have HS1 := Lib.hid hf.grew.size
  clear hf hg HN1
  go_wp2_with fail
  refine HM1.out.mono ?_
  rintro e wb1 ⟨v, rfl, ho, hf, hg⟩
  rw [← hn1] at ho
  obtain ⟨av, cv, rfl, -, -⟩ := ho.row.gen.shape
  have d0 := hf.cells.cell 5 (v := nilS) rfl
  have d1 := hf.cells.free 5
  have hF := hf.set 5 (.slice av n1.length cv) (by decide)
  have hgs : wb1.grownBy (wb1.setCell ⟨g, 5, none⟩ (.slice av n1.length cv)) (some g) := grownBy_setCell (grownBy_refl _ _) _ (.inl rfl) _
  have hlt := hf.old
  have hoF := own_grownS (own_mono ho HS1.out) hgs (fun k hk e => by
    have h1 := (World.ownsRow.lt ho k hk).1
    have h2 := Option.some.inj e
    have h3 := HS1.out
    omega)
  have HOF := Lib.hid hoF
  have HF := Lib.hid hF
  clear hf hg HM1 c0 hn1 ho hF hgs hlt hoF
  go_wp2_with fail
  go_end0
  obtain ⟨p1, p2⟩ := HP.out
  exact ⟨rfl, ⟨0, 0, 0, 0, _, nilS, nilS, n1, [], [], ws.tail, _, HF.out.cells, ⟨HOF.out, OwnL.nil _ _, [], OwnS.nil _ _, fun y hy => (by cases hy), rfl⟩, HF.out.rd, p1, p2⟩, HF.out.grew⟩
set_option maxRecDepth 100000 in
set_option maxHeartbeats 1000000 in
theorem fill_5 (h : FSt w w aS aR r g ws false (acCells 5 0 0 0 0 nilS nilS nilS)) (hl : ws.length ≤ 1000000) (hle : ∀ x ∈ ws, x.length ≤ 1000000) : FillGoal w r g 5 ws := by
  have HP := Lib.hid (plain_5 ws)
  have HN1 := Lib.hid (h.next hl)
  have HL1 := Lib.hid (hd_le _ (hle))
  have HL2 := Lib.hid (hd_le _ (tl_le _ hle))
  have HQ2 := Lib.hid (tl_len _ hl)
  obtain ⟨t1, ht1⟩ : ∃ t, t = ws.tail := ⟨_, rfl⟩
  obtain ⟨s1, hs1⟩ : ∃ s, s = ws.headD [] := ⟨_, rfl⟩
  obtain ⟨n1, hn1⟩ : ∃ n, n = (numO s1).getD 0 := ⟨_, rfl⟩
  obtain ⟨t2, ht2⟩ : ∃ t, t = t1.tail := ⟨_, rfl⟩
  obtain ⟨s2, hs2⟩ : ∃ s, s = t1.headD [] := ⟨_, rfl⟩
  obtain ⟨n2, hn2⟩ : ∃ n, n = (numO s2).getD 0 := ⟨_, rfl⟩
  rw [← hs1] at HP HL1 HN1
  rw [← ht1] at HP HL2 HQ2 HN1
  rw [← hn1] at HP
  rw [← hs2] at HP HL2
  rw [← ht2] at HP
  rw [← hn2] at HP
  have c0 := h.cells.cell 0 (v := .int .i64 5) rfl
  clear h hle hl
  have Hht1 := Lib.hid ht1
  have Hhs1 := Lib.hid hs1
  have Hhn1 := Lib.hid hn1
  have Hht2 := Lib.hid ht2
  have Hhs2 := Lib.hid hs2
  have Hhn2 := Lib.hid hn2
  clear ht1 hs1 hn1 ht2 hs2 hn2
  go_enter Tryz.func39, Tryz.ntmps39
  go_wp2_with fail
  refine HN1.out.mono ?_
  rintro e wa1 ⟨rfl, hf, hg⟩
  have HM1 := Lib.hid (hf.number s1 HL1.out)
  clear hf hg HN1
  go_wp2_with fail
  refine HM1.out.mono ?_
  rintro e wb1 ⟨rfl, hf, hg⟩
  rw [← Hhn1.out]
  have HN2 := Lib.hid (hf.next HQ2.out)
  rw [← Hhs2.out, ← Hht2.out] at HN2
  clear hf hg HM1
  go_wp2_with fail
  refine HN2.out.mono ?_
  rintro e wa2 ⟨rfl, hf, hg⟩
  have HM2 := Lib.hid (hf.number s2 HL2.out)
  clear hf hg HN2
  go_wp2_with fail
  refine HM2.out.mono ?_
  rintro e wb2 ⟨rfl, hf, hg⟩
  rw [← Hhn2.out]
  have d1 := hf.cells.cell 1 (v := .int .i64 0) rfl
  have e1 := hf.cells.free 1
  have d2 := hf.cells.cell 2 (v := .int .i64 0) rfl
  have e2 := hf.cells.free 2
  have HF := Lib.hid ((hf.set 1 (.int .i64 n1) (by decide)).set 2 (.int .i64 n2) (by decide))
  clear hf hg c0 HM2
  go_wp2_with fail
  go_end0
  exact ⟨rfl, fillP_of HF.out HP.out⟩
set_option maxRecDepth 100000 in
set_option maxHeartbeats 1000000 in
theorem fill_4 (h : FSt w w aS aR r g ws false (acCells 4 0 0 0 0 nilS nilS nilS)) (hl : ws.length ≤ 1000000) (hle : ∀ x ∈ ws, x.length ≤ 1000000) : FillGoal w r g 4 ws := by
  have HP := Lib.hid (plain_4 ws)
  have HN1 := Lib.hid (h.next hl)
  have HL1 := Lib.hid (hd_le _ (hle))
  have HL2 := Lib.hid (hd_le _ (tl_le _ hle))
  have HQ2 := Lib.hid (tl_len _ hl)
  have HL3 := Lib.hid (hd_le _ (tl_le _ (tl_le _ hle)))
  have HQ3 := Lib.hid (tl_len _ (tl_len _ hl))
  have HL4 := Lib.hid (hd_le _ (tl_le _ (tl_le _ (tl_le _ hle))))
  have HQ4 := Lib.hid (tl_len _ (tl_len _ (tl_len _ hl)))
  obtain ⟨t1, ht1⟩ : ∃ t, t = ws.tail := ⟨_, rfl⟩
  obtain ⟨s1, hs1⟩ : ∃ s, s = ws.headD [] := ⟨_, rfl⟩
  obtain ⟨n1, hn1⟩ : ∃ n, n = (numO s1).getD 0 := ⟨_, rfl⟩
  obtain ⟨t2, ht2⟩ : ∃ t, t = t1.tail := ⟨_, rfl⟩
  obtain ⟨s2, hs2⟩ : ∃ s, s = t1.headD [] := ⟨_, rfl⟩
  obtain ⟨n2, hn2⟩ : ∃ n, n = (numO s2).getD 0 := ⟨_, rfl⟩
  obtain ⟨t3, ht3⟩ : ∃ t, t = t2.tail := ⟨_, rfl⟩
  obtain ⟨s3, hs3⟩ : ∃ s, s = t2.headD [] := ⟨_, rfl⟩
  obtain ⟨n3, hn3⟩ : ∃ n, n = (numO s3).getD 0 := ⟨_, rfl⟩
  obtain ⟨t4, ht4⟩ : ∃ t, t = t3.tail := ⟨_, rfl⟩
  obtain ⟨s4, hs4⟩ : ∃ s, s = t3.headD [] := ⟨_, rfl⟩
  obtain ⟨n4, hn4⟩ : ∃ n, n = (polN s4).getD 0 := ⟨_, rfl⟩
  rw [← hs1] at HP HL1 HN1
  rw [← ht1] at HP HL2 HL3 HL4 HQ2 HQ3 HQ4 HN1
  rw [← hn1] at HP
  rw [← hs2] at HP HL2
  rw [← ht2] at HP HL3 HL4 HQ3 HQ4
  rw [← hn2] at HP
  rw [← hs3] at HP HL3
  rw [← ht3] at HP HL4 HQ4
  rw [← hn3] at HP
  rw [← hs4] at HP HL4
  rw [← ht4] at HP
  rw [← hn4] at HP
  have c0 := h.cells.cell 0 (v := .int .i64 4) rfl
  clear h hle hl
  have Hht1 := Lib.hid ht1
  have Hhs1 := Lib.hid hs1
  have Hhn1 := Lib.hid hn1
  have Hht2 := Lib.hid ht2
  have Hhs2 := Lib.hid hs2
  have Hhn2 := Lib.hid hn2
  have Hht3 := Lib.hid ht3
  have Hhs3 := Lib.hid hs3
  have Hhn3 := Lib.hid hn3
  have Hht4 := Lib.hid ht4
  have Hhs4 := Lib.hid hs4
  have Hhn4 := Lib.hid hn4
  clear ht1 hs1 hn1 ht2 hs2 hn2 ht3 hs3 hn3 ht4 hs4 hn4
  go_enter Tryz.func39, Tryz.ntmps39
  go_wp2_with fail
  refine HN1.out.mono ?_
  rintro e wa1 ⟨rfl, hf, hg⟩
  have HM1 := Lib.hid (hf.number s1 HL1.out)
  clear hf hg HN1
  go_wp2_with fail
  refine HM1.out.mono ?_
  rintro e wb1 ⟨rfl, hf, hg⟩
  rw [← Hhn1.out]
  have HN2 := Lib.hid (hf.next HQ2.out)
  rw [← Hhs2.out, ← Hht2.out] at HN2
  clear hf hg HM1
  go_wp2_with fail
  refine HN2.out.mono ?_
  rintro e wa2 ⟨rfl, hf, hg⟩
  have HM2 := Lib.hid (hf.number s2 HL2.out)
  clear hf hg HN2
  go_wp2_with fail
  refine HM2.out.mono ?_
  rintro e wb2 ⟨rfl, hf, hg⟩
  rw [← Hhn2.out]
  have HN3 := Lib.hid (hf.next HQ3.out)
  rw [← Hhs3.out, ← Hht3.out] at HN3
  clear hf hg HM2
  go_wp2_with fail
  refine HN3.out.mono ?_
  rintro e wa3 ⟨rfl, hf, hg⟩
  have HM3 := Lib.hid (hf.number s3 HL3.out)
  clear hf hg HN3
  go_wp2_with fail
  refine HM3.out.mono ?_
  rintro e wb3 ⟨rfl, hf, hg⟩
  rw [← Hhn3.out]
  have d1 := hf.cells.cell 1 (v := .int .i64 0) rfl
  have e1 := hf.cells.free 1
  have d2 := hf.cells.cell 2 (v := .int .i64 0) rfl
  have e2 := hf.cells.free 2
  have d3 := hf.cells.cell 3 (v := .int .i64 0) rfl
  have e3 := hf.cells.free 3
  have HNx := Lib.hid ((((hf.set 1 (.int .i64 n1) (by decide)).set 2 (.int .i64 n2) (by decide)).set 3 (.int .i64 n3) (by decide)).next HQ4.out)
  rw [← Hhs4.out, ← Hht4.out] at HNx
  clear hf hg c0 HM3
  go_wp2_with fail
  refine HNx.out.mono ?_
  rintro e wx ⟨rfl, hf, hg⟩
  have HM4 := Lib.hid (hf.policy s4)
  clear hf hg HNx
  go_wp2_with fail
  refine HM4.out.mono ?_
  rintro e wy ⟨rfl, hf, hg⟩
  rw [← Hhn4.out]
  have d4 := hf.cells.cell 4 (v := .int .i64 0) rfl
  have e4 := hf.cells.free 4
  have HF := Lib.hid (hf.set 4 (.int .i64 n4) (by decide))
  clear hf hg HM4
  go_wp2_with fail
  go_end0
  exact ⟨rfl, fillP_of HF.out HP.out⟩
set_option maxRecDepth 100000 in
set_option maxHeartbeats 1000000 in
theorem fill_8 (h : FSt w w aS aR r g ws false (acCells 8 0 0 0 0 nilS nilS nilS)) (hl : ws.length ≤ 1000000) (hle : ∀ x ∈ ws, x.length ≤ 1000000) : FillGoal w r g 8 ws := by
  obtain ⟨s1, hs1⟩ : ∃ s, s = ws.headD [] := ⟨_, rfl⟩
  have HP := Lib.hid (plain_8 ws)
  have HN1 := Lib.hid (h.next hl)
  have HL1 := Lib.hid (hd_le ws hle)
  rw [← hs1] at HN1 HL1 HP
  obtain ⟨n1, hn1⟩ : ∃ n, n = (numO s1).getD 0 := ⟨_, rfl⟩
  rw [← hn1] at HP
  have c0 := h.cells.cell 0 (v := .int .i64 8) rfl
  clear hs1 h hle hl
  by_cases ho : s1 = offW
  · have e3 : ((strB s1).toList == [111, 102, 102]) = true := by rw [ho, strB_tl]; rfl
    have HP2 := Lib.hid (HP.out.1 ho)
    clear ho HP hn1
    go_enter Tryz.func39, Tryz.ntmps39
    go_wp2_with fail
    refine HN1.out.mono ?_
    rintro e wa1 ⟨rfl, hf, hg⟩
    have d0 := hf.cells.cell 1 (v := .int .i64 0) rfl
    have d1 := hf.cells.free 1
    have HF := Lib.hid (hf.set 1 (.int .i64 (-1)) (by decide))
    clear hf hg HN1 c0
    go_wp2_with fail
    go_end0
    exact ⟨rfl, fillP_of HF.out HP2.out⟩
  · have e3 : ((strB s1).toList == [111, 102, 102]) = false := by rw [strB_tl]; exact beq_eq_false_iff_ne.2 ho
    have HP2 := Lib.hid (HP.out.2 ho)
    clear ho HP
    go_enter Tryz.func39, Tryz.ntmps39
    go_wp2_with fail
    refine HN1.out.mono ?_
    rintro e wa1 ⟨rfl, hf, hg⟩
    have HM1 := Lib.hid (hf.number s1 HL1.out)
    clear hf hg HN1
    go_wp2_with fail
    refine HM1.out.mono ?_
    rintro e wb1 ⟨rfl, hf, hg⟩
    rw [← hn1]
    have d0 := hf.cells.cell 1 (v := .int .i64 0) rfl
    have d1 := hf.cells.free 1
    have HF := Lib.hid (hf.set 1 (.int .i64 n1) (by decide))
    clear hf hg HM1 c0 hn1
    go_wp2_with fail
    go_end0
    exact ⟨rfl, fillP_of HF.out HP2.out⟩
set_option maxRecDepth 100000 in
set_option maxHeartbeats 1000000 in
theorem fill_0 {k : Int} (h1 : k ≠ 1) (h3 : k ≠ 3) (h6 : k ≠ 6) (h11 : k ≠ 11) (h5 : k ≠ 5) (h4 : k ≠ 4) (h8 : k ≠ 8) (h9 : k ≠ 9) (h : FSt w w aS aR r g ws false (acCells k 0 0 0 0 nilS nilS nilS)) (hl : ws.length ≤ 1000000) (hle : ∀ x ∈ ws, x.length ≤ 1000000) : FillGoal w r g k ws := by
  have HP := Lib.hid (plain_0 h1 h3 h6 h11 h5 h4 h8 h9 ws)
  have c0 := h.cells.cell 0 (v := .int .i64 k) rfl
  have HF := Lib.hid h
  have t1 : (k == 1) = false := by simpa using h1
  have t3 : (k == 3) = false := by simpa using h3
  have t6 : (k == 6) = false := by simpa using h6
  have t11 : (k == 11) = false := by simpa using h11
  have t5 : (k == 5) = false := by simpa using h5
  have t4 : (k == 4) = false := by simpa using h4
  have t8 : (k == 8) = false := by simpa using h8
  have t9 : (k == 9) = false := by simpa using h9
  clear h h1 h3 h6 h11 h5 h4 h8 h9 hl hle
  go_enter Tryz.func39, Tryz.ntmps39
  go_wp2_with fail
  go_end0
  exact ⟨rfl, fillP_of HF.out HP.out⟩
theorem FSt.partsI {w0 w : World} {bad : Bool} {cs : Array Value} (h : FSt w0 w aS aR r g ws bad cs) (s : Bs) (hs : s.length ≤ 1000000) :
    Calls Tryz.prog 61 #[.string (strB s), .func (.func 58) #[.pointer (some ⟨r, 0, none⟩)] #[]] w fun e w' => ∃ (v : Value) (l : List Int), e = .returned v ∧ OwnL 3 IV w.heap.size w' v l ∧ (∀ L, getL numO s = some L → l = L) ∧ FSt w0 w' aS aR r g ws (bad || (getL numO s).isNone) cs ∧ w.grownBy w' (some r) :=
  (partsI_any h.rd h.vars s hs).mono fun e w' ⟨v, l, h1, ho, hL, h2, h3⟩ => ⟨v, l, h1, ho, hL, h.step h2 h3, h3⟩
theorem FSt.partsT {w0 w : World} {bad : Bool} {cs : Array Value} (h : FSt w0 w aS aR r g ws bad cs) (s : Bs) (hs : s.length ≤ 1000000) :
    Calls Tryz.prog 62 #[.string (strB s), .func (.func 63) #[.pointer (some ⟨r, 0, none⟩)] #[]] w fun e w' => ∃ (v : Value) (acc : List TQ), e = .returned v ∧ OwnS 57 2 tqC w.heap.size w' v acc ∧ (∀ y ∈ acc, RowB w' (tqV y) y.1.2 ∧ ∀ q, (tqV y).ownBlock = some q → w.heap.size ≤ q) ∧ (∀ L, getL getT s = some L → acc.map Prod.fst = L) ∧ FSt w0 w' aS aR r g ws (bad || (getL getT s).isNone) cs ∧ w.grownBy w' (some r) :=
  (partsT_any h.rd h.vars s hs).mono fun e w' ⟨v, acc, h1, ho, hy, hL, h2, h3⟩ => ⟨v, acc, h1, ho, hy, hL, h.step h2 h3, h3⟩
set_option maxRecDepth 100000 in
set_option maxHeartbeats 1000000 in
theorem fill_9 (h : FSt w w aS aR r g ws false (acCells 9 0 0 0 0 nilS nilS nilS)) (hl : ws.length ≤ 1000000) (hle : ∀ x ∈ ws, x.length ≤ 1000000) : FillGoal w r g 9 ws := by
  have HP := Lib.hid (plain_9 ws)
  have HN1 := Lib.hid (h.must hl keepW)
  have HQ1 := Lib.hid (tl_len _ hl)
  have HQ2 := Lib.hid (tl_len _ (tl_len _ hl))
  have HQ3 := Lib.hid (tl_len _ (tl_len _ (tl_len _ hl)))
  have HL1 := Lib.hid (hd_le _ (tl_le _ hle))
  have HL2 := Lib.hid (hd_le _ (tl_le _ (tl_le _ (tl_le _ hle))))
  obtain ⟨t1, ht1⟩ : ∃ t, t = ws.tail := ⟨_, rfl⟩
  obtain ⟨s1, hs1⟩ : ∃ s, s = t1.headD [] := ⟨_, rfl⟩
  obtain ⟨t2, ht2⟩ : ∃ t, t = t1.tail := ⟨_, rfl⟩
  obtain ⟨t3, ht3⟩ : ∃ t, t = t2.tail := ⟨_, rfl⟩
  obtain ⟨s2, hs2⟩ : ∃ s, s = t3.headD [] := ⟨_, rfl⟩
  obtain ⟨t4, ht4⟩ : ∃ t, t = t3.tail := ⟨_, rfl⟩
  rw [← ht1] at HP HQ1 HQ2 HQ3 HL1 HL2 HN1
  rw [← hs1] at HP HL1
  rw [← ht2] at HP HQ2 HQ3 HL2
  rw [← ht3] at HP HQ3 HL2
  rw [← hs2] at HP HL2
  rw [← ht4] at HP
  have c0 := h.cells.cell 0 (v := .int .i64 9) rfl
  have hk1 : strB keepW = ⟨#[107, 101, 101, 112]⟩ := rfl
  have hk2 : strB tornW = ⟨#[116, 111, 114, 110]⟩ := rfl
  rw [hk1] at HN1
  have HK2 := Lib.hid hk2
  have HOLD := Lib.hid h.old
  have HRG := Lib.hid h.rg
  have Hs1 := Lib.hid hs1
  have Ht2 := Lib.hid ht2
  have Ht3 := Lib.hid ht3
  have Hs2 := Lib.hid hs2
  have Ht4 := Lib.hid ht4
  clear h hle hl hs1 ht2 ht3 hs2 ht4 ht1 hk1 hk2
  go_enter Tryz.func39, Tryz.ntmps39
  go_wp2_with fail
  refine HN1.out.mono ?_
  rintro e wa ⟨rfl, hf, hg⟩
  have HM := Lib.hid (hf.next HQ1.out)
  rw [← Hs1.out, ← Ht2.out] at HM
  clear hf hg HN1
  go_wp2_with fail
  refine HM.out.mono ?_
  rintro e wb ⟨rfl, hf, hg⟩
  have HPI := Lib.hid (hf.partsI s1 HL1.out)
  have HSZ := Lib.hid hf.grew.size
  clear hf hg HM
  go_wp2_with fail
  refine HPI.out.mono ?_
  rintro e wc ⟨v, l, rfl, ho, hL, hf, hg⟩
  have hact : ActR w.heap.size wc nilS v nilS [] l [] := ⟨OwnB.nil _ _, own_mono ho HSZ.out, [], OwnS.nil _ _, fun y hy => (by cases hy), rfl⟩
  obtain ⟨av, cv, rfl, -, -⟩ := (OwnL.row ho).shape
  have d6 := hf.cells.cell 6 (v := nilS) rfl
  have e6 := hf.cells.free 6
  have hf6 := hf.set 6 (.slice av l.length cv) (by decide)
  have hgs : wc.grownBy (wc.setCell ⟨g, 6, none⟩ (.slice av l.length cv)) (some g) := grownBy_setCell (grownBy_refl _ _) _ (.inl rfl) _
  have HACT := Lib.hid (hact.grown hgs HOLD.out)
  have HN2 := Lib.hid (hf6.must HQ2.out tornW)
  rw [HK2.out, ← Ht3.out] at HN2
  have HL := Lib.hid hL
  clear hf hg HPI ho hL hact hf6 hgs
  go_wp2_with fail
  refine HN2.out.mono ?_
  rintro e wd ⟨rfl, hf, hg⟩
  have HM := Lib.hid (hf.next HQ3.out)
  rw [← Hs2.out, ← Ht4.out] at HM
  have HA2 := Lib.hid (HACT.out.grown hg (Nat.lt_trans HRG.out HOLD.out))
  clear hf hg HN2 HACT d6 e6
  go_wp2_with fail
  refine HM.out.mono ?_
  rintro e we ⟨rfl, hf, hg⟩
  have HPT := Lib.hid (hf.partsT s2 HL2.out)
  have HA3 := Lib.hid (HA2.out.grown hg (Nat.lt_trans HRG.out HOLD.out))
  have HSZ2 := Lib.hid hf.grew.size
  clear hf hg HM HA2
  go_wp2_with fail
  refine HPT.out.mono ?_
  rintro e wf ⟨v2, acc, rfl, ho, hy, hT, hf, hg⟩
  obtain ⟨a1, a2, -, -, -, -⟩ := HA3.out.grown hg (Nat.lt_trans HRG.out HOLD.out)
  have hact : ActR w.heap.size wf nilS (.slice av l.length cv) v2 [] l (acc.map Prod.fst) := ⟨a1, a2, acc, own_mono ho HSZ2.out, fun y h => ⟨(hy y h).1, fun q hq => Nat.le_trans HSZ2.out ((hy y h).2 q hq)⟩, rfl⟩
  obtain ⟨av2, cv2, rfl, -, -⟩ := (OwnS.row ho).shape tqC_len
  have d7 := hf.cells.cell 7 (v := nilS) rfl
  have e7 := hf.cells.free 7
  have HF := Lib.hid (hf.set 7 (.slice av2 acc.length cv2) (by decide))
  have hgs : wf.grownBy (wf.setCell ⟨g, 7, none⟩ (.slice av2 acc.length cv2)) (some g) := grownBy_setCell (grownBy_refl _ _) _ (.inl rfl) _
  have HACT := Lib.hid (hact.grown hgs HOLD.out)
  have HT := Lib.hid hT
  clear hf hg HPT ho hy hT hact hgs a1 a2 c0
  go_wp2_with fail
  go_end0
  obtain ⟨p1, p2⟩ := HP.out
  refine ⟨rfl, ⟨0, 0, 0, 0, nilS, _, _, [], l, acc.map Prod.fst, t4, _, HF.out.cells, HACT.out, HF.out.rd, p1, fun A hA => ?_⟩, HF.out.grew⟩
  obtain ⟨q1, q2, q3, q4, q5, q6, q7, q8⟩ := p2 A hA
  obtain ⟨k, a, b, c, n, bs, keep, torn⟩ := A
  simp only at q1 q2 q3 q4 q5 q6 q7 q8
  rw [q1, q2, q3, q4, q5, q6, HL.out _ q7, HT.out _ q8]
/-- what an act's kind has is taken from the words -/
theorem fill_any {k : Int} (hk : 1 ≤ k ∧ k ≤ 11) (hr : RD w r ws false) (hv : VarsS aS aR w) (hc : CellsAt w g 26 (acCells k 0 0 0 0 nilS nilS nilS)) (hrg : r < g) (hl : ws.length ≤ 1000000) (hle : ∀ x ∈ ws, x.length ≤ 1000000) : FillGoal w r g k ws := by
  have h := FSt.start hr hv hc hrg
  by_cases h3 : k = 3 ∨ k = 6 ∨ k = 11
  · exact fill_a h3 h hl hle
  · by_cases h1 : k = 1
    · subst h1; exact fill_1 h hl hle
    · by_cases h5 : k = 5
      · subst h5; exact fill_5 h hl hle
      · by_cases h4 : k = 4
        · subst h4; exact fill_4 h hl hle
        · by_cases h8 : k = 8
          · subst h8; exact fill_8 h hl hle
          · by_cases h9 : k = 9
            · subst h9; exact fill_9 h hl hle
            · exact fill_0 h1 (fun e => h3 (.inl e)) (fun e => h3 (.inr (.inl e))) (fun e => h3 (.inr (.inr e))) h5 h4 h8 h9 h hl hle
end
end Go.Proofs.YtbcpciegdmminaaGreatDoor
