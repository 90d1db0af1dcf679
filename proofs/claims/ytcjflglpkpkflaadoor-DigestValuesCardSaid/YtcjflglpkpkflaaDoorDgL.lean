/- The chapter's example of layer 30. -/
import Derived.Test.YtcjflglpkpkflaaDoorDgV
import Derived.Test.YtcjflglpkpkflaaDoorAnyK
import Derived.Test.YtcjflglpkpkflaaDoorGrew
import Derived.Test.YtcjflglpkpkflaaDoorWide
namespace Go.Proofs.YtcjflglpkpkflaaDoor
open Go Go.RowKit
set_option linter.unusedVariables false
set_option maxRecDepth 100000 in
theorem pidx_nil (f : Value) (w : World) : Calls Tryd.prog 65 #[.slice none 0 0, f] w fun e w' => e = .returned (.int .i64 (-1)) ∧ Below w.heap.size w w' := by
  go_enter Tryd.func65, Tryd.ntmps65
  go_wp2_with fail
  refine wp_loop_rounds 1 ?_
  rw [rounds_succ]
  go_wp2_with fail
  go_ret
  exact ⟨rfl, Below.refl _ _⟩
set_option maxRecDepth 100000 in
theorem pcont_nil (f : Value) (w : World) : Calls Tryd.prog 55 #[.slice none 0 0, f] w fun e w' => e = .returned (.bool false) ∧ Below w.heap.size w w' := by
  go_enter Tryd.func55, Tryd.ntmps55
  go_wp2_with fail
  refine (pidx_nil f w).mono ?_
  rintro e w1 ⟨rfl, hb⟩
  go_wp2_with fail
  go_ret
  exact ⟨rfl, hb⟩
set_option maxRecDepth 100000 in
theorem prightD_nil (w : World) : Calls Tryd.prog 41 #[.slice none 0 0] w fun e w' => e = .returned (.bool true) ∧ Below w.heap.size w w' := by
  go_enter Tryd.func41, Tryd.ntmps41
  go_wp2_with fail
  refine (pcont_nil _ w).mono ?_
  rintro e w1 ⟨rfl, hb⟩
  go_wp2_with fail
  go_ret
  exact ⟨rfl, hb⟩
set_option maxRecDepth 100000 in
set_option maxHeartbeats 1000000 in
theorem ptextD_nil (w : World) : Calls Tryd.prog 31 #[.slice none 0 0] w fun e w' => e = .returned (.string ⟨#[]⟩) ∧ Below w.heap.size w w' := by
  go_enter Tryd.func31, Tryd.ntmps31
  go_wp2_with fail
  refine (prightD_nil w).mono ?_
  rintro e w1 ⟨rfl, hb⟩
  obtain ⟨W0, hW0⟩ : ∃ W0, W0 = w1.alloc (.cells #[.pointer none, .slice none 0 0] 73) := ⟨_, rfl⟩
  obtain ⟨g, hg⟩ : ∃ g, g = w1.heap.size := ⟨_, rfl⟩
  have hbd : Bd w1.heap.size W0 g [] := by rw [hW0, hg]; exact bd_new w1
  have hb0 : Below w1.heap.size w1 W0 := by rw [hW0]; exact (Below.refl _ _).alloc (Nat.le_refl _) _
  have HS := Lib.hid (bd_string w1.heap.size g [] W0 hbd hb0.size)
  have HB : Hid (Below w.heap.size w W0) := hb.trans (hb0.mono hb.size)
  have HBB : Hid (∀ W, Below w1.heap.size W0 W → Below w.heap.size w W) := fun W h => hb.trans ((hb0.trans h).mono hb.size)
  have HW := Lib.hid hW0
  have HG := Lib.hid hg
  clear hW0 hg hbd hb0 hb
  go_upto_region 4 with fail
  rw [← HW.out, ← HG.out]
  clear HW HG
  go_wp2_with fail
  refine wp_loop_rounds 1 ?_
  rw [rounds_succ]
  go_wp2_with fail
  refine HS.out.mono ?_
  rintro e w2 ⟨rfl, hb2⟩
  have HB2 := Lib.hid (HBB.out _ hb2)
  clear hb2 HS
  go_wp2_with fail
  go_ret
  exact ⟨rfl, HB2.out⟩
/-- elements of n cells -/
abbrev Cl (n : Nat) := {l : List Value // l.length = n ∧ l.all Value.oneCell' = true}
def clC {n : Nat} (x : Cl n) : List Value := x.1
theorem clC_len {n : Nat} (x : Cl n) : (clC x).length = n := x.2.1
theorem clC_one {n : Nat} (x : Cl n) : (clC x).all Value.oneCell' = true := x.2.2
theorem infoPl : (Tryd.prog.info? 68).map (fun i => (i.zero, i.size, i.bytes)) = some (some (.agg #[.int .i64 0, .slice none 0 0, .int .i64 0, .int .u64 0, .string ⟨#[]⟩, .slice none 0 0, .string ⟨#[]⟩, .slice none 0 0, .slice none 0 0, .int .i64 0, .int .u64 0, .string ⟨#[]⟩, .slice none 0 0, .string ⟨#[]⟩, .slice none 0 0, .slice none 0 0]), 16, 272) := by kernel_rfl
/-- the example's place -/
def plA : Cl 16 := ⟨[.int .i64 1, .slice none 0 0, .int .i64 0, .int .u64 0, .string ⟨#[]⟩, .slice none 0 0, .string ⟨#[]⟩, .slice none 0 0, .slice none 0 0, .int .i64 1, .int .u64 1, .string ⟨#[]⟩, .slice none 0 0, .string ⟨#[]⟩, .slice none 0 0, .slice none 0 0], rfl, by simp [Value.oneCell']⟩
set_option maxRecDepth 100000 in
theorem kind_c (w : World) : Calls Tryd.prog 62 #[.agg #[.int .i64 0, .int .u64 0, .string ⟨#[]⟩, .slice none 0 0, .string ⟨#[]⟩, .slice none 0 0, .slice none 0 0], .agg #[.int .i64 1, .int .u64 1, .string ⟨#[]⟩, .slice none 0 0, .string ⟨#[]⟩, .slice none 0 0, .slice none 0 0]] w fun e w' => e = .returned (.int .i64 1) ∧ Below w.heap.size w w' := by
  obtain ⟨W0, hW0⟩ : ∃ W0, W0 = (w.alloc (.cells #[.int .i64 0, .int .u64 0, .string ⟨#[]⟩, .slice none 0 0, .string ⟨#[]⟩, .slice none 0 0, .slice none 0 0] 27)).alloc (.cells #[.int .i64 1, .int .u64 1, .string ⟨#[]⟩, .slice none 0 0, .string ⟨#[]⟩, .slice none 0 0, .slice none 0 0] 27) := ⟨_, rfl⟩
  obtain ⟨g, hg⟩ : ∃ g, g = w.heap.size := ⟨_, rfl⟩
  have hb0 : Below w.heap.size w W0 := by rw [hW0]; exact ((Below.refl _ _).alloc (Nat.le_refl _) _).alloc (by simp) _
  have hc : CellsAt W0 g 27 #[.int .i64 0, .int .u64 0, .string ⟨#[]⟩, .slice none 0 0, .string ⟨#[]⟩, .slice none 0 0, .slice none 0 0] := by rw [hW0, hg]; exact (CellsAt.new w _ _).stays ((Below.refl _ _).alloc (Nat.le_refl _) _)
  have c0 := hc.cell 0 (v := .int .i64 0) rfl
  have HB := Lib.hid hb0
  have HW := Lib.hid hW0
  have HG := Lib.hid hg
  clear hb0 hc hW0 hg
  go_enter Tryd.func62, Tryd.ntmps62
  go_upto_region 1 with fail
  rw [← HW.out, ← HG.out]
  clear HW HG
  go_wp2_with fail
  go_ret
  exact ⟨rfl, HB.out⟩
/-- what place leaves -/
def PlP (g : Nat) (w : World) (e : Ending) (w' : World) : Prop := e = .returned (.tuple #[]) ∧ ∃ (b c : Nat), CellsAt w' g 81 #[.slice (some ⟨b, 0, none⟩) 1 c, .int .i64 0] ∧ RowS clC w' (.slice (some ⟨b, 0, none⟩) 1 c) [plA] ∧ Grew [g] w w'
/-- what place reads -/
def PlC (g b : Nat) (W : World) : Prop := CellsAt W g 81 #[.slice none 0 0, .int .i64 0] ∧ CellsAt W b 27 #[.int .i64 0, .int .u64 0, .string ⟨#[]⟩, .slice none 0 0, .string ⟨#[]⟩, .slice none 0 0, .slice none 0 0] ∧ CellsAt W (b + 1) 27 #[.int .i64 1, .int .u64 1, .string ⟨#[]⟩, .slice none 0 0, .string ⟨#[]⟩, .slice none 0 0, .slice none 0 0]
set_option maxRecDepth 100000 in
set_option maxHeartbeats 8000000 in
theorem place_c {w : World} {g : Nat} (hc : CellsAt w g 81 #[.slice none 0 0, .int .i64 0]) :
    Calls Tryd.prog 51 #[.pointer (some ⟨g, 0, none⟩), .slice none 0 0, .agg #[.int .i64 0, .int .u64 0, .string ⟨#[]⟩, .slice none 0 0, .string ⟨#[]⟩, .slice none 0 0, .slice none 0 0], .agg #[.int .i64 1, .int .u64 1, .string ⟨#[]⟩, .slice none 0 0, .string ⟨#[]⟩, .slice none 0 0, .slice none 0 0]] w (PlP g w) := by
  obtain ⟨W1, hW1⟩ : ∃ W1, W1 = (w.alloc (.cells #[.int .i64 0, .int .u64 0, .string ⟨#[]⟩, .slice none 0 0, .string ⟨#[]⟩, .slice none 0 0, .slice none 0 0] 27)).alloc (.cells #[.int .i64 1, .int .u64 1, .string ⟨#[]⟩, .slice none 0 0, .string ⟨#[]⟩, .slice none 0 0, .slice none 0 0] 27) := ⟨_, rfl⟩
  obtain ⟨b, hb⟩ : ∃ b, b = w.heap.size := ⟨_, rfl⟩
  have hb1 : Below w.heap.size w W1 := by rw [hW1]; exact ((Below.refl _ _).alloc (Nat.le_refl _) _).alloc (by simp) _
  have hc4 : CellsAt W1 b 27 #[.int .i64 0, .int .u64 0, .string ⟨#[]⟩, .slice none 0 0, .string ⟨#[]⟩, .slice none 0 0, .slice none 0 0] := by rw [hW1, hb]; exact (CellsAt.new w _ _).stays ((Below.refl _ _).alloc (Nat.le_refl _) _)
  have hc5 : CellsAt W1 (b + 1) 27 #[.int .i64 1, .int .u64 1, .string ⟨#[]⟩, .slice none 0 0, .string ⟨#[]⟩, .slice none 0 0, .slice none 0 0] := by
    have := CellsAt.new (w.alloc (.cells #[.int .i64 0, .int .u64 0, .string ⟨#[]⟩, .slice none 0 0, .string ⟨#[]⟩, .slice none 0 0, .slice none 0 0] 27)) #[.int .i64 1, .int .u64 1, .string ⟨#[]⟩, .slice none 0 0, .string ⟨#[]⟩, .slice none 0 0, .slice none 0 0] 27
    rw [hW1, hb]; simpa using this
  have HX : Hid (∀ W, Below W1.heap.size W1 W → PlC g b W) := fun W h => ⟨(hc.stays hb1).stays h, hc4.stays h, hc5.stays h⟩
  have hgl := hc.lt
  have HB := Lib.hid hb1
  have hd0 : Below W1.heap.size W1 W1.drew := (Below.refl _ _).drew
  have HW := Lib.hid hW1
  have HG := Lib.hid hb
  clear hc hb1 hc4 hc5 hW1 hb
  go_enter Tryd.func51, Tryd.ntmps51
  go_upto_region 1 with fail
  rw [← HW.out, ← HG.out]
  clear HW HG
  refine wp_region_noPanic ?_
  refine wp_region_K (PlC g b) 16 (by kernel_rfl) (HX.out _ hd0) (fun hC0 => ?_)
  refine wpAnyK_skip (i := 0) (oi := ⟨some 8, _, _, _, _, _⟩) (v := ?_) rfl (by kernel_rfl) (by kernel_rfl) (by kernel_rfl) (by decide) (fun _ _ _ h => h) (Or.inl ⟨by rfl, ?_⟩) (fun _ => by assumption) ?_
  rotate_left
  focus (intro wq hSq; clear hSq; go_simp; try (with_reducible rfl))
  try simp only [Act.put, List.setIfInBounds_toArray, List.set_cons_zero, List.set_cons_succ]
  refine wpAnyK_skip (i := 1) (oi := ⟨some 9, _, _, _, _, _⟩) (v := ?_) rfl (by kernel_rfl) (by kernel_rfl) (by kernel_rfl) (by decide) (fun _ _ _ h => h) (Or.inl ⟨by rfl, ?_⟩) (fun _ => by assumption) ?_
  rotate_left
  focus (intro wq hSq; clear hSq; go_simp; try (with_reducible rfl))
  try simp only [Act.put, List.setIfInBounds_toArray, List.set_cons_zero, List.set_cons_succ]
  refine wpAnyK_skip (i := 2) (oi := ⟨some 10, _, _, _, _, _⟩) (v := ?_) rfl (by kernel_rfl) (by kernel_rfl) (by kernel_rfl) (by decide) (fun _ _ _ h => h) (Or.inl ⟨by rfl, ?_⟩) (fun _ => by assumption) ?_
  rotate_left
  focus (intro wq hSq; clear hSq; go_simp; try (with_reducible rfl))
  try simp only [Act.put, List.setIfInBounds_toArray, List.set_cons_zero, List.set_cons_succ]
  refine wpAnyK_skip (i := 3) (oi := ⟨some 11, _, _, _, _, _⟩) (v := ?_) rfl (by kernel_rfl) (by kernel_rfl) (by kernel_rfl) (by decide) (fun _ _ _ h => h) (Or.inl ⟨by rfl, ?_⟩) (fun _ => by assumption) ?_
  rotate_left
  focus (intro wq hSq; clear hSq; go_simp; try (with_reducible rfl))
  try simp only [Act.put, List.setIfInBounds_toArray, List.set_cons_zero, List.set_cons_succ]
  refine wpAnyK_take (i := 4) (oi := ⟨some 12, _, _, _, _, _⟩) (v := ?_) [13, 16] rfl (by kernel_rfl) (by kernel_rfl) (by kernel_rfl) (by kernel_rfl) (fun _ _ _ h => h) (Or.inl ⟨by rfl, ?_⟩) (by assumption) ?_
  rotate_left
  focus
    intro wq hSq
    have e0 := hSq.1.cell 0 (v := .slice none 0 0) rfl
    clear hSq
    go_simp
    try (with_reducible rfl)
  try simp only [Act.put, List.setIfInBounds_toArray, List.set_cons_zero, List.set_cons_succ]
  refine wpAnyK_take (i := 5) (oi := ⟨some 13, _, _, _, _, _⟩) (v := ?_) [7, 11, 12, 13, 16] rfl (by kernel_rfl) (by kernel_rfl) (by kernel_rfl) (by kernel_rfl) (fun _ _ _ h => h) (Or.inl ⟨by rfl, ?_⟩) (by assumption) ?_
  rotate_left
  focus
    intro wq hSq
    have e0 := hSq.2.1.cell 0 (v := .int .i64 0) rfl
    have e1 := hSq.2.1.cell 1 (v := .int .u64 0) rfl
    have e2 := hSq.2.1.cell 2 (v := .string ⟨#[]⟩) rfl
    have e3 := hSq.2.1.cell 3 (v := .slice none 0 0) rfl
    have e4 := hSq.2.1.cell 4 (v := .string ⟨#[]⟩) rfl
    have e5 := hSq.2.1.cell 5 (v := .slice none 0 0) rfl
    have e6 := hSq.2.1.cell 6 (v := .slice none 0 0) rfl
    clear hSq
    go_simp
    try (with_reducible rfl)
  try simp only [Act.put, List.setIfInBounds_toArray, List.set_cons_zero, List.set_cons_succ]
  refine wpAnyK_take (i := 6) (oi := ⟨some 14, _, _, _, _, _⟩) (v := ?_) [7, 11, 12, 13, 16] rfl (by kernel_rfl) (by kernel_rfl) (by kernel_rfl) (by kernel_rfl) (fun _ _ _ h => h) (Or.inl ⟨by rfl, ?_⟩) (by assumption) ?_
  rotate_left
  focus
    intro wq hSq
    have e0 := hSq.2.2.cell 0 (v := .int .i64 1) rfl
    have e1 := hSq.2.2.cell 1 (v := .int .u64 1) rfl
    have e2 := hSq.2.2.cell 2 (v := .string ⟨#[]⟩) rfl
    have e3 := hSq.2.2.cell 3 (v := .slice none 0 0) rfl
    have e4 := hSq.2.2.cell 4 (v := .string ⟨#[]⟩) rfl
    have e5 := hSq.2.2.cell 5 (v := .slice none 0 0) rfl
    have e6 := hSq.2.2.cell 6 (v := .slice none 0 0) rfl
    clear hSq
    go_simp
    try (with_reducible rfl)
  try simp only [Act.put, List.setIfInBounds_toArray, List.set_cons_zero, List.set_cons_succ]
  refine wpAnyK_skip (i := 8) (oi := ⟨some 16, _, _, _, _, _⟩) (v := ?_) rfl (by kernel_rfl) (by kernel_rfl) (by kernel_rfl) (by decide) (fun _ _ _ h => h) (Or.inl ⟨by rfl, ?_⟩) (fun _ => by assumption) ?_
  rotate_left
  focus (intro wq hSq; clear hSq; go_simp; try (with_reducible rfl))
  try simp only [Act.put, List.setIfInBounds_toArray, List.set_cons_zero, List.set_cons_succ]
  refine wpAnyK_take (i := 9) (oi := ⟨some 17, _, _, _, _, _⟩) (v := ?_) [11, 12, 13, 16] rfl (by kernel_rfl) (by kernel_rfl) (by kernel_rfl) (by kernel_rfl) (fun _ _ _ h => h) (Or.inl ⟨by rfl, ?_⟩) (by assumption) ?_
  rotate_left
  focus
    intro wq hSq
    have e0 := hSq.2.1.cell 0 (v := .int .i64 0) rfl
    have e1 := hSq.2.1.cell 1 (v := .int .u64 0) rfl
    have e2 := hSq.2.1.cell 2 (v := .string ⟨#[]⟩) rfl
    have e3 := hSq.2.1.cell 3 (v := .slice none 0 0) rfl
    have e4 := hSq.2.1.cell 4 (v := .string ⟨#[]⟩) rfl
    have e5 := hSq.2.1.cell 5 (v := .slice none 0 0) rfl
    have e6 := hSq.2.1.cell 6 (v := .slice none 0 0) rfl
    clear hSq
    go_simp
    try (with_reducible rfl)
  try simp only [Act.put, List.setIfInBounds_toArray, List.set_cons_zero, List.set_cons_succ]
  refine wpAnyK_take (i := 10) (oi := ⟨some 18, _, _, _, _, _⟩) (v := ?_) [11, 12, 13, 16] rfl (by kernel_rfl) (by kernel_rfl) (by kernel_rfl) (by kernel_rfl) (fun _ _ _ h => h) (Or.inl ⟨by rfl, ?_⟩) (by assumption) ?_
  rotate_left
  focus
    intro wq hSq
    have e0 := hSq.2.2.cell 0 (v := .int .i64 1) rfl
    have e1 := hSq.2.2.cell 1 (v := .int .u64 1) rfl
    have e2 := hSq.2.2.cell 2 (v := .string ⟨#[]⟩) rfl
    have e3 := hSq.2.2.cell 3 (v := .slice none 0 0) rfl
    have e4 := hSq.2.2.cell 4 (v := .string ⟨#[]⟩) rfl
    have e5 := hSq.2.2.cell 5 (v := .slice none 0 0) rfl
    have e6 := hSq.2.2.cell 6 (v := .slice none 0 0) rfl
    clear hSq
    go_simp
    try (with_reducible rfl)
  try simp only [Act.put, List.setIfInBounds_toArray, List.set_cons_zero, List.set_cons_succ]
  refine wpAnyK_ready (rs := [7]) (by kernel_rfl) (by simp) ?_
  refine AllReadyK.cons (o := _) rfl (fun K1 hK => ?_) AllReadyK.nil
  go_simp
  go_at_call 62
  refine (kind_c _).mono ?_
  rintro e w3 ⟨rfl, hb3⟩
  have hd3 := hd0.trans (hb3.mono hd0.size)
  go_wp2_with fail
  refine hK.out _ _ (HX.out _ hd3) ?_
  clear hK K1
  try simp only [Act.put, List.setIfInBounds_toArray, List.set_cons_zero, List.set_cons_succ]
  have hC3 := HX.out _ hd3
  refine wpAnyK_skip (i := 11) (oi := ⟨some 19, _, _, _, _, _⟩) (v := ?_) rfl (by kernel_rfl) (by kernel_rfl) (by kernel_rfl) (by decide) (fun _ _ _ h => h) (Or.inl ⟨by rfl, ?_⟩) (fun _ => by assumption) ?_
  rotate_left
  focus (intro wq hSq; clear hSq; go_simp; try (with_reducible rfl))
  try simp only [Act.put, List.setIfInBounds_toArray, List.set_cons_zero, List.set_cons_succ]
  refine wpAnyK_ready (rs := [12]) (by kernel_rfl) (by simp) ?_
  refine AllReadyK.cons (o := _) rfl (fun K1 hK => ?_) AllReadyK.nil
  go_simp
  refine hK.out _ _ (HX.out _ (hd3.alloc hd3.size _)) ?_
  clear hK K1
  try simp only [Act.put, List.setIfInBounds_toArray, List.set_cons_zero, List.set_cons_succ]
  refine wpAnyK_ready (rs := [13]) (by kernel_rfl) (by simp) ?_
  refine AllReadyK.cons (o := _) rfl (fun K1 hK => ?_) AllReadyK.nil
  have hnil : OwnS 68 16 clC W1.heap.size w3 (.slice none 0 0) ([] : List (Cl 16)) := OwnS.nil _ _
  refine step_pushS clC_len clC_one Tryd.underlying63 infoPl rfl (by decide) hnil plA (by decide) hd3.size rfl _ _ rfl (by rfl) _ _ _ (by rfl) (by rfl) ?_
  intro v7 w7 how7 hg7 hn7
  have hd7 : Below W1.heap.size W1 w7 := hd3.grown hg7 hd3.size (fun k hk => by simp [Value.ownBlock] at hk)
  obtain ⟨b7, c7, hv7, hbl, -, -, -, -⟩ := OwnS.block how7 clC_len (by simp)
  have hv7' : v7 = .slice (some ⟨b7, 0, none⟩) 1 c7 := by rw [hv7]; rfl
  subst hv7'
  have hB7 := HX.out w7 hd7
  have e9 := hB7.1.cell 0 (v := .slice none 0 0) rfl
  have f9 := hB7.1.free 0
  have HEND : Hid (PlP g w (.returned (.tuple #[])) (w7.setCell ⟨g, 0, none⟩ (.slice (some ⟨b7, 0, none⟩) 1 c7))) := by
    have hbw : Below w.heap.size w w7 := HB.out.trans (hd7.mono HB.out.size)
    have hs : Grew [g] w7 (w7.setCell ⟨g, 0, none⟩ (.slice (some ⟨b7, 0, none⟩) 1 c7)) := (Grew.refl _ _).setCell (p := ⟨g, 0, none⟩) (.inl (by simp)) _
    refine ⟨rfl, b7, c7, hB7.1.set 0 _, ?_, (Grew.ofBelow hbw).trans hs⟩
    refine RowS.grew how7.row hs (fun _ k hk hm => ?_)
    have h1 := (how7.lt k hk).1
    have h2 := HB.out.size
    have h3 : k = g := by simpa using hm
    omega
  refine hK.out _ _ hB7 ?_
  clear hK K1
  try simp only [Act.put, List.setIfInBounds_toArray]
  refine wpAnyK_skip (i := 14) (oi := ⟨some 22, _, _, _, _, _⟩) (v := ?_) rfl (by kernel_rfl) (by kernel_rfl) (by kernel_rfl) (by decide) (fun _ _ _ h => h) (Or.inl ⟨by rfl, ?_⟩) (fun _ => by assumption) ?_
  rotate_left
  focus (intro wq hSq; clear hSq; go_simp; try (with_reducible rfl))
  try simp only [Act.put]
  refine wpAnyK_skip (i := 15) (oi := ⟨some 23, _, _, _, _, _⟩) (v := ?_) rfl (by kernel_rfl) (by kernel_rfl) (by kernel_rfl) (by decide) (fun _ _ _ h => h) (Or.inl ⟨by rfl, ?_⟩) (fun _ => by assumption) ?_
  rotate_left
  focus (intro wq hSq; clear hSq; go_simp; try (with_reducible rfl))
  try simp only [Act.put]
  clear hB7 hn7 hg7 how7 hnil hd7 hd3 hb3 hC3 hC0 HX hd0
  refine wpAnyK_ready (rs := [16]) (by kernel_rfl) (by simp) ?_
  refine AllReadyK.last (o := _) rfl (by kernel_rfl) (fun K1 hK => ?_) AllReadyK.nil
  go_simp
  refine hK.out _ _ ?_
  clear hK K1
  refine wpAnyK_done (by kernel_rfl) ?_ _
  refine NoPanic.normal ?_
  go_wp2_with fail
  go_end0
  exact HEND.out
set_option maxRecDepth 100000 in
set_option maxHeartbeats 4000000 in
theorem walk_c {w : World} {g : Nat} (hc : CellsAt w g 81 #[.slice none 0 0, .int .i64 0]) :
    Calls Tryd.prog 40 #[.pointer (some ⟨g, 0, none⟩), .slice none 0 0, .agg #[.int .i64 1, .int .i64 0, .int .u64 0, .string ⟨#[]⟩, .slice none 0 0, .string ⟨#[]⟩, .slice none 0 0, .slice none 0 0, .int .i64 1, .int .u64 1, .string ⟨#[]⟩, .slice none 0 0, .string ⟨#[]⟩, .slice none 0 0, .slice none 0 0, .slice none 0 0, .bool false, .string ⟨#[]⟩, .string ⟨#[]⟩, .slice none 0 0, .slice none 0 0]] w (PlP g w) := by
  obtain ⟨W1, hW1⟩ : ∃ W1, W1 = w.alloc (.cells #[.int .i64 1, .int .i64 0, .int .u64 0, .string ⟨#[]⟩, .slice none 0 0, .string ⟨#[]⟩, .slice none 0 0, .slice none 0 0, .int .i64 1, .int .u64 1, .string ⟨#[]⟩, .slice none 0 0, .string ⟨#[]⟩, .slice none 0 0, .slice none 0 0, .slice none 0 0, .bool false, .string ⟨#[]⟩, .string ⟨#[]⟩, .slice none 0 0, .slice none 0 0] 45) := ⟨_, rfl⟩
  obtain ⟨b, hb⟩ : ∃ b, b = w.heap.size := ⟨_, rfl⟩
  have hb1 : Below w.heap.size w W1 := by rw [hW1]; exact (Below.refl _ _).alloc (Nat.le_refl _) _
  have hcb : CellsAt W1 b 45 #[.int .i64 1, .int .i64 0, .int .u64 0, .string ⟨#[]⟩, .slice none 0 0, .string ⟨#[]⟩, .slice none 0 0, .slice none 0 0, .int .i64 1, .int .u64 1, .string ⟨#[]⟩, .slice none 0 0, .string ⟨#[]⟩, .slice none 0 0, .slice none 0 0, .slice none 0 0, .bool false, .string ⟨#[]⟩, .string ⟨#[]⟩, .slice none 0 0, .slice none 0 0] := by rw [hW1, hb]; exact CellsAt.new w _ _
  have HC := Lib.hid (place_c (hc.stays hb1))
  have HB := Lib.hid hb1
  have HW := Lib.hid hW1
  have HG := Lib.hid hb
  have e0 := hcb.cell 0 (v := .int .i64 1) rfl
  have e1 := hcb.cell 1 (v := .int .i64 0) rfl
  have e2 := hcb.cell 2 (v := .int .u64 0) rfl
  have e3 := hcb.cell 3 (v := .string ⟨#[]⟩) rfl
  have e4 := hcb.cell 4 (v := .slice none 0 0) rfl
  have e5 := hcb.cell 5 (v := .string ⟨#[]⟩) rfl
  have e6 := hcb.cell 6 (v := .slice none 0 0) rfl
  have e7 := hcb.cell 7 (v := .slice none 0 0) rfl
  have e8 := hcb.cell 8 (v := .int .i64 1) rfl
  have e9 := hcb.cell 9 (v := .int .u64 1) rfl
  have e10 := hcb.cell 10 (v := .string ⟨#[]⟩) rfl
  have e11 := hcb.cell 11 (v := .slice none 0 0) rfl
  have e12 := hcb.cell 12 (v := .string ⟨#[]⟩) rfl
  have e13 := hcb.cell 13 (v := .slice none 0 0) rfl
  have e14 := hcb.cell 14 (v := .slice none 0 0) rfl
  clear hc hb1 hcb hW1 hb
  go_enter Tryd.func40, Tryd.ntmps40
  go_upto_region 1 with fail
  rw [← HW.out, ← HG.out]
  clear HW HG
  go_wp2_with fail
  refine HC.out.mono ?_
  rintro e w3 ⟨rfl, hR⟩
  have HR := Lib.hid hR
  clear hR HC e0 e1 e2 e3 e4 e5 e6 e7 e8 e9 e10 e11 e12 e13 e14
  go_wp2_with fail
  go_end0
  obtain ⟨b2, c2, h1, h2, h3⟩ := HR.out
  exact ⟨rfl, b2, c2, h1, h2, (Grew.ofBelow HB.out).trans h3⟩
theorem sizeED : (Tryd.prog.info? 45).map (·.size) = some 21 := by kernel_rfl
theorem sizePl : (Tryd.prog.info? 68).map (·.size) = some 16 := by kernel_rfl
set_option maxRecDepth 100000 in
set_option maxHeartbeats 4000000 in
theorem walked_c (w : World) : Calls Tryd.prog 30 #[.agg #[.int .i64 1, .int .i64 0, .int .u64 0, .string ⟨#[]⟩, .slice none 0 0, .string ⟨#[]⟩, .slice none 0 0, .slice none 0 0, .int .i64 1, .int .u64 1, .string ⟨#[]⟩, .slice none 0 0, .string ⟨#[]⟩, .slice none 0 0, .slice none 0 0, .slice none 0 0, .bool false, .string ⟨#[]⟩, .string ⟨#[]⟩, .slice none 0 0, .slice none 0 0]] w fun e w' => ∃ (g b c : Nat), e = .returned (.pointer (some ⟨g, 0, none⟩)) ∧ CellsAt w' g 81 #[.slice (some ⟨b, 0, none⟩) 1 c, .int .i64 0] ∧ RowS clC w' (.slice (some ⟨b, 0, none⟩) 1 c) [plA] ∧ Below w.heap.size w w' := by
  obtain ⟨A, hA⟩ : ∃ A : Array Value, A = #[.int .i64 1, .int .i64 0, .int .u64 0, .string ⟨#[]⟩, .slice none 0 0, .string ⟨#[]⟩, .slice none 0 0, .slice none 0 0, .int .i64 1, .int .u64 1, .string ⟨#[]⟩, .slice none 0 0, .string ⟨#[]⟩, .slice none 0 0, .slice none 0 0, .slice none 0 0, .bool false, .string ⟨#[]⟩, .string ⟨#[]⟩, .slice none 0 0, .slice none 0 0] := ⟨_, rfl⟩
  rw [← hA]
  have sA : A.size = 21 := by rw [hA]; rfl
  obtain ⟨W1, hW1⟩ : ∃ W1, W1 = (w.alloc (.cells A 45)).alloc (.cells #[.slice none 0 0, .int .i64 0] 81) := ⟨_, rfl⟩
  obtain ⟨b, hb⟩ : ∃ b, b = w.heap.size := ⟨_, rfl⟩
  have hb1 : Below w.heap.size w W1 := by rw [hW1]; exact ((Below.refl _ _).alloc (Nat.le_refl _) _).alloc (by simp) _
  have hcb : CellsAt W1 b 45 A := by rw [hW1, hb]; exact (CellsAt.new w _ _).stays ((Below.refl _ _).alloc (Nat.le_refl _) _)
  have hcg : CellsAt W1 (b + 1) 81 #[.slice none 0 0, .int .i64 0] := by
    have := CellsAt.new (w.alloc (.cells A 45)) #[.slice none 0 0, .int .i64 0] 81
    rw [hW1, hb]; simpa using this
  have hC := walk_c hcg
  rw [← hA] at hC
  have HC := Lib.hid hC
  have HBG : Hid (w.heap.size ≤ b + 1) := by show _ ≤ _; omega
  have HB := Lib.hid hb1
  have HW := Lib.hid hW1
  have HG := Lib.hid hb
  clear hb1 hcg hW1 hb hA hC
  go_enter Tryd.func30, Tryd.ntmps30
  go_upto_region 2 with fail
  rw [← HW.out, ← HG.out]
  clear HW HG
  go_wp2_with (first | (refine wpList_loadW rfl 45 _ rfl b (by rfl) 45 _ hcb _ Tryd.underlying45 rfl (by rw [sA]; exact sizeED) ?_))
  refine HC.out.mono ?_
  rintro e w3 ⟨rfl, hR⟩
  have HR := Lib.hid hR
  clear hR HC hcb
  go_wp2_with fail
  go_ret
  obtain ⟨b2, c2, h1, h2, h3⟩ := HR.out
  exact ⟨b + 1, b2, c2, rfl, h1, h2, h3.below HB.out (fun i hi => by rw [show i = b + 1 from by simpa using hi]; exact HBG.out) HB.out.size⟩
set_option maxRecDepth 100000 in
set_option maxHeartbeats 4000000 in
theorem places_c (w : World) : Calls Tryd.prog 23 #[.agg #[.int .i64 1, .int .i64 0, .int .u64 0, .string ⟨#[]⟩, .slice none 0 0, .string ⟨#[]⟩, .slice none 0 0, .slice none 0 0, .int .i64 1, .int .u64 1, .string ⟨#[]⟩, .slice none 0 0, .string ⟨#[]⟩, .slice none 0 0, .slice none 0 0, .slice none 0 0, .bool false, .string ⟨#[]⟩, .string ⟨#[]⟩, .slice none 0 0, .slice none 0 0]] w fun e w' => ∃ (b c : Nat), e = .returned (.slice (some ⟨b, 0, none⟩) 1 c) ∧ RowS clC w' (.slice (some ⟨b, 0, none⟩) 1 c) [plA] ∧ Below w.heap.size w w' := by
  obtain ⟨A, hA⟩ : ∃ A : Array Value, A = #[.int .i64 1, .int .i64 0, .int .u64 0, .string ⟨#[]⟩, .slice none 0 0, .string ⟨#[]⟩, .slice none 0 0, .slice none 0 0, .int .i64 1, .int .u64 1, .string ⟨#[]⟩, .slice none 0 0, .string ⟨#[]⟩, .slice none 0 0, .slice none 0 0, .slice none 0 0, .bool false, .string ⟨#[]⟩, .string ⟨#[]⟩, .slice none 0 0, .slice none 0 0] := ⟨_, rfl⟩
  rw [← hA]
  have sA : A.size = 21 := by rw [hA]; rfl
  obtain ⟨W1, hW1⟩ : ∃ W1, W1 = w.alloc (.cells A 45) := ⟨_, rfl⟩
  obtain ⟨b, hb⟩ : ∃ b, b = w.heap.size := ⟨_, rfl⟩
  have hb1 : Below w.heap.size w W1 := by rw [hW1]; exact (Below.refl _ _).alloc (Nat.le_refl _) _
  have hcb : CellsAt W1 b 45 A := by rw [hW1, hb]; exact CellsAt.new w _ _
  have hC := walked_c W1
  rw [← hA] at hC
  have HC := Lib.hid hC
  have HB := Lib.hid hb1
  have HW := Lib.hid hW1
  have HG := Lib.hid hb
  clear hb1 hW1 hb hA hC
  go_enter Tryd.func23, Tryd.ntmps23
  go_upto_region 1 with fail
  rw [← HW.out, ← HG.out]
  clear HW HG
  go_wp2_with (first | (refine wpList_loadW rfl 45 _ rfl b (by rfl) 45 _ hcb _ Tryd.underlying45 rfl (by rw [sA]; exact sizeED) ?_))
  refine HC.out.mono ?_
  rintro e w3 ⟨g2, b2, c2, rfl, hcg, hrow, hbe⟩
  have c0 := hcg.cell 0 (v := .slice (some ⟨b2, 0, none⟩) 1 c2) rfl
  have HR := Lib.hid hrow
  have HB3 : Hid (Below w.heap.size w w3) := HB.out.trans (hbe.mono HB.out.size)
  clear hcg hrow hbe HC hcb
  go_wp2_with fail
  go_ret
  exact ⟨b2, c2, rfl, HR.out, HB3.out⟩
theorem rep_one {S : Nat → Prop} {w : World} : Rep S w (.mk 1 1 [] [] [] [] []) A3.nil := Rep.leaf 1 1 [] [] ⟨by decide, by decide⟩ (by decide) _
set_option maxRecDepth 100000 in
set_option maxHeartbeats 4000000 in
theorem line_c {w : World} (hP : PowU w) : Calls Tryd.prog 24 #[.agg #[.int .i64 1, .slice none 0 0, .int .i64 0, .int .u64 0, .string ⟨#[]⟩, .slice none 0 0, .string ⟨#[]⟩, .slice none 0 0, .slice none 0 0, .int .i64 1, .int .u64 1, .string ⟨#[]⟩, .slice none 0 0, .string ⟨#[]⟩, .slice none 0 0, .slice none 0 0]] w fun e w' => e = .returned (.string ⟨#[43, 32, 46, 32, 49]⟩) ∧ Below w.heap.size w w' := by
  obtain ⟨W1, hW1⟩ : ∃ W1, W1 = w.alloc (.cells #[.int .i64 1, .slice none 0 0, .int .i64 0, .int .u64 0, .string ⟨#[]⟩, .slice none 0 0, .string ⟨#[]⟩, .slice none 0 0, .slice none 0 0, .int .i64 1, .int .u64 1, .string ⟨#[]⟩, .slice none 0 0, .string ⟨#[]⟩, .slice none 0 0, .slice none 0 0] 68) := ⟨_, rfl⟩
  obtain ⟨b, hb⟩ : ∃ b, b = w.heap.size := ⟨_, rfl⟩
  have hb1 : Below w.heap.size w W1 := by rw [hW1]; exact (Below.refl _ _).alloc (Nat.le_refl _) _
  have hcb : CellsAt W1 b 68 #[.int .i64 1, .slice none 0 0, .int .i64 0, .int .u64 0, .string ⟨#[]⟩, .slice none 0 0, .string ⟨#[]⟩, .slice none 0 0, .slice none 0 0, .int .i64 1, .int .u64 1, .string ⟨#[]⟩, .slice none 0 0, .string ⟨#[]⟩, .slice none 0 0, .slice none 0 0] := by rw [hW1, hb]; exact CellsAt.new w _ _
  have HT : Hid (∀ W, Below W1.heap.size W1 W → Calls Tryd.prog 6 #[.agg #[.int .i64 1, .int .u64 1, .string ⟨#[]⟩, .slice none 0 0, .string ⟨#[]⟩, .slice none 0 0, .slice none 0 0]] W fun e w' => e = .returned (.string ⟨#[49]⟩) ∧ Below W.heap.size W w') := fun W h => by
    have hC := TxtC.lit (txt_any (.mk 1 1 [] [] [] [] [])) (rep_one (S := fun _ => True) (w := W)) (by decide) ((hP.stays hb1).stays h)
    have ht : txtV (.mk 1 1 [] [] [] [] []) = [49] := by rw [txtV, if_pos rfl, dec_small 1 (by omega)]; rfl
    rw [ht] at hC
    exact hC
  have HCB : Hid (∀ W, Below W1.heap.size W1 W → CellsAt W b 68 #[.int .i64 1, .slice none 0 0, .int .i64 0, .int .u64 0, .string ⟨#[]⟩, .slice none 0 0, .string ⟨#[]⟩, .slice none 0 0, .slice none 0 0, .int .i64 1, .int .u64 1, .string ⟨#[]⟩, .slice none 0 0, .string ⟨#[]⟩, .slice none 0 0, .slice none 0 0]) := fun W h => hcb.stays h
  have HB := Lib.hid hb1
  have HW := Lib.hid hW1
  have HG := Lib.hid hb
  have e1 := hcb.cell 1 (v := .slice none 0 0) rfl
  clear hb1 hcb hW1 hb hP
  go_enter Tryd.func24, Tryd.ntmps24
  go_upto_region 1 with fail
  rw [← HW.out, ← HG.out]
  clear HW HG
  go_wp2_with fail
  refine (ptextD_nil W1).mono ?_
  rintro e w3 ⟨rfl, hb3⟩
  have hcb := HCB.out w3 hb3
  have e0 := hcb.cell 0 (v := .int .i64 1) rfl
  have x0 := hcb.cell 9 (v := .int .i64 1) rfl
  have x1 := hcb.cell 10 (v := .int .u64 1) rfl
  have x2 := hcb.cell 11 (v := .string ⟨#[]⟩) rfl
  have x3 := hcb.cell 12 (v := .slice none 0 0) rfl
  have x4 := hcb.cell 13 (v := .string ⟨#[]⟩) rfl
  have x5 := hcb.cell 14 (v := .slice none 0 0) rfl
  have x6 := hcb.cell 15 (v := .slice none 0 0) rfl
  have HB3 := Lib.hid hb3
  clear hcb HCB hb3 e1
  go_wp2_with fail
  refine (HT.out w3 HB3.out).mono ?_
  rintro e w4 ⟨rfl, hb4⟩
  have HB4 : Hid (Below w.heap.size w w4) := HB.out.trans ((HB3.out.trans (hb4.mono HB3.out.size)).mono HB.out.size)
  clear HT HB3 hb4 e0 x0 x1 x2 x3 x4 x5 x6
  go_wp2_with fail
  go_ret
  exact ⟨rfl, HB4.out⟩
/-- a kind's word -/
def wordD (k : Int) : Bs := if k = 1 then [97, 100, 100, 101, 100] else if k = 2 then [114, 101, 109, 111, 118, 101, 100] else if k = 3 then [99, 104, 97, 110, 103, 101, 100] else []
set_option maxRecDepth 100000 in
theorem wordD_any (k : Int) (w : World) : Calls Tryd.prog 9 #[.int .i64 k] w fun e w' => e = .returned (.string (strB (wordD k))) ∧ Below w.heap.size w w' := by
  by_cases h1 : k = 1
  · subst h1
    go_enter Tryd.func9, Tryd.ntmps9
    go_wp2_with fail
    go_ret
    exact ⟨rfl, Below.refl _ _⟩
  by_cases h2 : k = 2
  · subst h2
    go_enter Tryd.func9, Tryd.ntmps9
    go_wp2_with fail
    go_ret
    exact ⟨rfl, Below.refl _ _⟩
  by_cases h3 : k = 3
  · subst h3
    go_enter Tryd.func9, Tryd.ntmps9
    go_wp2_with fail
    go_ret
    exact ⟨rfl, Below.refl _ _⟩
  · have f1 : (k == 1) = false := by simpa using h1
    have f2 : (k == 2) = false := by simpa using h2
    have f3 : (k == 3) = false := by simpa using h3
    have HZ : Hid (wordD k = []) := by show _ = _; unfold wordD; rw [if_neg h1, if_neg h2, if_neg h3]
    clear h1 h2 h3
    generalize wordD k = Y at HZ ⊢
    obtain rfl : Y = [] := HZ.out
    go_enter Tryd.func9, Tryd.ntmps9
    go_wp2_with fail
    go_ret
    exact ⟨rfl, Below.refl _ _⟩
set_option maxRecDepth 100000 in
set_option maxHeartbeats 4000000 in
theorem lines_c {w : World} (hP : PowU w) : Calls Tryd.prog 10 #[.agg #[.int .i64 1, .int .i64 0, .int .u64 0, .string ⟨#[]⟩, .slice none 0 0, .string ⟨#[]⟩, .slice none 0 0, .slice none 0 0, .int .i64 1, .int .u64 1, .string ⟨#[]⟩, .slice none 0 0, .string ⟨#[]⟩, .slice none 0 0, .slice none 0 0, .slice none 0 0, .bool false, .string ⟨#[]⟩, .string ⟨#[]⟩, .slice none 0 0, .slice none 0 0]] w fun e w' => ∃ (b c : Nat), e = .returned (.slice (some ⟨b, 0, none⟩) 1 c) ∧ w'.cell? ⟨b, 0, none⟩ = some (.string ⟨#[43, 32, 46, 32, 49]⟩) ∧ Below w.heap.size w w' := by
  obtain ⟨A, hA⟩ : ∃ A : Array Value, A = #[.int .i64 1, .int .i64 0, .int .u64 0, .string ⟨#[]⟩, .slice none 0 0, .string ⟨#[]⟩, .slice none 0 0, .slice none 0 0, .int .i64 1, .int .u64 1, .string ⟨#[]⟩, .slice none 0 0, .string ⟨#[]⟩, .slice none 0 0, .slice none 0 0, .slice none 0 0, .bool false, .string ⟨#[]⟩, .string ⟨#[]⟩, .slice none 0 0, .slice none 0 0] := ⟨_, rfl⟩
  rw [← hA]
  have sA : A.size = 21 := by rw [hA]; rfl
  obtain ⟨W1, hW1⟩ : ∃ W1, W1 = w.alloc (.cells A 45) := ⟨_, rfl⟩
  obtain ⟨b, hb⟩ : ∃ b, b = w.heap.size := ⟨_, rfl⟩
  have hb1 : Below w.heap.size w W1 := by rw [hW1]; exact (Below.refl _ _).alloc (Nat.le_refl _) _
  have hcb : CellsAt W1 b 45 A := by rw [hW1, hb]; exact CellsAt.new w _ _
  have hC := places_c W1
  rw [← hA] at hC
  have HC := Lib.hid hC
  obtain ⟨B, hB⟩ : ∃ B : Array Value, B = #[.int .i64 1, .slice none 0 0, .int .i64 0, .int .u64 0, .string ⟨#[]⟩, .slice none 0 0, .string ⟨#[]⟩, .slice none 0 0, .slice none 0 0, .int .i64 1, .int .u64 1, .string ⟨#[]⟩, .slice none 0 0, .string ⟨#[]⟩, .slice none 0 0, .slice none 0 0] := ⟨_, rfl⟩
  have sB : B.size = 16 := by rw [hB]; rfl
  have oB : B.all (·.oneCell') = true := by rw [hB]; simp [Value.oneCell']
  have lB : clC plA = B.toList := by rw [hB]; rfl
  obtain ⟨Z, hZ⟩ : ∃ Z : Array Value, Z = #[.int .i64 0, .slice none 0 0, .int .i64 0, .int .u64 0, .string ⟨#[]⟩, .slice none 0 0, .string ⟨#[]⟩, .slice none 0 0, .slice none 0 0, .int .i64 0, .int .u64 0, .string ⟨#[]⟩, .slice none 0 0, .string ⟨#[]⟩, .slice none 0 0, .slice none 0 0] := ⟨_, rfl⟩
  have sZ : Z.size = B.size := by rw [hZ, sB]; rfl
  have hL : ∀ W, PowU W → Calls Tryd.prog 24 #[.agg B] W fun e w' => e = .returned (.string ⟨#[43, 32, 46, 32, 49]⟩) ∧ Below W.heap.size W w' := fun W h => by rw [hB]; exact line_c h
  have HL := Lib.hid hL
  have HP : Hid (∀ W, Below W1.heap.size W1 W → PowU W) := fun W h => (hP.stays hb1).stays h
  have HB := Lib.hid hb1
  have HW := Lib.hid hW1
  have HG := Lib.hid hb
  have HZ := Lib.hid hZ
  clear hb1 hW1 hb hA hC hB hL hP
  go_enter Tryd.func10, Tryd.ntmps10
  go_upto_region 2 with fail
  rw [← HW.out, ← HG.out]
  clear HW HG
  go_wp2_with (first | (refine wpList_loadW rfl 45 _ rfl b (by rfl) 45 _ hcb _ Tryd.underlying45 rfl (by rw [sA]; exact sizeED) ?_))
  refine HC.out.mono ?_
  rintro e w3 ⟨b2, c2, rfl, hrow, hbe⟩
  obtain ⟨a', c', hv, -, hcell⟩ := RowS.shape (size := 16) hrow clC_len
  cases hv
  obtain ⟨b3, o3, ha, hcc⟩ := hcell 0 plA rfl
  cases ha
  rw [lB] at hcc
  have HCC := Lib.hid hcc
  have HB3 := Lib.hid hbe
  clear hrow hbe HC hcb hcell hcc
  go_wp2_with fail
  refine wp_loop_rounds 2 ?_
  rw [rounds_succ]
  have hcc := HCC.out
  go_wp2_with (first
    | (refine wpList_load_mid rfl 68 _ rfl b2 0 (by rfl) B.toList _ (fun j v hv => by have := hcc j v hv; simpa using this) Tryd.underlying68 rfl (by simpa [sB] using sizePl) ?_; simp only [Array.toArray_toList])
    | (rw [← HZ.out]; refine wpList_storeW rfl 68 _ _ rfl w3.heap.size (by rfl) B (by rfl) 68 Z (CellsAt.new w3 Z 68) sZ (by rw [sB]; exact sizePl) oB ?_; intro w4 hc4 hg4; have hb4 : Below w3.heap.size w3 w4 := (Grew.ofGrown hg4).below ((Below.refl _ _).alloc (Nat.le_refl _) _) (fun i hi => by rw [show i = w3.heap.size from by simpa using hi]; exact Nat.le_refl _) (by simp); have HB4 := Lib.hid (HB3.out.trans (hb4.mono HB3.out.size)); clear hg4 hb4)
    | (refine wpList_loadW rfl 68 _ rfl w3.heap.size (by rfl) 68 _ hc4 _ Tryd.underlying68 rfl (by rw [sB]; exact sizePl) ?_))
  refine (HL.out w4 (HP.out _ HB4.out)).mono ?_
  rintro e w5 ⟨rfl, hb5⟩
  have hbe5 : Below W1.heap.size W1 w5 := HB4.out.trans (hb5.mono HB4.out.size)
  have HB5 := Lib.hid hbe5
  have hnil : OwnL 9 SD W1.heap.size w5 (.slice none 0 0) ([] : List Bs) := OwnL.nil _ _
  have hsz := hbe5.size
  clear hb5 hbe5 hc4 HL HP hcc HCC HZ
  go_wp2_with (at_builtin; go_must (refine wpList_pushL SD_one Tryd.underlying30 infoSD rfl (by decide) hnil [43, 32, 46, 32, 49] (by decide) hsz rfl _ _ rfl (by rfl) _ _ _ (by rfl) (by rfl) ?_))
  intro v6 w6 ho6 hg6 hn6
  have hb6 : Below W1.heap.size W1 w6 := below_own HB5.out hnil hg6 hsz
  have HB6 : Hid (Below w.heap.size w w6) := HB.out.trans (hb6.mono HB.out.size)
  obtain ⟨g6, c6, rfl, hcell6⟩ : ∃ g6 c6, v6 = .slice (some ⟨g6, 0, none⟩) 1 c6 ∧ w6.cell? ⟨g6, 0, none⟩ = some (.string ⟨#[43, 32, 46, 32, 49]⟩) := by
    obtain ⟨a6, c6, hv6, -, -⟩ := (OwnL.row ho6).shape
    have hr := OwnL.row ho6
    rcases ho6.2 with ⟨-, h2⟩ | ⟨g, cap, cur, h1, -⟩
    · simp at h2
    · rw [h1] at hr
      obtain ⟨b7, o7, e7, h7⟩ := rowCellP hr (i := 0) rfl
      cases e7
      exact ⟨g, cap, h1, h7⟩
  clear hnil hg6 hn6 ho6 hb6 hsz HB5
  go_wp2_with fail
  rw [rounds_succ]
  go_wp2_with fail
  go_ret
  exact ⟨g6, c6, rfl, hcell6, HB6.out⟩
set_option maxRecDepth 100000 in
set_option maxHeartbeats 2000000 in
theorem alive30 {w : World} (hP : PowU w) : Calls Tryd.prog 4 #[] w fun e w' => e = .returned (.bool true) ∧ Below w.heap.size w w' := by
  have HC := Lib.hid (lines_c hP)
  clear hP
  go_enter Tryd.func4, Tryd.ntmps4
  go_wp2_with fail
  refine HC.out.mono ?_
  rintro e w1 ⟨b, c, rfl, hcell, hbe⟩
  have HW : Hid (∀ W : World, Calls Tryd.prog 9 #[.int .i64 1] W fun e w' => e = .returned (.string ⟨#[97, 100, 100, 101, 100]⟩) ∧ Below W.heap.size W w') := fun W => wordD_any 1 W
  have HB := Lib.hid hbe
  clear HC hbe
  go_wp2_with fail
  refine (HW.out w1).mono ?_
  rintro e w2 ⟨rfl, hb2⟩
  have HB2 := Lib.hid (HB.out.trans (hb2.mono HB.out.size))
  clear hb2 HW
  go_wp2_with fail
  go_ret
  exact ⟨rfl, HB2.out⟩
end Go.Proofs.YtcjflglpkpkflaaDoor
