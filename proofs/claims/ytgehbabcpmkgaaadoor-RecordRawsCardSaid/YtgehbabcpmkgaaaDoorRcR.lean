/- The walk of the reference's Parse of a record. At most 1000000 bytes. -/
import Derived.Test.YtgehbabcpmkgaaaDoorRcA
import Derived.Test.YtgehbabcpmkgaaaDoorAskR
namespace Go.Proofs.YtgehbabcpmkgaaaDoor
open Go Go.RowKit
set_option linter.unusedVariables false
def rcV (r : Rc) : Value := .agg #[.int .i64 r.n, .int .i64 r.k, .int .u64 r.bits, .string (strB r.text), .string (strB r.raw)]
theorem rcV_def (n k : Int) (bits : Nat) (text raw : List UInt8) : rcV ⟨n, k, bits, text, raw⟩ = .agg #[.int .i64 n, .int .i64 k, .int .u64 bits, .string (strB text), .string (strB raw)] := rfl
theorem strB_nil : strB [] = { data := #[] } := rfl
/-- two blocks of five cells, one behind the other -/
theorem two_blocks (w : World) (T : TypeId) (cs ds : Array Value) : CellsAt ((w.alloc (.cells cs T)).alloc (.cells ds T)) w.heap.size T cs ∧ CellsAt ((w.alloc (.cells cs T)).alloc (.cells ds T)) (w.heap.size + 1) T ds ∧ Below w.heap.size w ((w.alloc (.cells cs T)).alloc (.cells ds T)) := by
  refine ⟨(CellsAt.new w cs T).stays ((Below.refl _ _).alloc (Nat.le_refl _) _), ?_, ((Below.refl _ _).alloc (Nat.le_refl _) _).alloc (by simp) _⟩
  have := CellsAt.new (w.alloc (.cells cs T)) ds T
  simpa using this
theorem slice_to {w : World} {a : Option Addr} {c : Nat} {bs : List UInt8} (hr : RowB w (.slice a bs.length c) bs) (m : Nat) (hm : m ≤ bs.length) : RowB w (.slice a m c) (bs.take m) := by
  have h := hr.gen.to m hm
  unfold RowB
  unfold RowL at h
  exact h
section
variable (v : Value) (bs : List UInt8) (w : World) (hr : RowB w v bs) (hlen : bs.length ≤ 1000000)
include hr hlen
theorem rcParseR_bad (e : Nat) (he : e ≠ 0) (ht : tparse bs = (0, 0, 0, e)) :
    Calls Tryd.prog 43 #[v] w fun en w' => en = .returned (.tuple #[.agg #[.int .i64 0, .int .i64 0, .int .u64 0, .string { data := #[] }, .string { data := #[] }], .int .i64 0, .int .i64 e]) ∧ Below w.heap.size w w' := by
  have hb : Below w.heap.size w (w.alloc (.cells #[.int .i64 0, .int .i64 0, .int .u64 0, .string { data := #[] }, .string { data := #[] }] 73)) := (Below.refl _ _).alloc (Nat.le_refl _) _
  have hp := tParseR_any v bs _ (hr.stays hb) hlen
  rw [ht] at hp
  have HP := Lib.hid hp
  have hkb : ((e : Int) != 0) = true := by simp; omega
  clear hp hr ht he
  go_enter Tryd.func43, Tryd.ntmps43
  go_wp2_with fail
  refine HP.out.mono ?_
  rintro en w1 ⟨rfl, rfl⟩
  go_wp2_with fail
  exact bodyPost_ret (v := .tuple #[.agg #[.int .i64 0, .int .i64 0, .int .u64 0, .string { data := #[] }, .string { data := #[] }], .int .i64 0, .int .i64 e]) (by simp [results, Tryd.results43, go_sem]) rfl ⟨rfl, hb⟩
set_option maxRecDepth 100000 in
set_option maxHeartbeats 2000000 in
theorem rcParseR_fix (n k : Int) (p m : Nat) (ht : tparse bs = (n, k, p, 0)) (hk : k = 1 ∧ m = 8 ∨ k = 5 ∧ m = 4) (hpl : p ≤ bs.length) (hn : 1 ≤ n ∧ n ≤ 536870911) :
    Calls Tryd.prog 43 #[v] w fun en w' => en = .returned (.tuple #[rcV (rfix bs n k p m).1, .int .i64 (rfix bs n k p m).2.1, .int .i64 (rfix bs n k p m).2.2]) ∧ Below w.heap.size w w' := by
  have hb : Below w.heap.size w (w.alloc (.cells #[.int .i64 0, .int .i64 0, .int .u64 0, .string { data := #[] }, .string { data := #[] }] 73)) := (Below.refl _ _).alloc (Nat.le_refl _) _
  have hp := tParseR_any v bs _ (hr.stays hb) hlen
  rw [ht] at hp
  have HP := Lib.hid hp
  obtain ⟨hc0, hc9, hb9⟩ := two_blocks w 73 #[.int .i64 0, .int .i64 0, .int .u64 0, .string { data := #[] }, .string { data := #[] }] #[.int .i64 n, .int .i64 k, .int .u64 0, .string { data := #[] }, .string { data := #[] }]
  obtain ⟨a, c, rfl, -, -⟩ := hr.gen.shape
  have hm8 : m ≤ 8 := by omega
  have hm4 : 4 ≤ m := by omega
  have hcap := hr.gen.cap
  by_cases hs : bs.length - p < m
  · have HR : Hid (rfix bs n k p m = (rcZ, 0, 2)) := if_pos hs
    have hsi : decide (((bs.length : Int) - p) < m) = true := decide_eq_true (by omega)
    clear hp ht hr hc0 hc9
    rcases hk with ⟨rfl, rfl⟩ | ⟨rfl, rfl⟩
    all_goals
      go_enter Tryd.func43, Tryd.ntmps43
      go_wp2_with fail
      refine HP.out.mono ?_
      rintro en w1 ⟨rfl, rfl⟩
      go_wp2_with fail
      exact bodyPost_ret (v := .tuple #[.agg #[.int .i64 0, .int .i64 0, .int .u64 0, .string { data := #[] }, .string { data := #[] }], .int .i64 0, .int .i64 2]) (by simp [results, Tryd.results43, go_sem]) rfl ⟨by rw [HR.out]; rfl, hb9⟩
  · have HR : Hid (rfix bs n k p m = (⟨n, k, fixedV ((bs.drop p).take m), [], bs.take (p + m)⟩, p + m, 0)) := if_neg hs
    have HF : Hid (∀ W, Below w.heap.size w W → Calls Tryd.prog 88 #[.slice a bs.length c, .int .i64 p, .int .i64 m] W fun e w' => e = .returned (.int .u64 (fixedV ((bs.drop p).take m))) ∧ W = w') := fun W h => rfixed_any _ bs p m W (hr.stays h) hlen hm8 (by omega)
    have HCV : Hid (∀ W, Below w.heap.size w W → (convert 23 9 (.slice a (p + m) c)).run Tryd.prog W = .ok (.string (strB (bs.take (p + m)))) W) := fun W h => convert_str (slice_to (hr.stays h) (p + m) (by omega))
    obtain ⟨q, hq⟩ : ∃ q, q = fixedV ((bs.drop p).take m) := ⟨_, rfl⟩
    obtain ⟨raw, hraw⟩ : ∃ raw, raw = bs.take (p + m) := ⟨_, rfl⟩
    rw [← hq] at HF HR
    rw [← hraw] at HCV HR
    have hsl : (p : Int) + m ≤ bs.length := by omega
    have hqb : (q : Int) ≤ 18446744073709551615 := by have := fixedV_lt8 ((bs.drop p).take m) (by simp; omega); omega
    have HC0 := Lib.hid hc0
    have HC9 := Lib.hid hc9
    clear hp ht hr hs hq hraw hc0 hc9
    rcases hk with ⟨rfl, rfl⟩ | ⟨rfl, rfl⟩
    · have HFm : Hid (∀ W, Below w.heap.size w W → Calls Tryd.prog 88 #[.slice a bs.length c, .int .i64 p, .int .i64 8] W fun e w' => e = .returned (.int .u64 q) ∧ W = w') := HF
      have HCm : Hid (∀ W, Below w.heap.size w W → (convert 23 9 (.slice a (p + 8) c)).run Tryd.prog W = .ok (.string (strB raw)) W) := HCV
      have hs1 : (p : Int) + 8 ≤ bs.length := hsl
      have hs2 : (p : Int) + 8 ≤ c := by omega
      have hs3 : ((p : Int) + 8).toNat = p + 8 := by omega
      clear HF HCV hsl
      go_enter Tryd.func43, Tryd.ntmps43
      go_wp2_with fail
      refine HP.out.mono ?_
      rintro en w1 ⟨rfl, rfl⟩
      go_wp2_with fail
      obtain ⟨W, hW⟩ : ∃ W, W = (w.alloc (.cells #[.int .i64 0, .int .i64 0, .int .u64 0, .string { data := #[] }, .string { data := #[] }] 73)).alloc (.cells #[.int .i64 n, .int .i64 1, .int .u64 0, .string { data := #[] }, .string { data := #[] }] 73) := ⟨_, rfl⟩
      rw [← hW] at HC0 HC9 hb9 ⊢
      refine (HFm.out _ hb9).mono ?_
      rintro en w1 ⟨rfl, rfl⟩
      have c0 := HC9.out.cell 0 (v := .int .i64 n) rfl
      have c1 := HC9.out.cell 1 (v := .int .i64 1) rfl
      have c2 := HC9.out.cell 2 (v := .int .u64 0) rfl
      have c3 := HC9.out.cell 3 (v := .string { data := #[] }) rfl
      have c4 := HC9.out.cell 4 (v := .string { data := #[] }) rfl
      have f2 := HC9.out.free 2
      have f4 := HC9.out.free 4
      have d0 := HC0.out.cell 0 (v := .int .i64 0) rfl
      have d1 := HC0.out.cell 1 (v := .int .i64 0) rfl
      have d2 := HC0.out.cell 2 (v := .int .u64 0) rfl
      have d3 := HC0.out.cell 3 (v := .string { data := #[] }) rfl
      have d4 := HC0.out.cell 4 (v := .string { data := #[] }) rfl
      have g0 := HC0.out.free 0
      have g1 := HC0.out.free 1
      have g2 := HC0.out.free 2
      have g3 := HC0.out.free 3
      have g4 := HC0.out.free 4
      have hcv := HCm.out _ (hb9.setCell (p := ⟨w.heap.size + 1, 2, none⟩) (by simp) (.int .u64 q))
      clear HP HFm HCm hW
      go_wp2_with fail
      exact bodyPost_ret (v := .tuple #[.agg #[.int .i64 n, .int .i64 1, .int .u64 q, .string { data := #[] }, .string (strB raw)], .int .i64 ((p : Int) + 8), .int .i64 0]) (by simp [results, Tryd.results43, go_sem, d0, d1, d2, d3, d4]) rfl ⟨by rw [HR.out, rcV_def, strB_nil]; rfl, by
        refine Below.setCell (Below.setCell (Below.setCell (Below.setCell (Below.setCell (Below.setCell (Below.setCell hb9 ?_ _) ?_ _) ?_ _) ?_ _) ?_ _) ?_ _) ?_ _
        all_goals first | exact Nat.le_refl _ | exact Nat.le_succ _⟩
    · have HFm : Hid (∀ W, Below w.heap.size w W → Calls Tryd.prog 88 #[.slice a bs.length c, .int .i64 p, .int .i64 4] W fun e w' => e = .returned (.int .u64 q) ∧ W = w') := HF
      have HCm : Hid (∀ W, Below w.heap.size w W → (convert 23 9 (.slice a (p + 4) c)).run Tryd.prog W = .ok (.string (strB raw)) W) := HCV
      have hs1 : (p : Int) + 4 ≤ bs.length := hsl
      have hs2 : (p : Int) + 4 ≤ c := by omega
      have hs3 : ((p : Int) + 4).toNat = p + 4 := by omega
      clear HF HCV hsl
      go_enter Tryd.func43, Tryd.ntmps43
      go_wp2_with fail
      refine HP.out.mono ?_
      rintro en w1 ⟨rfl, rfl⟩
      go_wp2_with fail
      obtain ⟨W, hW⟩ : ∃ W, W = (w.alloc (.cells #[.int .i64 0, .int .i64 0, .int .u64 0, .string { data := #[] }, .string { data := #[] }] 73)).alloc (.cells #[.int .i64 n, .int .i64 5, .int .u64 0, .string { data := #[] }, .string { data := #[] }] 73) := ⟨_, rfl⟩
      rw [← hW] at HC0 HC9 hb9 ⊢
      refine (HFm.out _ hb9).mono ?_
      rintro en w1 ⟨rfl, rfl⟩
      have c0 := HC9.out.cell 0 (v := .int .i64 n) rfl
      have c1 := HC9.out.cell 1 (v := .int .i64 5) rfl
      have c2 := HC9.out.cell 2 (v := .int .u64 0) rfl
      have c3 := HC9.out.cell 3 (v := .string { data := #[] }) rfl
      have c4 := HC9.out.cell 4 (v := .string { data := #[] }) rfl
      have f2 := HC9.out.free 2
      have f4 := HC9.out.free 4
      have d0 := HC0.out.cell 0 (v := .int .i64 0) rfl
      have d1 := HC0.out.cell 1 (v := .int .i64 0) rfl
      have d2 := HC0.out.cell 2 (v := .int .u64 0) rfl
      have d3 := HC0.out.cell 3 (v := .string { data := #[] }) rfl
      have d4 := HC0.out.cell 4 (v := .string { data := #[] }) rfl
      have g0 := HC0.out.free 0
      have g1 := HC0.out.free 1
      have g2 := HC0.out.free 2
      have g3 := HC0.out.free 3
      have g4 := HC0.out.free 4
      have hcv := HCm.out _ (hb9.setCell (p := ⟨w.heap.size + 1, 2, none⟩) (by simp) (.int .u64 q))
      clear HP HFm HCm hW
      go_wp2_with fail
      exact bodyPost_ret (v := .tuple #[.agg #[.int .i64 n, .int .i64 5, .int .u64 q, .string { data := #[] }, .string (strB raw)], .int .i64 ((p : Int) + 4), .int .i64 0]) (by simp [results, Tryd.results43, go_sem, d0, d1, d2, d3, d4]) rfl ⟨by rw [HR.out, rcV_def, strB_nil]; rfl, by
        refine Below.setCell (Below.setCell (Below.setCell (Below.setCell (Below.setCell (Below.setCell (Below.setCell hb9 ?_ _) ?_ _) ?_ _) ?_ _) ?_ _) ?_ _) ?_ _
        all_goals first | exact Nat.le_refl _ | exact Nat.le_succ _⟩
set_option maxRecDepth 100000 in
set_option maxHeartbeats 2000000 in
theorem rcParseR_bv0 (n : Int) (p q : Nat) (ht : tparse bs = (n, 0, p, 0)) (hpl : p ≤ bs.length) (hq : q ≠ 0) (hv : vparse 0 0 (bs.drop p) = (0, 0, q)) :
    Calls Tryd.prog 43 #[v] w fun en w' => en = .returned (.tuple #[.agg #[.int .i64 0, .int .i64 0, .int .u64 0, .string { data := #[] }, .string { data := #[] }], .int .i64 0, .int .i64 q]) ∧ Below w.heap.size w w' := by
  have hb : Below w.heap.size w (w.alloc (.cells #[.int .i64 0, .int .i64 0, .int .u64 0, .string { data := #[] }, .string { data := #[] }] 73)) := (Below.refl _ _).alloc (Nat.le_refl _) _
  have hp := tParseR_any v bs _ (hr.stays hb) hlen
  rw [ht] at hp
  have HP := Lib.hid hp
  obtain ⟨hc0, hc9, hb9⟩ := two_blocks w 73 #[.int .i64 0, .int .i64 0, .int .u64 0, .string { data := #[] }, .string { data := #[] }] #[.int .i64 n, .int .i64 0, .int .u64 0, .string { data := #[] }, .string { data := #[] }]
  obtain ⟨a, c, rfl, -, -⟩ := hr.gen.shape
  have hcap := hr.gen.cap
  have HRW : Hid (∀ W, Below w.heap.size w W → RowB W (.slice a bs.length c) bs) := fun W h => hr.stays h
  have HVP : Hid (∀ W v', RowB W v' (bs.drop p) → Calls Tryd.prog 93 #[v'] W fun e w' => e = .returned (.tuple #[.int .u64 (vparse 0 0 (bs.drop p)).1, .int .i64 (vparse 0 0 (bs.drop p)).2.1, .int .i64 (vparse 0 0 (bs.drop p)).2.2]) ∧ W = w') := fun W v' h => vParseR_any v' _ W h (by rw [List.length_drop]; omega)
  rw [hv] at HVP
  have HC0 := Lib.hid hc0
  have HC9 := Lib.hid hc9
  have hqb : ((q : Int) != 0) = true := by simp; omega
  clear hp ht hr hc0 hc9 hv hq
  go_enter Tryd.func43, Tryd.ntmps43
  go_wp2_with fail
  refine HP.out.mono ?_
  rintro en w1 ⟨rfl, rfl⟩
  go_wp2_with (refine wpList_sliceFrom (o := ⟨some 62, _, _, _, _, _⟩) (HRW.out _ hb9).gen p hpl Tryd.underlying23 infoB rfl _ _ rfl (by rfl) _ _ (by rfl) rfl ?_)
  intro v3 hr3
  obtain ⟨W, hW⟩ : ∃ W, W = (w.alloc (.cells #[.int .i64 0, .int .i64 0, .int .u64 0, .string { data := #[] }, .string { data := #[] }] 73)).alloc (.cells #[.int .i64 n, .int .i64 0, .int .u64 0, .string { data := #[] }, .string { data := #[] }] 73) := ⟨_, rfl⟩
  rw [← hW] at HC0 HC9 hb9 hr3 ⊢
  clear hW
  go_wp2_with fail
  refine (HVP.out W v3 hr3).mono ?_
  rintro en w1 ⟨rfl, rfl⟩
  have d0 := HC0.out.cell 0 (v := .int .i64 0) rfl
  have d1 := HC0.out.cell 1 (v := .int .i64 0) rfl
  have d2 := HC0.out.cell 2 (v := .int .u64 0) rfl
  have d3 := HC0.out.cell 3 (v := .string { data := #[] }) rfl
  have d4 := HC0.out.cell 4 (v := .string { data := #[] }) rfl
  have g0 := HC0.out.free 0
  have g1 := HC0.out.free 1
  have g2 := HC0.out.free 2
  have g3 := HC0.out.free 3
  have g4 := HC0.out.free 4
  clear HP HRW HVP
  go_wp2_with fail
  exact bodyPost_ret (v := .tuple #[.agg #[.int .i64 0, .int .i64 0, .int .u64 0, .string { data := #[] }, .string { data := #[] }], .int .i64 0, .int .i64 q]) (by simp [results, Tryd.results43, go_sem, d0, d1, d2, d3, d4]) rfl ⟨rfl, ((((hb9.setCell (Nat.le_refl _) _).setCell (Nat.le_refl _) _).setCell (Nat.le_refl _) _).setCell (Nat.le_refl _) _).setCell (Nat.le_refl _) _⟩
set_option maxRecDepth 100000 in
set_option maxHeartbeats 2000000 in
theorem rcParseR_bv2 (n : Int) (p q : Nat) (ht : tparse bs = (n, 2, p, 0)) (hpl : p ≤ bs.length) (hq : q ≠ 0) (hv : vparse 0 0 (bs.drop p) = (0, 0, q)) :
    Calls Tryd.prog 43 #[v] w fun en w' => en = .returned (.tuple #[.agg #[.int .i64 0, .int .i64 0, .int .u64 0, .string { data := #[] }, .string { data := #[] }], .int .i64 0, .int .i64 q]) ∧ Below w.heap.size w w' := by
  have hb : Below w.heap.size w (w.alloc (.cells #[.int .i64 0, .int .i64 0, .int .u64 0, .string { data := #[] }, .string { data := #[] }] 73)) := (Below.refl _ _).alloc (Nat.le_refl _) _
  have hp := tParseR_any v bs _ (hr.stays hb) hlen
  rw [ht] at hp
  have HP := Lib.hid hp
  obtain ⟨hc0, hc9, hb9⟩ := two_blocks w 73 #[.int .i64 0, .int .i64 0, .int .u64 0, .string { data := #[] }, .string { data := #[] }] #[.int .i64 n, .int .i64 2, .int .u64 0, .string { data := #[] }, .string { data := #[] }]
  obtain ⟨a, c, rfl, -, -⟩ := hr.gen.shape
  have hcap := hr.gen.cap
  have HRW : Hid (∀ W, Below w.heap.size w W → RowB W (.slice a bs.length c) bs) := fun W h => hr.stays h
  have HVP : Hid (∀ W v', RowB W v' (bs.drop p) → Calls Tryd.prog 93 #[v'] W fun e w' => e = .returned (.tuple #[.int .u64 (vparse 0 0 (bs.drop p)).1, .int .i64 (vparse 0 0 (bs.drop p)).2.1, .int .i64 (vparse 0 0 (bs.drop p)).2.2]) ∧ W = w') := fun W v' h => vParseR_any v' _ W h (by rw [List.length_drop]; omega)
  rw [hv] at HVP
  have HC0 := Lib.hid hc0
  have HC9 := Lib.hid hc9
  have hqb : ((q : Int) != 0) = true := by simp; omega
  clear hp ht hr hc0 hc9 hv hq
  go_enter Tryd.func43, Tryd.ntmps43
  go_wp2_with fail
  refine HP.out.mono ?_
  rintro en w1 ⟨rfl, rfl⟩
  go_wp2_with (refine wpList_sliceFrom (o := ⟨some 62, _, _, _, _, _⟩) (HRW.out _ hb9).gen p hpl Tryd.underlying23 infoB rfl _ _ rfl (by rfl) _ _ (by rfl) rfl ?_)
  intro v3 hr3
  obtain ⟨W, hW⟩ : ∃ W, W = (w.alloc (.cells #[.int .i64 0, .int .i64 0, .int .u64 0, .string { data := #[] }, .string { data := #[] }] 73)).alloc (.cells #[.int .i64 n, .int .i64 2, .int .u64 0, .string { data := #[] }, .string { data := #[] }] 73) := ⟨_, rfl⟩
  rw [← hW] at HC0 HC9 hb9 hr3 ⊢
  clear hW
  go_wp2_with fail
  refine (HVP.out W v3 hr3).mono ?_
  rintro en w1 ⟨rfl, rfl⟩
  have d0 := HC0.out.cell 0 (v := .int .i64 0) rfl
  have d1 := HC0.out.cell 1 (v := .int .i64 0) rfl
  have d2 := HC0.out.cell 2 (v := .int .u64 0) rfl
  have d3 := HC0.out.cell 3 (v := .string { data := #[] }) rfl
  have d4 := HC0.out.cell 4 (v := .string { data := #[] }) rfl
  have g0 := HC0.out.free 0
  have g1 := HC0.out.free 1
  have g2 := HC0.out.free 2
  have g3 := HC0.out.free 3
  have g4 := HC0.out.free 4
  clear HP HRW HVP
  go_wp2_with fail
  exact bodyPost_ret (v := .tuple #[.agg #[.int .i64 0, .int .i64 0, .int .u64 0, .string { data := #[] }, .string { data := #[] }], .int .i64 0, .int .i64 q]) (by simp [results, Tryd.results43, go_sem, d0, d1, d2, d3, d4]) rfl ⟨rfl, ((((hb9.setCell (Nat.le_refl _) _).setCell (Nat.le_refl _) _).setCell (Nat.le_refl _) _).setCell (Nat.le_refl _) _).setCell (Nat.le_refl _) _⟩
set_option maxRecDepth 100000 in
set_option maxHeartbeats 2000000 in
theorem rcParseR_var (n : Int) (p q s : Nat) (ht : tparse bs = (n, 0, p, 0)) (hpl : p ≤ bs.length) (hv : vparse 0 0 (bs.drop p) = (q, s, 0)) (hs : p + s ≤ bs.length) (hqb : (q : Int) ≤ 18446744073709551615) (hn : 1 ≤ n ∧ n ≤ 536870911) :
    Calls Tryd.prog 43 #[v] w fun en w' => en = .returned (.tuple #[rcV ⟨n, 0, q, [], bs.take (p + s)⟩, .int .i64 ((p : Int) + s), .int .i64 0]) ∧ Below w.heap.size w w' := by
  have hb : Below w.heap.size w (w.alloc (.cells #[.int .i64 0, .int .i64 0, .int .u64 0, .string { data := #[] }, .string { data := #[] }] 73)) := (Below.refl _ _).alloc (Nat.le_refl _) _
  have hp := tParseR_any v bs _ (hr.stays hb) hlen
  rw [ht] at hp
  have HP := Lib.hid hp
  obtain ⟨hc0, hc9, hb9⟩ := two_blocks w 73 #[.int .i64 0, .int .i64 0, .int .u64 0, .string { data := #[] }, .string { data := #[] }] #[.int .i64 n, .int .i64 0, .int .u64 0, .string { data := #[] }, .string { data := #[] }]
  obtain ⟨a, c, rfl, -, -⟩ := hr.gen.shape
  have hcap := hr.gen.cap
  have HRW : Hid (∀ W, Below w.heap.size w W → RowB W (.slice a bs.length c) bs) := fun W h => hr.stays h
  have HVP : Hid (∀ W v', RowB W v' (bs.drop p) → Calls Tryd.prog 93 #[v'] W fun e w' => e = .returned (.tuple #[.int .u64 (vparse 0 0 (bs.drop p)).1, .int .i64 (vparse 0 0 (bs.drop p)).2.1, .int .i64 (vparse 0 0 (bs.drop p)).2.2]) ∧ W = w') := fun W v' h => vParseR_any v' _ W h (by rw [List.length_drop]; omega)
  rw [hv] at HVP
  have HCm : Hid (∀ W, Below w.heap.size w W → (convert 23 9 (.slice a (p + s) c)).run Tryd.prog W = .ok (.string (strB (bs.take (p + s)))) W) := fun W h => convert_str (slice_to (hr.stays h) (p + s) hs)
  obtain ⟨raw, hraw⟩ : ∃ raw, raw = bs.take (p + s) := ⟨_, rfl⟩
  rw [← hraw] at HCm ⊢
  have hs1 : (p : Int) + s ≤ bs.length := by omega
  have hs2 : (p : Int) + s ≤ c := by omega
  have hs3 : ((p : Int) + s).toNat = p + s := by omega
  have HC0 := Lib.hid hc0
  have HC9 := Lib.hid hc9
  clear hp ht hr hc0 hc9 hv hraw
  go_enter Tryd.func43, Tryd.ntmps43
  go_wp2_with fail
  refine HP.out.mono ?_
  rintro en w1 ⟨rfl, rfl⟩
  go_wp2_with (refine wpList_sliceFrom (o := ⟨some 62, _, _, _, _, _⟩) (HRW.out _ hb9).gen p hpl Tryd.underlying23 infoB rfl _ _ rfl (by rfl) _ _ (by rfl) rfl ?_)
  intro v3 hr3
  obtain ⟨W, hW⟩ : ∃ W, W = (w.alloc (.cells #[.int .i64 0, .int .i64 0, .int .u64 0, .string { data := #[] }, .string { data := #[] }] 73)).alloc (.cells #[.int .i64 n, .int .i64 0, .int .u64 0, .string { data := #[] }, .string { data := #[] }] 73) := ⟨_, rfl⟩
  rw [← hW] at HC0 HC9 hb9 hr3 ⊢
  clear hW
  go_wp2_with fail
  refine (HVP.out W v3 hr3).mono ?_
  rintro en w1 ⟨rfl, rfl⟩
  have c0 := HC9.out.cell 0 (v := .int .i64 n) rfl
  have c1 := HC9.out.cell 1 (v := .int .i64 0) rfl
  have c2 := HC9.out.cell 2 (v := .int .u64 0) rfl
  have c3 := HC9.out.cell 3 (v := .string { data := #[] }) rfl
  have c4 := HC9.out.cell 4 (v := .string { data := #[] }) rfl
  have f2 := HC9.out.free 2
  have f3 := HC9.out.free 3
  have f4 := HC9.out.free 4
  have d0 := HC0.out.cell 0 (v := .int .i64 0) rfl
  have d1 := HC0.out.cell 1 (v := .int .i64 0) rfl
  have d2 := HC0.out.cell 2 (v := .int .u64 0) rfl
  have d3 := HC0.out.cell 3 (v := .string { data := #[] }) rfl
  have d4 := HC0.out.cell 4 (v := .string { data := #[] }) rfl
  have g0 := HC0.out.free 0
  have g1 := HC0.out.free 1
  have g2 := HC0.out.free 2
  have g3 := HC0.out.free 3
  have g4 := HC0.out.free 4
  have hcv := HCm.out _ (hb9.setCell (p := ⟨w.heap.size + 1, 2, none⟩) (by simp) (.int .u64 q))
  clear HP HRW HVP HCm
  go_wp2_with fail
  exact bodyPost_ret (v := .tuple #[.agg #[.int .i64 n, .int .i64 0, .int .u64 q, .string { data := #[] }, .string (strB raw)], .int .i64 ((p : Int) + s), .int .i64 0]) (by simp [results, Tryd.results43, go_sem, d0, d1, d2, d3, d4]) rfl ⟨rfl, by
    refine Below.setCell (Below.setCell (Below.setCell (Below.setCell (Below.setCell (Below.setCell (Below.setCell hb9 ?_ _) ?_ _) ?_ _) ?_ _) ?_ _) ?_ _) ?_ _
    all_goals first | exact Nat.le_refl _ | exact Nat.le_succ _⟩
set_option maxRecDepth 100000 in
set_option maxHeartbeats 2000000 in
theorem rcParseR_txs (n : Int) (p q s : Nat) (ht : tparse bs = (n, 2, p, 0)) (hpl : p ≤ bs.length) (hv : vparse 0 0 (bs.drop p) = (q, s, 0)) (hs : p + s ≤ bs.length) (hqb : (q : Int) ≤ 18446744073709551615) (hn : 1 ≤ n ∧ n ≤ 536870911) (hsh : bs.length - (p + s) < q) :
    Calls Tryd.prog 43 #[v] w fun en w' => en = .returned (.tuple #[.agg #[.int .i64 0, .int .i64 0, .int .u64 0, .string { data := #[] }, .string { data := #[] }], .int .i64 0, .int .i64 2]) ∧ Below w.heap.size w w' := by
  have hb : Below w.heap.size w (w.alloc (.cells #[.int .i64 0, .int .i64 0, .int .u64 0, .string { data := #[] }, .string { data := #[] }] 73)) := (Below.refl _ _).alloc (Nat.le_refl _) _
  have hp := tParseR_any v bs _ (hr.stays hb) hlen
  rw [ht] at hp
  have HP := Lib.hid hp
  obtain ⟨hc0, hc9, hb9⟩ := two_blocks w 73 #[.int .i64 0, .int .i64 0, .int .u64 0, .string { data := #[] }, .string { data := #[] }] #[.int .i64 n, .int .i64 2, .int .u64 0, .string { data := #[] }, .string { data := #[] }]
  obtain ⟨a, c, rfl, -, -⟩ := hr.gen.shape
  have hcap := hr.gen.cap
  have HRW : Hid (∀ W, Below w.heap.size w W → RowB W (.slice a bs.length c) bs) := fun W h => hr.stays h
  have HVP : Hid (∀ W v', RowB W v' (bs.drop p) → Calls Tryd.prog 93 #[v'] W fun e w' => e = .returned (.tuple #[.int .u64 (vparse 0 0 (bs.drop p)).1, .int .i64 (vparse 0 0 (bs.drop p)).2.1, .int .i64 (vparse 0 0 (bs.drop p)).2.2]) ∧ W = w') := fun W v' h => vParseR_any v' _ W h (by rw [List.length_drop]; omega)
  rw [hv] at HVP
  have hs1 : (p : Int) + s ≤ bs.length := by omega
  have hd : decide ((bs.length : Int) - ((p : Int) + s) < q) = true := decide_eq_true (by omega)
  have HC0 := Lib.hid hc0
  have HC9 := Lib.hid hc9
  clear hp ht hr hc0 hc9 hv hsh
  go_enter Tryd.func43, Tryd.ntmps43
  go_wp2_with fail
  refine HP.out.mono ?_
  rintro en w1 ⟨rfl, rfl⟩
  go_wp2_with (refine wpList_sliceFrom (o := ⟨some 62, _, _, _, _, _⟩) (HRW.out _ hb9).gen p hpl Tryd.underlying23 infoB rfl _ _ rfl (by rfl) _ _ (by rfl) rfl ?_)
  intro v3 hr3
  obtain ⟨W, hW⟩ : ∃ W, W = (w.alloc (.cells #[.int .i64 0, .int .i64 0, .int .u64 0, .string { data := #[] }, .string { data := #[] }] 73)).alloc (.cells #[.int .i64 n, .int .i64 2, .int .u64 0, .string { data := #[] }, .string { data := #[] }] 73) := ⟨_, rfl⟩
  rw [← hW] at HC0 HC9 hb9 hr3 ⊢
  clear hW
  go_wp2_with fail
  refine (HVP.out W v3 hr3).mono ?_
  rintro en w1 ⟨rfl, rfl⟩
  have d0 := HC0.out.cell 0 (v := .int .i64 0) rfl
  have d1 := HC0.out.cell 1 (v := .int .i64 0) rfl
  have d2 := HC0.out.cell 2 (v := .int .u64 0) rfl
  have d3 := HC0.out.cell 3 (v := .string { data := #[] }) rfl
  have d4 := HC0.out.cell 4 (v := .string { data := #[] }) rfl
  have g0 := HC0.out.free 0
  have g1 := HC0.out.free 1
  have g2 := HC0.out.free 2
  have g3 := HC0.out.free 3
  have g4 := HC0.out.free 4
  clear HP HRW HVP
  go_wp2_with fail
  exact bodyPost_ret (v := .tuple #[.agg #[.int .i64 0, .int .i64 0, .int .u64 0, .string { data := #[] }, .string { data := #[] }], .int .i64 0, .int .i64 2]) (by simp [results, Tryd.results43, go_sem, d0, d1, d2, d3, d4]) rfl ⟨rfl, ((((hb9.setCell (Nat.le_refl _) _).setCell (Nat.le_refl _) _).setCell (Nat.le_refl _) _).setCell (Nat.le_refl _) _).setCell (Nat.le_refl _) _⟩
set_option maxRecDepth 100000 in
set_option maxHeartbeats 2000000 in
theorem rcParseR_txt (n : Int) (p q s : Nat) (ht : tparse bs = (n, 2, p, 0)) (hpl : p ≤ bs.length) (hv : vparse 0 0 (bs.drop p) = (q, s, 0)) (hs : p + s + q ≤ bs.length) (hn : 1 ≤ n ∧ n ≤ 536870911) :
    Calls Tryd.prog 43 #[v] w fun en w' => en = .returned (.tuple #[rcV ⟨n, 2, 0, (bs.drop (p + s)).take q, bs.take (p + s + q)⟩, .int .i64 ((p : Int) + s + q), .int .i64 0]) ∧ Below w.heap.size w w' := by
  have hb : Below w.heap.size w (w.alloc (.cells #[.int .i64 0, .int .i64 0, .int .u64 0, .string { data := #[] }, .string { data := #[] }] 73)) := (Below.refl _ _).alloc (Nat.le_refl _) _
  have hp := tParseR_any v bs _ (hr.stays hb) hlen
  rw [ht] at hp
  have HP := Lib.hid hp
  obtain ⟨hc0, hc9, hb9⟩ := two_blocks w 73 #[.int .i64 0, .int .i64 0, .int .u64 0, .string { data := #[] }, .string { data := #[] }] #[.int .i64 n, .int .i64 2, .int .u64 0, .string { data := #[] }, .string { data := #[] }]
  obtain ⟨a, c, rfl, -, -⟩ := hr.gen.shape
  have hcap := hr.gen.cap
  have HRW : Hid (∀ W, Below w.heap.size w W → RowB W (.slice a bs.length c) bs) := fun W h => hr.stays h
  have HVP : Hid (∀ W v', RowB W v' (bs.drop p) → Calls Tryd.prog 93 #[v'] W fun e w' => e = .returned (.tuple #[.int .u64 (vparse 0 0 (bs.drop p)).1, .int .i64 (vparse 0 0 (bs.drop p)).2.1, .int .i64 (vparse 0 0 (bs.drop p)).2.2]) ∧ W = w') := fun W v' h => vParseR_any v' _ W h (by rw [List.length_drop]; omega)
  rw [hv] at HVP
  have HCm : Hid (∀ W, Below w.heap.size w W → (convert 23 9 (.slice a (p + s + q) c)).run Tryd.prog W = .ok (.string (strB (bs.take (p + s + q)))) W) := fun W h => convert_str (slice_to (hr.stays h) (p + s + q) hs)
  obtain ⟨raw, hraw⟩ : ∃ raw, raw = bs.take (p + s + q) := ⟨_, rfl⟩
  rw [← hraw] at HCm ⊢
  obtain ⟨txt, htxt⟩ : ∃ txt, txt = (bs.drop (p + s)).take q := ⟨_, rfl⟩
  rw [← htxt]
  have HTX : Hid ((bs.take (p + s + q)).drop (p + s) = txt) := by show _ = _; rw [htxt, List.drop_take, Nat.add_sub_cancel_left]
  have hs1 : (p : Int) + s + q ≤ bs.length := by omega
  have hs2 : (p : Int) + s + q ≤ c := by omega
  have hs3 : ((p : Int) + s + q).toNat = p + s + q := by omega
  have hps : ((p : Int) + s) = ((p + s : Nat) : Int) := by omega
  have hd : decide ((bs.length : Int) - ((p : Int) + s) < q) = false := decide_eq_false (by omega)
  have HPS := Lib.hid hps
  have HC0 := Lib.hid hc0
  have HC9 := Lib.hid hc9
  clear hp ht hr hc0 hc9 hv hraw htxt hps
  go_enter Tryd.func43, Tryd.ntmps43
  go_wp2_with fail
  refine HP.out.mono ?_
  rintro en w1 ⟨rfl, rfl⟩
  go_wp2_with (refine wpList_sliceFrom (o := ⟨some 62, _, _, _, _, _⟩) (HRW.out _ hb9).gen p hpl Tryd.underlying23 infoB rfl _ _ rfl (by rfl) _ _ (by rfl) rfl ?_)
  intro v3 hr3
  obtain ⟨W, hW⟩ : ∃ W, W = (w.alloc (.cells #[.int .i64 0, .int .i64 0, .int .u64 0, .string { data := #[] }, .string { data := #[] }] 73)).alloc (.cells #[.int .i64 n, .int .i64 2, .int .u64 0, .string { data := #[] }, .string { data := #[] }] 73) := ⟨_, rfl⟩
  rw [← hW] at HC0 HC9 hb9 hr3 ⊢
  clear hW
  go_wp2_with fail
  refine (HVP.out W v3 hr3).mono ?_
  rintro en w1 ⟨rfl, rfl⟩
  have c0 := HC9.out.cell 0 (v := .int .i64 n) rfl
  have c1 := HC9.out.cell 1 (v := .int .i64 2) rfl
  have c2 := HC9.out.cell 2 (v := .int .u64 0) rfl
  have c3 := HC9.out.cell 3 (v := .string { data := #[] }) rfl
  have c4 := HC9.out.cell 4 (v := .string { data := #[] }) rfl
  have f2 := HC9.out.free 2
  have f3 := HC9.out.free 3
  have f4 := HC9.out.free 4
  have d0 := HC0.out.cell 0 (v := .int .i64 0) rfl
  have d1 := HC0.out.cell 1 (v := .int .i64 0) rfl
  have d2 := HC0.out.cell 2 (v := .int .u64 0) rfl
  have d3 := HC0.out.cell 3 (v := .string { data := #[] }) rfl
  have d4 := HC0.out.cell 4 (v := .string { data := #[] }) rfl
  have g0 := HC0.out.free 0
  have g1 := HC0.out.free 1
  have g2 := HC0.out.free 2
  have g3 := HC0.out.free 3
  have g4 := HC0.out.free 4
  clear HP HVP
  go_wp2_with (refine wpList_slicePart (o := ⟨some 100, _, _, _, _, _⟩) (HRW.out W hb9).gen (p + s) (p + s + q) (by omega) hs Tryd.underlying23 infoB rfl _ _ _ rfl (by rfl) _ _ (by rfl) (by omega) _ _ (by rfl) (by omega) ?_)
  intro v4 hr4
  have hcv4 := convert_str (show RowB W v4 _ from hr4)
  rw [HTX.out] at hcv4
  have hcv := HCm.out _ (hb9.setCell (p := ⟨w.heap.size + 1, 3, none⟩) (by simp) (.string (strB txt)))
  clear HCm HRW hr4
  go_wp2_with fail
  exact bodyPost_ret (v := .tuple #[.agg #[.int .i64 n, .int .i64 2, .int .u64 0, .string (strB txt), .string (strB raw)], .int .i64 ((p : Int) + s + q), .int .i64 0]) (by simp [results, Tryd.results43, go_sem, d0, d1, d2, d3, d4]) rfl ⟨rfl, by
    refine Below.setCell (Below.setCell (Below.setCell (Below.setCell (Below.setCell (Below.setCell (Below.setCell hb9 ?_ _) ?_ _) ?_ _) ?_ _) ?_ _) ?_ _) ?_ _
    all_goals first | exact Nat.le_refl _ | exact Nat.le_succ _⟩
theorem rcParseR_any :
    Calls Tryd.prog 43 #[v] w fun en w' => en = .returned (.tuple #[rcV (rparse bs).1, .int .i64 (rparse bs).2.1, .int .i64 (rparse bs).2.2]) ∧ Below w.heap.size w w' := by
  rcases tparse_cases bs with ⟨n, k, p, ht, hn1, hn2, hk, hp1, hp2⟩ | ⟨e, he, h19, ht⟩
  · rcases hk with rfl | rfl | rfl | rfl
    · rw [rparse_0 ht rfl]
      unfold rvar
      rcases vparse_cases (bs.drop p) with ⟨q, s, hv, hs1, hs2, hvn⟩ | ⟨e, he, h19, hv⟩
      · have h := rcParseR_var v bs w hr hlen n p q s ht hp2 hv (by rw [List.length_drop] at hs2; omega) (by omega) ⟨hn1, hn2⟩
        rw [hv]
        exact h
      · have h := rcParseR_bv0 v bs w hr hlen n p e ht hp2 he hv
        rw [hv]
        simp only [ne_eq, he, not_false_eq_true, if_true]
        exact h
    · rw [rparse_1 ht rfl]
      exact rcParseR_fix v bs w hr hlen n 1 p 8 ht (.inl ⟨rfl, rfl⟩) hp2 ⟨hn1, hn2⟩
    · rw [rparse_2 ht rfl]
      unfold rtxt
      rcases vparse_cases (bs.drop p) with ⟨q, s, hv, hs1, hs2, hvn⟩ | ⟨e, he, h19, hv⟩
      · rw [List.length_drop] at hs2
        rw [hv]
        by_cases hsh : bs.length - (p + s) < q
        · have h := rcParseR_txs v bs w hr hlen n p q s ht hp2 hv (by omega) (by omega) ⟨hn1, hn2⟩ hsh
          simp only [ne_eq, not_true, if_false, hsh, if_true]
          exact h
        · have h := rcParseR_txt v bs w hr hlen n p q s ht hp2 hv (by omega) ⟨hn1, hn2⟩
          simp only [ne_eq, not_true, if_false, hsh]
          exact h
      · have h := rcParseR_bv2 v bs w hr hlen n p e ht hp2 he hv
        rw [hv]
        simp only [ne_eq, he, not_false_eq_true, if_true]
        exact h
    · rw [rparse_5 ht rfl]
      exact rcParseR_fix v bs w hr hlen n 5 p 4 ht (.inr ⟨rfl, rfl⟩) hp2 ⟨hn1, hn2⟩
  · rw [rparse_bad (by rw [ht]; exact he), ht]
    exact rcParseR_bad v bs w hr hlen e he ht
end
end Go.Proofs.YtgehbabcpmkgaaaDoor
