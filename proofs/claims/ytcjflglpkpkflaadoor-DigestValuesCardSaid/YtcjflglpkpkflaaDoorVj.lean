/- The program's own, bare. -/
import Derived.Test.YtcjflglpkpkflaaDoorVi
namespace Go.Proofs.YtcjflglpkpkflaaDoor
open Go Go.RowKit
set_option linter.unusedVariables false
section
variable {k : Int} {n : Nat} {t r : List UInt8} {fs : List (Int × V)} {ls : List V} {ps : List (V × V)} {fa la pa : Option Addr} {fc lc pc : Nat} {S : Nat → Prop} {w : World}
/-- what 'own' answers -/
def OwnP (k : Int) (n : Nat) (t r : List UInt8) (fs : List (Int × V)) (ls : List V) (ps : List (V × V)) (w : World) (e : Ending) (w' : World) : Prop :=
  ∃ (fa' la' pa' : Option Addr) (fc' lc' pc' : Nat), e = .returned (.agg #[.int .i64 k, .int .u64 ((if k = 1 then 0 else n : Nat) : Int), .string (strB (if k = 2 then [] else t)), .slice fa' (if k = 3 then [] else fs).length fc', .string (strB (if k = 3 then [] else r)), .slice la' (if k = 4 then [] else ls).length lc', .slice pa' (if k = 5 then [] else ps).length pc']) ∧ Below w.heap.size w w'
theorem strB_nil : strB [] = ⟨#[]⟩ := rfl
set_option maxRecDepth 100000 in
set_option maxHeartbeats 4000000 in
theorem own_lit : Calls Tryd.prog 75 #[.agg #[.int .i64 k, .int .u64 (n : Int), .string (strB t), .slice fa fs.length fc, .string (strB r), .slice la ls.length lc, .slice pa ps.length pc]] w (OwnP k n t r fs ls ps w) := by
  have HB1 : Hid (∀ o o', Below w.heap.size w ((w.alloc o).alloc o')) := fun o o' => ((Below.refl _ _).alloc (Nat.le_refl _) _).alloc (by simp) _
  by_cases k1 : k = 1
  · subst k1
    go_enter Tryd.func75, Tryd.ntmps75
    go_wp2_with fail
    exact bodyPost_ret (v := .agg #[.int .i64 1, .int .u64 0, .string (strB t), .slice fa fs.length fc, .string (strB r), .slice la ls.length lc, .slice pa ps.length pc]) (by simp [results, Tryd.results75, go_sem]) rfl ⟨fa, la, pa, fc, lc, pc, rfl, HB1.out _ _⟩
  have f1 : (k == 1) = false := by simpa using k1
  by_cases k2 : k = 2
  · subst k2
    go_enter Tryd.func75, Tryd.ntmps75
    go_wp2_with fail
    exact bodyPost_ret (v := .agg #[.int .i64 2, .int .u64 (n : Int), .string (strB []), .slice fa fs.length fc, .string (strB r), .slice la ls.length lc, .slice pa ps.length pc]) (by simp [results, Tryd.results75, strB_nil, go_sem]) rfl ⟨fa, la, pa, fc, lc, pc, rfl, HB1.out _ _⟩
  have f2 : (k == 2) = false := by simpa using k2
  by_cases k3 : k = 3
  · subst k3
    go_enter Tryd.func75, Tryd.ntmps75
    go_wp2_with fail
    exact bodyPost_ret (v := .agg #[.int .i64 3, .int .u64 (n : Int), .string (strB t), .slice none 0 0, .string (strB []), .slice la ls.length lc, .slice pa ps.length pc]) (by simp [results, Tryd.results75, strB_nil, go_sem]) rfl ⟨none, la, pa, 0, lc, pc, rfl, HB1.out _ _⟩
  have f3 : (k == 3) = false := by simpa using k3
  by_cases k4 : k = 4
  · subst k4
    go_enter Tryd.func75, Tryd.ntmps75
    go_wp2_with fail
    exact bodyPost_ret (v := .agg #[.int .i64 4, .int .u64 (n : Int), .string (strB t), .slice fa fs.length fc, .string (strB r), .slice none 0 0, .slice pa ps.length pc]) (by simp [results, Tryd.results75, go_sem]) rfl ⟨fa, none, pa, fc, 0, pc, rfl, HB1.out _ _⟩
  have f4 : (k == 4) = false := by simpa using k4
  by_cases k5 : k = 5
  · subst k5
    go_enter Tryd.func75, Tryd.ntmps75
    go_wp2_with fail
    exact bodyPost_ret (v := .agg #[.int .i64 5, .int .u64 (n : Int), .string (strB t), .slice fa fs.length fc, .string (strB r), .slice la ls.length lc, .slice none 0 0]) (by simp [results, Tryd.results75, go_sem]) rfl ⟨fa, la, none, fc, lc, 0, rfl, HB1.out _ _⟩
  have f5 : (k == 5) = false := by simpa using k5
  have HE : Hid (∃ (fa' la' pa' : Option Addr) (fc' lc' pc' : Nat), Ending.returned (.agg #[.int .i64 k, .int .u64 (n : Int), .string (strB t), .slice fa fs.length fc, .string (strB r), .slice la ls.length lc, .slice pa ps.length pc]) = .returned (.agg #[.int .i64 k, .int .u64 ((if k = 1 then 0 else n : Nat) : Int), .string (strB (if k = 2 then [] else t)), .slice fa' (if k = 3 then [] else fs).length fc', .string (strB (if k = 3 then [] else r)), .slice la' (if k = 4 then [] else ls).length lc', .slice pa' (if k = 5 then [] else ps).length pc'])) := ⟨fa, la, pa, fc, lc, pc, by rw [if_neg k1, if_neg k2, if_neg k3, if_neg k3, if_neg k4, if_neg k5]⟩
  clear k1 k2 k3 k4 k5
  go_enter Tryd.func75, Tryd.ntmps75
  go_wp2_with fail
  obtain ⟨fa', la', pa', fc', lc', pc', he⟩ := HE.out
  exact bodyPost_ret (v := .agg #[.int .i64 k, .int .u64 (n : Int), .string (strB t), .slice fa fs.length fc, .string (strB r), .slice la ls.length lc, .slice pa ps.length pc]) (by simp [results, Tryd.results75, go_sem]) rfl ⟨fa', la', pa', fc', lc', pc', he, HB1.out _ _⟩
/-- nothing that its kind doesn't have -/
def bareB (k : Int) (n : Nat) (t r : List UInt8) (fs : List (Int × V)) (ls : List V) (ps : List (V × V)) : Bool := (if k = 1 then 0 else n) == 0 && (if k = 2 then [] else t).isEmpty && (if k = 3 then [] else fs).isEmpty && (if k = 3 then [] else r).isEmpty && (if k = 4 then [] else ls).isEmpty && (if k = 5 then [] else ps).isEmpty
set_option maxRecDepth 100000 in
set_option maxHeartbeats 4000000 in
theorem bare_lit : Calls Tryd.prog 69 #[.agg #[.int .i64 k, .int .u64 (n : Int), .string (strB t), .slice fa fs.length fc, .string (strB r), .slice la ls.length lc, .slice pa ps.length pc]] w fun e w' => e = .returned (.bool (bareB k n t r fs ls ps)) ∧ Below w.heap.size w w' := by
  have HO : Hid (∀ W, Below w.heap.size w W → Calls _ _ _ W _) := fun W hb => own_lit (k := k) (n := n) (t := t) (r := r) (fs := fs) (ls := ls) (ps := ps) (fa := fa) (la := la) (pa := pa) (fc := fc) (lc := lc) (pc := pc) (w := W)
  have HBA : Hid (Below w.heap.size w (w.alloc (.cells #[.int .i64 k, .int .u64 (n : Int), .string (strB t), .slice fa fs.length fc, .string (strB r), .slice la ls.length lc, .slice pa ps.length pc] 27))) := (Below.refl _ _).alloc (Nat.le_refl _) _
  go_enter Tryd.func69, Tryd.ntmps69
  go_wp2_with fail
  refine (HO.out _ HBA.out).mono ?_
  rintro e w1 ⟨fa', la', pa', fc', lc', pc', rfl, hb1⟩
  have HZ : Hid (bareB k n t r fs ls ps = ((if k = 1 then 0 else n) == 0 && (if k = 2 then [] else t).isEmpty && (if k = 3 then [] else fs).isEmpty && (if k = 3 then [] else r).isEmpty && (if k = 4 then [] else ls).isEmpty && (if k = 5 then [] else ps).isEmpty)) := rfl
  generalize (if k = 1 then 0 else n) = n' at HZ ⊢
  generalize (if k = 2 then [] else t) = t' at HZ ⊢
  generalize (if k = 3 then [] else fs) = fs' at HZ ⊢
  generalize (if k = 3 then [] else r) = r' at HZ ⊢
  generalize (if k = 4 then [] else ls) = ls' at HZ ⊢
  generalize (if k = 5 then [] else ps) = ps' at HZ ⊢
  have HB1 : Hid (∀ o, Below w.heap.size w (w1.alloc o)) := fun o => (HBA.out.trans (hb1.mono HBA.out.size)).alloc (HBA.out.trans (hb1.mono HBA.out.size)).size o
  clear hb1 HO HBA
  go_wp2_with fail
  all_goals go_ret
  all_goals refine ⟨congrArg (fun z => Ending.returned (Value.bool z)) ?_, HB1.out _⟩
  all_goals rw [HZ.out]
  all_goals clear HZ HB1
  all_goals simp_all [strB_list]
  all_goals (cases ps' <;> simp <;> omega)
end
end Go.Proofs.YtcjflglpkpkflaaDoor
