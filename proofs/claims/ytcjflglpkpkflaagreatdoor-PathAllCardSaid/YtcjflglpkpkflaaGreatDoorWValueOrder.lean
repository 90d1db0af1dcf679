/- The walk of ValueOrder: the order is one; right values that are the same have one size and depth. -/
import Derived.Test.YtcjflglpkpkflaaGreatDoorAlive13
import Derived.Test.YtcjflglpkpkflaaGreatDoorOpenV
namespace Go.Proofs.YtcjflglpkpkflaaGreatDoor
open Go Go.RowKit
set_option linter.unusedVariables false
theorem box7 {w : World} {g : Nat} {T : TypeId} {k : Int} {n : Nat} {t r : List UInt8} {fs : List (Int × V)} {ls : List V} {ps : List (V × V)} {fa la pa : Option Addr} {fc lc pc : Nat} (h : CellsAt w g T #[.int .i64 k, .int .u64 (n : Int), .string (strB t), .slice fa fs.length fc, .string (strB r), .slice la ls.length lc, .slice pa ps.length pc]) :
    w.cell? ⟨g, 0, none⟩ = some (.int .i64 k) ∧ w.cell? ⟨g, 1, none⟩ = some (.int .u64 (n : Int)) ∧ w.cell? ⟨g, 2, none⟩ = some (.string (strB t)) ∧ w.cell? ⟨g, 3, none⟩ = some (.slice fa fs.length fc) ∧ w.cell? ⟨g, 4, none⟩ = some (.string (strB r)) ∧ w.cell? ⟨g, 5, none⟩ = some (.slice la ls.length lc) ∧ w.cell? ⟨g, 6, none⟩ = some (.slice pa ps.length pc) :=
  ⟨h.cell 0 rfl, h.cell 1 rfl, h.cell 2 rfl, h.cell 3 rfl, h.cell 4 rfl, h.cell 5 rfl, h.cell 6 rfl⟩
theorem orI_pm {a b : Int} (ha : -1 ≤ a ∧ a ≤ 1) (hb : -1 ≤ b ∧ b ≤ 1) : -1 ≤ orI a b ∧ orI a b ≤ 1 := by unfold orI; split <;> assumption
theorem sgnI_pm (a b : Int) : -1 ≤ sgnI a b ∧ sgnI a b ≤ 1 := by unfold sgnI; split <;> (try split) <;> omega
theorem cmpB_bd (a b : List UInt8) : -1 ≤ cmpB a b ∧ cmpB a b ≤ 1 := by rcases cmpB_pm a b with h | h | h <;> omega
mutual
theorem cmpV_pm : ∀ a b, -1 ≤ cmpV a b ∧ cmpV a b ≤ 1
  | .mk k n t fs r ls ps, .mk k' n' t' fs' r' ls' ps' => by
    simp only [cmpV]
    refine orI_pm (sgnI_pm _ _) ?_
    split
    · exact sgnI_pm _ _
    · split
      · exact cmpB_bd _ _
      · split
        · exact orI_pm (cmpF_pm fs fs') (cmpB_bd _ _)
        · split
          · exact cmpL_pm ls ls'
          · split
            · exact cmpP_pm ps ps'
            · omega
theorem cmpF_pm : ∀ a b, -1 ≤ cmpF a b ∧ cmpF a b ≤ 1
  | [], [] => by simp [cmpF]
  | [], (_, _) :: _ => by simp [cmpF]
  | (_, _) :: _, [] => by simp [cmpF]
  | (n, v) :: r, (n', v') :: r' => by simp only [cmpF]; exact orI_pm (orI_pm (sgnI_pm _ _) (cmpV_pm v v')) (cmpF_pm r r')
theorem cmpL_pm : ∀ a b, -1 ≤ cmpL a b ∧ cmpL a b ≤ 1
  | [], [] => by simp [cmpL]
  | [], _ :: _ => by simp [cmpL]
  | _ :: _, [] => by simp [cmpL]
  | v :: r, v' :: r' => by simp only [cmpL]; exact orI_pm (cmpV_pm v v') (cmpL_pm r r')
theorem cmpP_pm : ∀ a b, -1 ≤ cmpP a b ∧ cmpP a b ≤ 1
  | [], [] => by simp [cmpP]
  | [], (_, _) :: _ => by simp [cmpP]
  | (_, _) :: _, [] => by simp [cmpP]
  | (a, b) :: r, (a', b') :: r' => by simp only [cmpP]; exact orI_pm (orI_pm (cmpV_pm a a') (cmpV_pm b b')) (cmpP_pm r r')
end
theorem great_w {v : V} {m : Int} (hm : 0 ≤ m) (hm2 : m ≤ 1000) (h : ¬ greatV v m 30 < 0) : wV v ≤ 1000000 := by have := greatV_w v m 30 hm (by omega); have := greatV_bd v m 30 hm; omega
end Go.Proofs.YtcjflglpkpkflaaGreatDoor
