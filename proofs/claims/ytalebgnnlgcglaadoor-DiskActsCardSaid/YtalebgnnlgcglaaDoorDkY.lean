/- The document's disk's fuse is set; facts of both disks for a law's walk. -/
import Derived.Test.YtalebgnnlgcglaaDoorDkT
namespace Go.Proofs.YtalebgnnlgcglaaDoor
open Go Go.RowKit
set_option linter.unusedVariables false
theorem Rd2.setFuse {w : World} {B h N : Nat} {d : Dm} (r : Rd2 w B h N d) (n : Int) : Rd2 (w.setCell ⟨h, 3, none⟩ (.int .i64 (max n (-1)))) B h N (fuseM d n) := by
  obtain ⟨m, vd, vw, k, sim, h64⟩ := r
  exact ⟨_, vd, vw, k.setFuse _, sim.setFuse n, h64⟩
theorem Rd2.c3 {w : World} {B h N : Nat} {d : Dm} (r : Rd2 w B h N d) : w.cell? ⟨h, 3, none⟩ = some (.int .i64 d.fuse) ∧ w.frozen? ⟨h, 3, none⟩ = false := by
  obtain ⟨m, vd, vw, k, sim, h64⟩ := r
  have := k.cells.cell 3 (v := .int .i64 m.fuse) rfl
  rw [sim.fuse] at this
  exact ⟨this, k.cells.free 3⟩
theorem fuse_hi {f : Int} (h : -1 < f) : max f (-1) = f := by omega
theorem fuse_lo {f : Int} (h : ¬ -1 < f) : max f (-1) = -1 := by omega
theorem fuseM_dur (d : Dm) (n : Int) : (fuseM d n).dur = d.dur := rfl
theorem fuseM_writes (d : Dm) (n : Int) : (fuseM d n).writes = d.writes := rfl
end Go.Proofs.YtalebgnnlgcglaaDoor
