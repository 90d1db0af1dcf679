/- The document's Sync and Crash, walked. -/
import Derived.Test.YtalebgnnlgcglaaDoorDkY
import Derived.Deep.RegionLaw
import Derived.Deep.RegionHeld3
import Derived.Deep.DrawnRows
import Derived.Deep.CutBlock
import Derived.Deep.DeepCutAuto
import Derived.BigQuiet
namespace Go.Proofs.YtalebgnnlgcglaaDoor
open Go Go.RowKit
set_option linter.unusedVariables false
attribute [local go_sem ↓] Go.wp_at_zero Go.wp_at_succ
/-- elements that are read are appended, at a step of a region that draws its order -/
theorem step_appendS {α : Type} {cs : α → List Value} {E T : TypeId} {size B : Nat} {w : World} {v : Value} {xs : List α} {P : Program} {ops : Array Oper} {o : Oper} {a : Act} {K : Act → World → Prop} {Q : Exit → Act → World → Prop} {EE : Prop} (hcs : ∀ x, (cs x).length = size) (hf : ∀ x : α, (cs x).all Value.oneCell' = true) {z : Value} {bytes : Nat} (ht : P.underlying T = some (.slice E))
    (hinf : (P.info? E).map (fun i => (i.zero, i.size, i.bytes)) = some (some z, size, bytes)) (hz : z.cells.size = size) (hbs : bytes ≤ 1000) (hown : OwnS E size cs B w v xs) {x' : Value} {ys : List α} (hr : RowS cs w x' ys) (h63 : xs.length + ys.length ≤ 100000000) (hbase : B ≤ w.heap.size)
    (hgd : o.guard = none) (s y : Operand) (ho : o.op = .call { callee := .builtin .append, args := #[s, y], argTypes := #[T, T] }) (hs : a.eval s = v) (hx : a.eval y = x')
    (h : ∀ v' w', OwnS E size cs B w' v' (xs ++ ys) → w.grownBy w' v.ownBlock → NewOrSame w v v' → K (a.put o.dst v') w') :
    if Region.wanted o (yielded ops a.tmps) = true then Oper.wp P o a w K Q else EE := by
  have hw : Region.wanted o (yielded ops a.tmps) = true := by simp [Region.wanted, hgd]
  rw [if_pos hw]
  obtain ⟨i, hi, hz0, hz1, hz2⟩ := info_parts hinf
  have hby : (xs.length + ys.length) * bytes ≤ 140737488355328 := by
    have := Nat.mul_le_mul h63 hbs
    omega
  obtain ⟨v', w', h1, h2, h3, h4, h5⟩ := run_append_src w B T T o.type E i z size bytes ht hi hz0 hz1 hz2 hz v xs.length (xs.flatMap cs) hown x' ys.length (ys.flatMap cs) (Row.src hr ht (flat_len hcs ys) (fun u hu => by
      obtain ⟨q, _, hq⟩ := List.mem_flatMap.1 hu
      exact List.all_eq_true.1 (hf q) u hq)) (by unfold maxLen; omega) hby hbase
  exact Lib.wp_append_run _ s y T T ho v _ hs hx v' w' h1 (h v' w' (by unfold OwnS; simpa using h2) h3 h4)
set_option maxRecDepth 100000 in
set_option maxHeartbeats 4000000 in
theorem rsync_any {w : World} {B h N : Nat} {d : Dm} (r : Rd2 w B h N d) (hB : B ≤ w.heap.size) :
    Calls Tryd.prog 31 #[.pointer (some ⟨h, 0, none⟩)] w fun e w' => e = .returned (.int .i64 (syncK d)) ∧ Rd2 w' B h N (syncM d) ∧ Grew [h] w w' := by
  have HR := Lib.hid r
  obtain ⟨m, vd, vw, k, sim, hw64⟩ := r
  have c1 := k.cells.cell 1 (v := vd) rfl
  have c2 := k.cells.cell 2 (v := vw) rfl
  have c3 := k.cells.cell 3 (v := .int .i64 m.fuse) rfl
  have hlens := k.lens
  have hsm := k.small
  have hfm := sim.fuse
  by_cases hf : d.fuse = 0
  · have HS : Hid (syncK d = 17 ∧ syncM d = d) := ⟨if_pos hf, if_pos hf⟩
    have b : (m.fuse == 0) = true := by rw [hfm, hf]; rfl
    clear k sim hw64 hfm hf
    go_enter Tryd.func31, Tryd.ntmps31
    go_wp2_with fail
    go_ret
    exact ⟨ret1 (by rw [HS.out.1]; rfl), by rw [HS.out.2]; exact HR.out, Grew.refl _ _⟩
  · have HS : Hid (syncK d = 0) := if_neg hf
    have b : (m.fuse == 0) = false := by rw [hfm]; simpa using hf
    have HSIM := Lib.hid (sim.sync hf)
    have how : OwnW w.heap.size (w.drew.alloc (.cells #[] 76)) (.slice (some ⟨w.heap.size, 0, none⟩) 0 0) [] := World.ownsRow_made (base := w.heap.size) (e := 76) (size := 2) w.drew #[] 0 (Nat.le_refl _) (Nat.zero_le _) rfl
    have hba : Below w.heap.size w (w.drew.alloc (.cells #[] 76)) := ((Below.refl _ _).drew).alloc (Nat.le_refl _) _
    have hvd : RowS wrC (w.drew.alloc (.cells #[] 76)) vd m.dur := k.dur.row.stays hba
    have hs0 : w.heap.size ≤ (w.drew.alloc (.cells #[] 76)).heap.size := hba.size
    have hl1 : ([] : List (Int × List UInt8)).length + m.dur.length ≤ 100000000 := by simp; omega
    have hl2 : m.dur.length + m.wait.length ≤ 100000000 := by omega
    have HK := Lib.hid k
    have hlt := k.cells.lt
    have hc1a : (w.drew.alloc (.cells #[] 76)).cell? ⟨h, 2, none⟩ = some vw := (k.cells.stays hba).cell 2 (v := vw) rfl
    clear k sim hfm hf hw64
    go_enter Tryd.func31, Tryd.ntmps31
    go_wp2_with fail
    have HOWc := how
    go_region_law ((first
      | (refine step_appendS wrC_len wrC_one Tryd.underlying46 infoW rfl (by decide) how hvd hl1 hs0 rfl _ _ rfl (by rfl) (by rfl) ?_; intro v1 w1 o1 g1 n1; have hbe1 := OwnS.below how hba g1 hs0; have kk1 := HK.out.grew (Grew.ofBelow (S := []) hbe1) (by simp) (by simp) (by simp); have d2 := kk1.cells.cell 2 (v := vw) rfl; have hvw := HK.out.wait.row.stays hbe1; have hs1 := hbe1.size; rw [List.nil_append] at o1)
      | (refine step_appendS wrC_len wrC_one Tryd.underlying46 infoW rfl (by decide) o1 hvw hl2 hs1 rfl _ _ rfl (by rfl) (by rfl) ?_; intro v2 w2 o2 g2 n2; have hbe2 := OwnS.below o1 hbe1 g2 hs1; have kk2 := HK.out.grew (Grew.ofBelow (S := []) hbe2) (by simp) (by simp) (by simp); have e1 := kk2.cells.cell 1 (v := vd) rfl; have fe1 := kk2.cells.free 1; have e2 := kk2.cells.cell 2 (v := vw) rfl; have fe2 := kk2.cells.free 2; obtain ⟨a2, cc2, rfl, -, -⟩ := o2.row.shape wrC_len)))
    all_goals go_wp2_with fail
    all_goals
      have hla : (m.dur ++ m.wait).length = m.dur.length + m.wait.length := List.length_append
      rw [hla] at o2
      have hRk : Rk ((w2.setCell ⟨h, 1, none⟩ (.slice a2 (m.dur.length + m.wait.length) cc2)).setCell ⟨h, 2, none⟩ (.slice none 0 0)) B h N { m with dur := m.dur ++ m.wait, wait := [] } (.slice a2 (m.dur.length + m.wait.length) cc2) (.slice none 0 0) :=
        ⟨(kk2.cells.set 1 _).set 2 _, OwnW.setH (OwnW.setH (o2.mono hB) kk2.cells 1 _) (kk2.cells.set 1 _) 2 _, OwnS.nil _ _, by simp; omega, hsm⟩
      have hG : Grew [h] w ((w2.setCell ⟨h, 1, none⟩ (.slice a2 (m.dur.length + m.wait.length) cc2)).setCell ⟨h, 2, none⟩ (.slice none 0 0)) := ((Grew.ofBelow (S := [h]) hbe2).setCell (p := ⟨h, 1, none⟩) (.inl (by simp)) _).setCell (p := ⟨h, 2, none⟩) (.inl (by simp)) _
      go_ret
      exact ⟨ret1 (by rw [HS.out]; rfl), ⟨_, _, _, hRk, HSIM.out, fun p hp => by cases hp⟩, hG⟩
end Go.Proofs.YtalebgnnlgcglaaDoor
