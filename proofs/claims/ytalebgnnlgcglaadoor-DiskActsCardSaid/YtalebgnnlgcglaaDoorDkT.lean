/- The document's disk, walked: Read, Write. -/
import Derived.Test.YtalebgnnlgcglaaDoorDkS
import Derived.Test.YtalebgnnlgcglaaDoorDkR
namespace Go.Proofs.YtalebgnnlgcglaaDoor
open Go Go.RowKit
set_option linter.unusedVariables false
theorem infoW : (Tryd.prog.info? 76).map (fun i => (i.zero, i.size, i.bytes)) = some (some (.agg #[.int .i64 0, .string ⟨#[]⟩]), 2, 24) := by kernel_rfl
set_option maxRecDepth 100000 in
set_option maxHeartbeats 1000000 in
theorem rread_any {w : World} {B h N : Nat} {d : Dm} (r : Rd2 w B h N d) (hok : d.Ok) {x : Int} (hx1 : -9223372036854775808 ≤ x) (hx2 : x ≤ 9223372036854775807) :
    Calls Tryd.prog 30 #[.pointer (some ⟨h, 0, none⟩), .int .i64 x] w fun e w' => e = .returned (.tuple #[.string (strB (readV d x)), .int .i64 (readK d x)]) ∧ w = w' := by
  obtain ⟨m, vd, vw, k, sim, hw64⟩ := r
  have c0 := k.cells.cell 0 (v := .int .i64 m.size) rfl
  have c1 := k.cells.cell 1 (v := vd) rfl
  have c2 := k.cells.cell 2 (v := vw) rfl
  have c3 := k.cells.cell 3 (v := .int .i64 m.fuse) rfl
  have hlens := k.lens
  have hsm := k.small
  by_cases h1 : d.has x
  · have h1' := (sim.has x).1 h1
    by_cases h3 : d.fuse = 0
    · have HK := Lib.hid (readK_power h1 h3)
      have HV : Hid (readV d x = []) := by show _ = _; unfold readV; rw [if_neg (by rw [HK.out]; decide)]
      have hf : (m.fuse == 0) = true := by rw [sim.fuse, h3]; rfl
      obtain ⟨h11, h12⟩ := h1'
      clear k sim h1 h3 hok
      go_enter Tryd.func30, Tryd.ntmps30
      go_wp2_with fail
      go_ret2
      exact ⟨ret2 (by rw [HV.out]; rfl) (by rw [HK.out]; rfl), rfl⟩
    · have HK := Lib.hid (readK_of h1 h3)
      have HV : Hid (readV d x = getV d x) := by show _ = _; unfold readV; rw [if_pos HK.out]
      have HG := Lib.hid (sim.get h1)
      have hf : (m.fuse == 0) = false := by rw [sim.fuse]; simpa using h3
      have HL1 := Lib.hid (rlast_any vw m.wait x w k.wait.row (by omega))
      have HL2 := Lib.hid (rlast_any vd m.dur x w k.dur.row (by omega))
      obtain ⟨h11, h12⟩ := h1'
      clear k sim h1 h3 hok
      cases hwt : lastO m.wait x with
      | some s =>
        rw [hwt] at HL1 HG
        have HG' : Hid (getV d x = s) := HG.out
        have HL1' : Hid (Calls Tryd.prog 21 #[vw, .int .i64 x] w fun e w' => e = .returned (.tuple #[.string (strB s), .bool true]) ∧ w = w') := HL1.out
        clear HL1 HL2 HG hwt
        go_enter Tryd.func30, Tryd.ntmps30
        go_wp2_with fail
        refine HL1'.out.mono ?_
        rintro e w1 ⟨rfl, rfl⟩
        go_wp2_with fail
        go_ret2
        exact ⟨ret2 (by rw [HV.out, HG'.out]; rfl) (by rw [HK.out]; rfl), rfl⟩
      | none =>
        rw [hwt] at HL1 HG
        have HG' : Hid (getV d x = (lastO m.dur x).getD zero64) := HG.out
        have HL1' : Hid (Calls Tryd.prog 21 #[vw, .int .i64 x] w fun e w' => e = .returned (.tuple #[.string (strB zero64), .bool false]) ∧ w = w') := HL1.out
        obtain ⟨R, hR⟩ : ∃ R, R = lastO m.dur x := ⟨_, rfl⟩
        rw [← hR] at HL2 HG'
        have HL2' : Hid (Calls Tryd.prog 21 #[vd, .int .i64 x] w fun e w' => e = .returned (.tuple #[.string (strB (R.getD zero64)), .bool R.isSome]) ∧ w = w') := HL2.out
        clear HL1 HL2 HG hwt hR
        go_enter Tryd.func30, Tryd.ntmps30
        go_wp2_with fail
        refine HL1'.out.mono ?_
        rintro e w1 ⟨rfl, rfl⟩
        go_wp2_with fail
        refine HL2'.out.mono ?_
        rintro e w1 ⟨rfl, rfl⟩
        go_wp2_with fail
        go_ret2
        exact ⟨ret2 (by rw [HV.out, HG'.out]; rfl) (by rw [HK.out]; rfl), rfl⟩
  · have HK := Lib.hid (readK_has h1)
    have HV : Hid (readV d x = []) := by show _ = _; unfold readV; rw [if_neg (by rw [HK.out]; decide)]
    have h1' : ¬ (0 ≤ x ∧ x < m.size) := fun h' => h1 ((sim.has x).2 h')
    clear k sim h1 hok
    by_cases hx0 : 0 ≤ x
    · have hx3 : ¬ x < m.size := fun h' => h1' ⟨hx0, h'⟩
      clear h1'
      go_enter Tryd.func30, Tryd.ntmps30
      go_wp2_with fail
      go_ret2
      exact ⟨ret2 (by rw [HV.out]; rfl) (by rw [HK.out]; rfl), rfl⟩
    · clear h1'
      go_enter Tryd.func30, Tryd.ntmps30
      go_wp2_with fail
      go_ret2
      exact ⟨ret2 (by rw [HV.out]; rfl) (by rw [HK.out]; rfl), rfl⟩
theorem OwnW.setH {B : Nat} {w : World} {v : Value} {l : List (Int × List UInt8)} {h : Nat} {c : Array Value} (o : OwnW B w v l) (hc : CellsAt w h 48 c) (j : Nat) (u : Value) : OwnW B (w.setCell ⟨h, j, none⟩ u) v l :=
  OwnS.grew o ((Grew.refl [h] w).setCell (p := ⟨h, j, none⟩) (.inl (by simp)) u) (fun k hk => by have := OwnS.ne o hc (by decide) k hk; simp [this])
theorem Rk.setFuse {w : World} {B h N : Nat} {m : Lm} {vd vw : Value} (k : Rk w B h N m vd vw) (f : Int) : Rk (w.setCell ⟨h, 3, none⟩ (.int .i64 f)) B h N { m with fuse := f } vd vw :=
  ⟨k.cells.set 3 _, OwnW.setH k.dur k.cells 3 _, OwnW.setH k.wait k.cells 3 _, k.lens, k.small⟩
theorem Rk.setWrites {w : World} {B h N : Nat} {m : Lm} {vd vw : Value} (k : Rk w B h N m vd vw) (n : Nat) : Rk (w.setCell ⟨h, 4, none⟩ (.int .i64 n)) B h N { m with writes := n } vd vw :=
  ⟨k.cells.set 4 _, OwnW.setH k.dur k.cells 4 _, OwnW.setH k.wait k.cells 4 _, k.lens, k.small⟩
theorem Rk.setWait {w : World} {B h N N' : Nat} {m : Lm} {vd vw v : Value} {l : List (Int × List UInt8)} (k : Rk w B h N m vd vw) (o : OwnW B w v l) (hN : m.dur.length + l.length ≤ N') (hs : N' ≤ 1000000) : Rk (w.setCell ⟨h, 2, none⟩ v) B h N' { m with wait := l } vd v :=
  ⟨k.cells.set 2 _, OwnW.setH k.dur k.cells 2 _, OwnW.setH o k.cells 2 _, hN, hs⟩
theorem Rk.setDur {w : World} {B h N N' : Nat} {m : Lm} {vd vw v : Value} {l : List (Int × List UInt8)} (k : Rk w B h N m vd vw) (o : OwnW B w v l) (hN : l.length + m.wait.length ≤ N') (hs : N' ≤ 1000000) : Rk (w.setCell ⟨h, 1, none⟩ v) B h N' { m with dur := l } v vw :=
  ⟨k.cells.set 1 _, OwnW.setH o k.cells 1 _, OwnW.setH k.wait k.cells 1 _, hN, hs⟩
set_option maxRecDepth 100000 in
set_option maxHeartbeats 2000000 in
theorem rwrite_any {w : World} {B h N : Nat} {d : Dm} (r : Rd2 w B h N d) (hB : B ≤ w.heap.size) (hN : N + 1 ≤ 1000000) {x : Int} (hx1 : -9223372036854775808 ≤ x) (hx2 : x ≤ 9223372036854775807) (bs : List UInt8) (hl : bs.length ≤ 1000000) (hs : d.writes + 1 ≤ 1000000) (hf2 : d.fuse ≤ 9223372036854775807) (hf1 : -1 ≤ d.fuse) :
    Calls Tryd.prog 28 #[.pointer (some ⟨h, 0, none⟩), .int .i64 x, .string (strB bs)] w fun e w' => e = .returned (.int .i64 (writeK d x bs)) ∧ Rd2 w' B h (N + 1) (writeM d x bs) ∧ Grew [h] w w' := by
  have hsz : (strB bs).size = bs.length := strB_size bs
  have HRM := Lib.hid (r.mono (Nat.le_add_right N 1) hN)
  obtain ⟨m, vd, vw, k, sim, hw64⟩ := r
  have c0 := k.cells.cell 0 (v := .int .i64 m.size) rfl
  have c2 := k.cells.cell 2 (v := vw) rfl
  have c3 := k.cells.cell 3 (v := .int .i64 m.fuse) rfl
  have c4 := k.cells.cell 4 (v := .int .i64 m.writes) rfl
  have hlens := k.lens
  by_cases h1 : d.has x
  · have h1' := (sim.has x).1 h1
    obtain ⟨h11, h12⟩ := h1'
    by_cases h2 : 64 < bs.length
    · have HK := Lib.hid (writeK_long h1 h2)
      clear k sim h1
      go_enter Tryd.func28, Tryd.ntmps28
      go_wp2_with fail
      go_ret
      exact ⟨ret1 (by rw [HK.out]; rfl), by rw [writeM_bad (by rw [HK.out]; decide)]; exact HRM.out, Grew.refl _ _⟩
    · by_cases h3 : d.fuse = 0
      · have HK := Lib.hid (writeK_power h1 h2 h3)
        have hf : (m.fuse == 0) = true := by rw [sim.fuse, h3]; rfl
        clear k sim h1 h3
        go_enter Tryd.func28, Tryd.ntmps28
        go_wp2_with fail
        go_ret
        exact ⟨ret1 (by rw [HK.out]; rfl), by rw [writeM_bad (by rw [HK.out]; decide)]; exact HRM.out, Grew.refl _ _⟩
      · have HK := Lib.hid (writeK_of (b := bs) h1 (by omega) h3)
        have hf : (m.fuse == 0) = false := by rw [sim.fuse]; simpa using h3
        have hfm := sim.fuse
        have hwm := sim.writes
        have HP : Hid (∀ w', Calls Tryd.prog 36 #[.string (strB bs)] w' fun e w'' => e = .returned (.string (strB (padV bs))) ∧ w' = w'') := fun w' => rpad_any bs w' hl
        have HSIM := Lib.hid (sim.write HK.out)
        have HKK := Lib.hid k
        have HW64 := Lib.hid hw64
        have how : OwnW w.heap.size (w.alloc (.cells #[] 76)) (.slice (some ⟨w.heap.size, 0, none⟩) 0 0) [] := World.ownsRow_made (base := w.heap.size) (e := 76) (size := 2) w #[] 0 (Nat.le_refl _) (Nat.zero_le _) rfl
        have hba : Below w.heap.size w (w.alloc (.cells #[] 76)) := (Below.refl _ _).alloc (Nat.le_refl _) _
        have hvw : RowS wrC (w.alloc (.cells #[] 76)) vw m.wait := k.wait.row.stays hba
        have hlt := k.cells.lt
        have HHW := Lib.hid how
        have HVW := Lib.hid hvw
        have HBA := Lib.hid hba
        have hm1 : (m.writes : Int) ≤ 1000000 := by omega
        have hm2 : m.fuse ≤ 9223372036854775807 := by omega
        have hm3 : -1 ≤ m.fuse := by omega
        have HFM := Lib.hid hfm
        clear k sim h1 h3 hfm hwm how hba hvw hw64
        go_enter Tryd.func28, Tryd.ntmps28
        go_wp2_with (at_builtin; go_must (refine wpList_appendS wrC_len wrC_one Tryd.underlying46 infoW rfl (by decide) HHW.out HVW.out (by simp; omega) (by have := HBA.out.size; omega) rfl _ _ rfl (by rfl) (by rfl) ?_))
        intro v1 w1 o1 g1 n1 hnil
        clear hnil
        have hbe1 : Below w.heap.size w w1 := OwnS.below HHW.out HBA.out g1 HBA.out.size
        have hsz1 := hbe1.size
        have hv1 : ∀ q, v1.ownBlock = some q → w.heap.size ≤ q := fun q hq => (o1.lt q hq).1
        have hW64' := padV_len bs
        have HV1 := Lib.hid hv1
        have hl3 : m.wait.length ≤ 1000000 := by omega
        obtain ⟨P, hP⟩ : ∃ P, P = padV bs := ⟨_, rfl⟩
        rw [← hP] at HP hW64' HSIM
        have HPL := Lib.hid hW64'
        clear g1 n1 hv1 hP hW64' HHW HVW HBA
        go_wp2_with fail
        refine (HP.out _).mono ?_
        rintro e w2 ⟨rfl, rfl⟩
        go_wp2_with (at_builtin; go_must (refine wpList_pushS wrC_len wrC_one Tryd.underlying46 infoW rfl (by decide) o1 (x, P) (by omega) hsz1 rfl _ _ rfl (by rfl) _ _ _ (by rfl) (by rfl) ?_))
        intro v2 w2 o2 g2 n2
        have hbe2 : Below w.heap.size w w2 := OwnS.below o1 hbe1 g2 hsz1
        obtain ⟨gb, cb, hv2, -, -, -, -, -⟩ := OwnS.block o2 wrC_len (by simp)
        rw [show (m.wait ++ [(x, P)]).length = m.wait.length + 1 from by simp] at hv2
        subst hv2
        have k2 := HKK.out.grew (Grew.ofBelow (S := []) hbe2) (by simp) (by simp) (by simp)
        have f2 := k2.cells.free 2
        have f3 := k2.cells.free 3
        have f4 := k2.cells.free 4
        have d2 := k2.cells.cell 2 (v := vw) rfl
        have d3 := k2.cells.cell 3 (v := .int .i64 m.fuse) rfl
        have d4 := k2.cells.cell 4 (v := .int .i64 m.writes) rfl
        have HK2 := Lib.hid k2
        have HBE2 := Lib.hid hbe2
        have HO2 := Lib.hid o2
        clear g2 n2 o1 hbe1 k2 hbe2 o2 c0 c2 c3 c4
        have HGF : Hid (∀ W, Grew [h] w2 W → Grew [h] w W) := fun W hW => (Grew.ofBelow (S := [h]) HBE2.out).trans hW
        have HK24 : Hid (Rk ((w2.setCell ⟨h, 2, none⟩ (.slice (some ⟨gb, 0, none⟩) (m.wait.length + 1) cb)).setCell ⟨h, 4, none⟩ (.int .i64 ((m.writes : Int) + 1))) B h (N + 1) { m with wait := m.wait ++ [(x, P)], writes := m.writes + 1 } vd (.slice (some ⟨gb, 0, none⟩) (m.wait.length + 1) cb)) :=
          (HK2.out.setWait (HO2.out.mono hB) (by simp; omega) hN).setWrites (m.writes + 1)
        have HW6 : Hid (∀ p ∈ m.wait ++ [(x, P)], p.2.length = 64) := fun p hp => by
          rcases List.mem_append.1 hp with hp | hp
          · exact HW64.out p hp
          · obtain rfl : p = (x, P) := by simpa using hp
            exact HPL.out
        have HG2 : Hid (Grew [h] w ((w2.setCell ⟨h, 2, none⟩ (.slice (some ⟨gb, 0, none⟩) (m.wait.length + 1) cb)).setCell ⟨h, 4, none⟩ (.int .i64 ((m.writes : Int) + 1)))) := HGF.out _ (((Grew.refl [h] w2).setCell (p := ⟨h, 2, none⟩) (.inl (by simp)) _).setCell (p := ⟨h, 4, none⟩) (.inl (by simp)) _)
        clear HGF HK2 HO2 HBE2
        by_cases hpos : 0 < m.fuse
        · rw [if_pos hpos] at HSIM
          go_wp2_with fail
          go_ret
          exact ⟨ret1 (by rw [HK.out]; rfl), ⟨_, _, _, HK24.out.setFuse (m.fuse - 1), HSIM.out, HW6.out⟩, HG2.out.setCell (p := ⟨h, 3, none⟩) (.inl (by simp)) _⟩
        · rw [if_neg hpos] at HSIM
          go_wp2_with fail
          go_ret
          exact ⟨ret1 (by rw [HK.out]; rfl), ⟨_, _, _, HK24.out, HSIM.out, HW6.out⟩, HG2.out⟩
  · have HK := Lib.hid (writeK_has (b := bs) h1)
    have h1' : ¬ (0 ≤ x ∧ x < m.size) := fun h' => h1 ((sim.has x).2 h')
    clear k sim h1
    by_cases hx0 : 0 ≤ x
    · have hx3 : ¬ x < m.size := fun h' => h1' ⟨hx0, h'⟩
      clear h1'
      go_enter Tryd.func28, Tryd.ntmps28
      go_wp2_with fail
      go_ret
      exact ⟨ret1 (by rw [HK.out]; rfl), by rw [writeM_bad (by rw [HK.out]; decide)]; exact HRM.out, Grew.refl _ _⟩
    · clear h1'
      go_enter Tryd.func28, Tryd.ntmps28
      go_wp2_with fail
      go_ret
      exact ⟨ret1 (by rw [HK.out]; rfl), by rw [writeM_bad (by rw [HK.out]; decide)]; exact HRM.out, Grew.refl _ _⟩
end Go.Proofs.YtalebgnnlgcglaaDoor
