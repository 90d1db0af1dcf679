/- Layer 31's example. -/
import Derived.Test.YtalebgnnlgcglaaDoorDwB
import Derived.Test.YtalebgnnlgcglaaDoorDwS
import Derived.Test.YtalebgnnlgcglaaDoorLits
import Derived.Deep.CutBlock
import Derived.Deep.DeepCutAuto
namespace Go.Proofs.YtalebgnnlgcglaaDoor
open Go Go.RowKit
set_option linter.unusedVariables false
def al1 : Dm := writeM (Dm.new 2) 1 [97]
theorem al1_w : writeK (Dm.new 2) 1 [97] = 0 := writeK_of ⟨by decide, by decide⟩ (by decide) (by decide)
theorem al1_eq : al1 = { (Dm.new 2) with wr := fun y => if y = 1 then some (padV [97]) else none, writes := 1, fuse := -1 } := by
  unfold al1; rw [writeM_ok al1_w]; rfl
theorem al1_pend : (pendL al1).length = 1 := by
  rw [al1_eq]
  unfold pendL
  show (((List.range 2).filter fun (i : Nat) => ((if (i : Int) = 1 then some (padV [97]) else none : Option (List UInt8))).isSome).map fun (i : Nat) => (i : Int)).length = 1
  rw [show List.range 2 = [0, 1] from rfl]
  simp
def al2 : Dm := crashM al1 [] []
theorem al2_eq : al2 = { (Dm.new 2) with writes := 1 } := by
  unfold al2 crashM; rw [al1_eq]; rfl
theorem al2_r : readK al2 1 = 0 ∧ readV al2 1 = zero64 := by
  rw [al2_eq]
  have hk : readK { (Dm.new 2) with writes := 1 } 1 = 0 := readK_of ⟨by decide, by decide⟩ (by decide)
  refine ⟨hk, ?_⟩
  unfold readV
  rw [if_pos hk]
  rfl
theorem al2_w : writeK al2 1 [97] = 0 := by
  rw [al2_eq]; exact writeK_of ⟨by decide, by decide⟩ (by decide) (by decide)
theorem al3_s : syncK (writeM al2 1 [97]) = 0 := by
  rw [writeM_ok al2_w, al2_eq]; rfl
set_option maxRecDepth 100000 in
set_option maxHeartbeats 4000000 in
theorem alive31 (ea : Nat → Addr) (w : World) (he1 : ErrAt w 0 (ea 1)) (he3 : ErrAt w 1 (ea 3)) (he17 : ErrAt w 2 (ea 17)) :
    Calls Tryd.prog 5 #[] w fun e w' => e = .returned (.bool true) ∧ Below w.heap.size w w' := by
  have HE1 : Hid (∀ W, Below w.heap.size w W → ErrAt W 0 (ea 1)) := fun W hW => he1.stays hW
  have HE3 : Hid (∀ W, Below w.heap.size w W → ErrAt W 1 (ea 3)) := fun W hW => he3.stays hW
  have HE17 : Hid (∀ W, Below w.heap.size w W → ErrAt W 2 (ea 17)) := fun W hW => he17.stays hW
  have HN := Lib.hid (new_ok 2 w (by decide) (by decide))
  rw [show (((2 : Nat) : Int)) = 2 from rfl] at HN
  clear he1 he3 he17
  have kc := fun (w : World) (C : Array Value) (n c : Nat) => Lib.run_convert_bytes_const (P := Tryd.prog) w 22 5 C n c Tryd.underlying22 Tryd.underlying5
  go_enter Tryd.func5, Tryd.ntmps5
  go_wp2_with fail
  refine HN.out.mono ?_
  rintro e w1 ⟨g, gd, gm, rfl, hk1, hg1, hg2, hg3, hb1⟩
  have HGR : Hid (∀ W, Grew [g, gd, gm] w1 W → Below w.heap.size w W) := fun W hW => hW.below hb1 (by intro i hi; simp at hi; omega) hb1.size
  have hbA : Below w1.heap.size w1 (w1.alloc (.cells #[.int .u8 97] 5 (1, 2))) := (Below.refl _ _).alloc (Nat.le_refl _) _
  have hr := rowB_lits w1 [97] _ (1, 2) rfl 1 rfl (by decide)
  have hgA : Grew [g, gd, gm] w1 (w1.alloc (.cells #[.int .u8 97] 5 (1, 2))) := Grew.ofBelow hbA
  have hbB := HGR.out _ hgA
  have hW := write_any ea (hk1.stays hbA) (x := 1) (by decide) (by decide) _ [97] hr (by decide) (by decide) (HE1.out _ hbB) (HE3.out _ hbB) (HE17.out _ hbB)
  rw [al1_w, EV_zero, show writeM (Dm.new 2) 1 [97] = al1 from rfl] at hW
  have HW := Lib.hid hW
  have HGA := Lib.hid hgA
  clear HN hk1 hg1 hg2 hg3 hb1 hbA hr hgA hbB hW
  go_wp2_with fail
  refine HW.out.mono ?_
  rintro e w2 ⟨rfl, hk2, hg2⟩
  have hg12 := HGA.out.trans hg2
  have HWT := Lib.hid (waiting_any hk2)
  have HK2 := Lib.hid hk2
  have HG12 := Lib.hid hg12
  clear HW HGA hk2 hg2 hg12
  go_wp2_with fail
  refine HWT.out.mono ?_
  rintro e w3 ⟨v3, rfl, hr3, hb3⟩
  obtain ⟨a3, c3, rfl, -, -⟩ := hr3.shape
  rw [al1_pend]
  have hk3 := HK2.out.stays hb3
  have hg13 := HG12.out.add hb3
  have hC := crash_any hk3 (.slice none 0 0) [] (.slice none 0 0) [] (fun W hW => ⟨.inl ⟨rfl, rfl, none, 0, rfl⟩, RowS.nil W, fun t ht => by cases ht⟩) (fun k hk => by cases hk) (fun t ht => by cases ht)
  rw [show crashM al1 [] (([] : List To).map To.p) = al2 from rfl] at hC
  have HC := Lib.hid hC
  have HG13 := Lib.hid hg13
  clear HWT HK2 HG12 hr3 hb3 hk3 hg13 hC
  go_wp2_with fail
  refine HC.out.mono ?_
  rintro e w4 ⟨rfl, hk4, hg4⟩
  have hg14 := HG13.out.trans hg4
  have hbe4 := HGR.out _ hg14
  have hR := read_any ea hk4 (x := 1) (by decide) (by decide) (HE1.out _ hbe4) (HE17.out _ hbe4)
  rw [al2_r.1, al2_r.2, EV_zero] at hR
  have HR := Lib.hid hR
  have HK4 := Lib.hid hk4
  have HG14 := Lib.hid hg14
  clear HC hk4 hg4 HG13 hg14 hbe4 hR
  go_wp2_with fail
  refine HR.out.mono ?_
  rintro e w5 ⟨v5, rfl, ho5, hb5⟩
  have hrow := ho5.row
  have hz : zero64.length = 64 := zero64_len
  obtain ⟨a5, c5, rfl, -, hin⟩ := hrow.gen.shape
  have z0 : zero64[0]? = some 0 := rfl
  obtain ⟨b5, o5, rfl, hc5⟩ := hin 0 0 z0
  rw [hz]
  rw [BV_def, Nat.add_zero] at hc5
  have p0 : w5.cell? ⟨b5, o5, none⟩ = some (.int .u8 0) := hc5
  have hk5 := HK4.out.stays hb5
  have hg15 := HG14.out.add hb5
  have hbA5 : Below w5.heap.size w5 (w5.alloc (.cells #[.int .u8 97] 5 (1, 2))) := (Below.refl _ _).alloc (Nat.le_refl _) _
  have hr5 := rowB_lits w5 [97] _ (1, 2) rfl 1 rfl (by decide)
  have hg15A := hg15.add hbA5
  have hbB5 := HGR.out _ hg15A
  have hW := write_any ea (hk5.stays hbA5) (x := 1) (by decide) (by decide) _ [97] hr5 (by decide) (by rw [al2_eq]; decide) (HE1.out _ hbB5) (HE3.out _ hbB5) (HE17.out _ hbB5)
  rw [al2_w, EV_zero] at hW
  have HW := Lib.hid hW
  have HG15 := Lib.hid hg15A
  clear HR HK4 HG14 ho5 hb5 hrow hin hc5 hk5 hg15 hbA5 hr5 hg15A hbB5 hW z0 hz
  go_wp2_with fail
  refine HW.out.mono ?_
  rintro e w6 ⟨rfl, hk6, hg6⟩
  have hg16 := HG15.out.trans hg6
  have hS := sync_any ea hk6 (HE17.out _ (HGR.out _ hg16))
  rw [al3_s, EV_zero] at hS
  have HS := Lib.hid hS
  have HG16 := Lib.hid hg16
  clear HW HG15 hk6 hg6 hg16 hS p0
  go_wp2_with fail
  refine HS.out.mono ?_
  rintro e w7 ⟨rfl, -, hg7⟩
  have hbe := HGR.out _ (HG16.out.trans hg7)
  clear HS
  go_wp2_with fail
  go_ret
  exact ⟨rfl, hbe⟩
end Go.Proofs.YtalebgnnlgcglaaDoor
