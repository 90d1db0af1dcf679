/- The parser's fixed64, fixed32, bytes; record.Parse. At most 1000000 bytes. -/
import Derived.Test.YtgehbabcpmkgaaaDoorRcC
import Derived.Test.YtgehbabcpmkgaaaDoorRcR
import Derived.Test.YtgehbabcpmkgaaaDoorSlc
namespace Go.Proofs.YtgehbabcpmkgaaaDoor
open Go Go.RowKit
set_option linter.unusedVariables false
theorem apart_new {w : World} {v : Value} {bs : List UInt8} (hr : RowB w v bs) : bs ≠ [] → v.ownBlock ≠ some w.heap.size := fun h e => by
  have := Row.block_lt hr (List.length_pos_iff.2 h) _ e
  omega
theorem pz_other {ea : Nat → Addr} {w w' : World} {g q : Nat} {v : Value} {bs : List UInt8} {p k : Nat} (h : Pz ea w g v bs p k) (hg : w.grownBy w' (some q)) (hne : g ≠ q) (hv : bs ≠ [] → v.ownBlock ≠ some q) : Pz ea w' g v bs p k :=
  ⟨h.cells.grown hg (fun e => hne (by cases e; rfl)), h.row.keep hg hv, h.le, h.apart, h.small⟩
theorem pz_err {ea : Nat → Addr} {w : World} {g : Nat} {v : Value} {bs : List UInt8} {p k : Nat} (h : Pz ea w g v bs p k) (j : Nat) : Pz ea (w.setCell ⟨g, 2, none⟩ (EV ea j)) g v bs p j :=
  ⟨h.cells.set 2 (EV ea j), h.row.keep (grownBy_setCell (grownBy_refl _ _) ⟨g, 2, none⟩ (.inl rfl) _) h.apart, h.le, h.apart, h.small⟩
section
variable (ea : Nat → Addr) (g : Nat) (v : Value) (bs : List UInt8) (p : Nat) (w : World) (hz : Pz ea w g v bs p 0) (he1 : ErrAt w 2 (ea 1)) (he2 : ErrAt w 3 (ea 2))
include hz he1 he2
theorem pfix64_any :
    Calls Tryd.prog 128 #[.pointer (some ⟨g, 0, none⟩)] w fun e w' => e = .returned (.int .u64 (fixedV (rgot (bs.drop p) 0 8))) ∧ Pz ea w' g v bs (p + rat (bs.drop p) 0 8) (ask (bs.drop p) 0 8) ∧ w.grownBy w' (some g) := by
  have hb : Below w.heap.size w (w.alloc (.cells #[.int .u64 0] 67)) := (Below.refl _ _).alloc (Nat.le_refl _) _
  have hgl := hz.cells.lt
  have HR := Lib.hid (read64_any ea g v bs p _ (hz.stays hb) (he1.stays hb) (he2.stays hb) w.heap.size 0 (by omega) (apart_new hz.row) (CellsAt.new w _ _))
  have HZ := Lib.hid hz
  obtain ⟨X, hX⟩ : ∃ X, X = fixedV (rgot (bs.drop p) 0 8) := ⟨_, rfl⟩
  rw [← hX] at HR ⊢
  have HB := Lib.hid hb
  have HAP := Lib.hid (apart_new hz.row)
  have HN : Hid (g ≠ w.heap.size) := by show _ ≠ _; omega
  have HS : Hid (∀ (W : World) (u : Value), W.grownBy (W.setCell ⟨w.heap.size, 0, none⟩ u) (some w.heap.size)) := fun W u => grownBy_setCell (grownBy_refl _ _) ⟨w.heap.size, 0, none⟩ (.inl rfl) u
  clear hz he1 he2 hX hb
  go_enter Tryd.func128, Tryd.ntmps128
  go_wp2_with fail
  refine HR.out.mono ?_
  rintro e w2 ⟨rfl, hz2, hq2, hg2⟩
  have c0 := hq2.cell 0 (v := .int .u64 X) rfl
  have f0 := hq2.free 0
  have HZ2 := Lib.hid hz2
  have hgt : w.grownBy w2 (some g) := ((Grew.ofBelow (S := [g]) HB.out).step hg2 (fun i hi => by
    rcases List.mem_cons.1 hi with h2 | h2
    · exact .inl (by rw [h2]; simp)
    · rw [List.mem_singleton] at h2; exact .inr (Nat.le_of_eq h2.symm))).toGrown (fun i hi => by rw [List.mem_singleton] at hi; exact .inl hi)
  have HG := Lib.hid hgt
  clear HR hz2 hq2 hg2 hgt
  go_wp2_with fail
  exact bodyPost_ret (v := .int .u64 X) (by simp [results, Tryd.results128, go_sem, c0]) rfl ⟨rfl, pz_other HZ2.out (HS.out w2 _) HN.out HAP.out, grownBy_step HG.out (HS.out w2 _) (fun i h => .inr (by cases h; exact Nat.le_refl _))⟩
theorem pfix32_any :
    Calls Tryd.prog 129 #[.pointer (some ⟨g, 0, none⟩)] w fun e w' => e = .returned (.int .u64 (fixedV (rgot (bs.drop p) 0 4))) ∧ Pz ea w' g v bs (p + rat (bs.drop p) 0 4) (ask (bs.drop p) 0 4) ∧ w.grownBy w' (some g) := by
  have hb : Below w.heap.size w (w.alloc (.cells #[.int .u64 0] 67)) := (Below.refl _ _).alloc (Nat.le_refl _) _
  have hgl := hz.cells.lt
  have HR := Lib.hid (read32_any ea g v bs p _ (hz.stays hb) (he1.stays hb) (he2.stays hb) w.heap.size 0 (by omega) (apart_new hz.row) (CellsAt.new w _ _))
  have HZ := Lib.hid hz
  obtain ⟨X, hX⟩ : ∃ X, X = fixedV (rgot (bs.drop p) 0 4) := ⟨_, rfl⟩
  rw [← hX] at HR ⊢
  have HB := Lib.hid hb
  have HAP := Lib.hid (apart_new hz.row)
  have HN : Hid (g ≠ w.heap.size) := by show _ ≠ _; omega
  have HS : Hid (∀ (W : World) (u : Value), W.grownBy (W.setCell ⟨w.heap.size, 0, none⟩ u) (some w.heap.size)) := fun W u => grownBy_setCell (grownBy_refl _ _) ⟨w.heap.size, 0, none⟩ (.inl rfl) u
  clear hz he1 he2 hX hb
  go_enter Tryd.func129, Tryd.ntmps129
  go_wp2_with fail
  refine HR.out.mono ?_
  rintro e w2 ⟨rfl, hz2, hq2, hg2⟩
  have c0 := hq2.cell 0 (v := .int .u64 X) rfl
  have f0 := hq2.free 0
  have HZ2 := Lib.hid hz2
  have hgt : w.grownBy w2 (some g) := ((Grew.ofBelow (S := [g]) HB.out).step hg2 (fun i hi => by
    rcases List.mem_cons.1 hi with h2 | h2
    · exact .inl (by rw [h2]; simp)
    · rw [List.mem_singleton] at h2; exact .inr (Nat.le_of_eq h2.symm))).toGrown (fun i hi => by rw [List.mem_singleton] at hi; exact .inl hi)
  have HG := Lib.hid hgt
  clear HR hz2 hq2 hg2 hgt
  go_wp2_with fail
  exact bodyPost_ret (v := .int .u64 X) (by simp [results, Tryd.results129, go_sem, c0]) rfl ⟨rfl, pz_other HZ2.out (HS.out w2 _) HN.out HAP.out, grownBy_step HG.out (HS.out w2 _) (fun i h => .inr (by cases h; exact Nat.le_refl _))⟩
end
section
variable (ea : Nat → Addr) (g : Nat) (v : Value) (bs : List UInt8) (p : Nat) (w : World) (hz : Pz ea w g v bs p 0) (he1 : ErrAt w 2 (ea 1)) (he2 : ErrAt w 3 (ea 2))
include hz he2
variable (he4 : ErrAt w 9 (ea 4))
include he4
set_option maxRecDepth 100000 in
set_option maxHeartbeats 2000000 in
theorem pbytes_bad (k : Nat) (hk : k ≠ 0) (hv : vparse 0 0 (bs.drop p) = (0, 0, k)) :
    Calls Tryd.prog 90 #[.pointer (some ⟨g, 0, none⟩)] w fun e w' => e = .returned (.string { data := #[] }) ∧ Pz ea w' g v bs p k ∧ w.grownBy w' (some g) := by
  have hb : Below w.heap.size w (w.alloc (.cells #[.string { data := #[] }] 9)) := (Below.refl _ _).alloc (Nat.le_refl _) _
  have hgl := hz.cells.lt
  have hp := pvarint_any ea g v bs p _ (hz.stays hb) (he2.stays hb) (he4.stays hb)
  rw [hv] at hp
  have HP := Lib.hid hp
  have HAP := Lib.hid (apart_new hz.row)
  have HQ := Lib.hid (CellsAt.new w #[.string { data := #[] }] 9)
  have HN : Hid (g ≠ w.heap.size) := by show _ ≠ _; omega
  have HS : Hid (∀ (W : World) (u : Value), W.grownBy (W.setCell ⟨w.heap.size, 0, none⟩ u) (some w.heap.size)) := fun W u => grownBy_setCell (grownBy_refl _ _) ⟨w.heap.size, 0, none⟩ (.inl rfl) u
  have HB := Lib.hid hb
  clear hz he2 he4 hp hv hb
  go_enter Tryd.func90, Tryd.ntmps90
  go_wp2_with fail
  refine HP.out.mono ?_
  rintro e w2 ⟨rfl, hz2, hg2⟩
  have hz2' : Pz ea w2 g v bs p k := hz2
  obtain ⟨a, c, rfl, -, -⟩ := hz2'.row.gen.shape
  have hb3 : Below w2.heap.size w2 (w2.alloc (.cells #[.int .u64 0] 67)) := (Below.refl _ _).alloc (Nat.le_refl _) _
  have hz3 := hz2'.stays hb3
  have c2 := hz3.cells.cell 2 (v := EV ea k) rfl
  rw [EV_pos ea hk] at c2
  have hq3 := (HQ.out.grown hg2 (fun h => HN.out (by cases h; rfl))).stays hb3
  have d0 := hq3.cell 0 (v := .string { data := #[] }) rfl
  have f0 := hq3.free 0
  have HZ3 := Lib.hid hz3
  have HG2 := Lib.hid hg2
  clear hz2 hz2' hz3 hg2 hq3 hb3 HP
  go_wp2_with fail
  exact bodyPost_ret (v := .string { data := #[] }) (by simp [results, Tryd.results90, go_sem, d0]) rfl ⟨rfl, pz_other HZ3.out (HS.out _ _) HN.out HAP.out, grownBy_step (grownBy_trans (grownBy_trans (grownBy_none (grown_of_below HB.out)) HG2.out) (grownBy_none (grown_of_below ((Below.refl _ _).alloc (Nat.le_refl _) _)))) (HS.out _ _) (fun i h => .inr (by cases h; exact Nat.le_refl _))⟩
include he1
set_option maxRecDepth 100000 in
set_option maxHeartbeats 2000000 in
theorem pbytes_short (n s R : Nat) (hR : p + s = R) (hv : vparse 0 0 (bs.drop p) = (n, s, 0)) (hs : R ≤ bs.length) (hn : n < 18446744073709551616) (hsh : bs.length - R < n) :
    Calls Tryd.prog 90 #[.pointer (some ⟨g, 0, none⟩)] w fun e w' => e = .returned (.string { data := #[] }) ∧ Pz ea w' g v bs R 2 ∧ w.grownBy w' (some g) := by
  have hb : Below w.heap.size w (w.alloc (.cells #[.string { data := #[] }] 9)) := (Below.refl _ _).alloc (Nat.le_refl _) _
  have hgl := hz.cells.lt
  have hp := pvarint_any ea g v bs p _ (hz.stays hb) (he2.stays hb) (he4.stays hb)
  rw [hv] at hp
  rw [show p + (n, s, 0).2.1 = R from hR] at hp
  have HP := Lib.hid hp
  have HAP := Lib.hid (apart_new hz.row)
  have HQ := Lib.hid (CellsAt.new w #[.string { data := #[] }] 9)
  have HN : Hid (g ≠ w.heap.size) := by show _ ≠ _; omega
  have HS : Hid (∀ (W : World) (u : Value), W.grownBy (W.setCell ⟨w.heap.size, 0, none⟩ u) (some w.heap.size)) := fun W u => grownBy_setCell (grownBy_refl _ _) ⟨w.heap.size, 0, none⟩ (.inl rfl) u
  have HB := Lib.hid hb
  have hsm := hz.small
  have HE1 := Lib.hid (he1.stays hb)
  have HE2 := Lib.hid (he2.stays hb)
  have hg2l := he2.lt
  have hni : (n : Int) ≤ 18446744073709551615 := by omega
  have q1 : (0 : Int) ≤ (bs.length : Int) - (R : Nat) := by omega
  have q2 : (bs.length : Int) ≤ 1000000 := by omega
  have qd : decide ((n : Int) > (bs.length : Int) - (R : Nat)) = true := decide_eq_true (by omega)
  have qd' : decide ((bs.length : Int) - (R : Nat) < n) = true := decide_eq_true (by omega)
  have hgne : g ≠ 3 := by
    intro e
    subst e
    have h1 := hz.cells.cell 0 (v := v) rfl
    unfold ErrAt at he2
    rw [he2] at h1
    obtain ⟨a, c, rfl, -, -⟩ := hz.row.gen.shape
    cases h1
  clear hz he1 he2 he4 hp hv hb hsh hn hR
  go_enter Tryd.func90, Tryd.ntmps90
  go_wp2_with fail
  refine HP.out.mono ?_
  rintro e w2 ⟨rfl, hz2, hg2⟩
  have hz2' : Pz ea w2 g v bs R 0 := hz2
  obtain ⟨a, c, rfl, -, -⟩ := hz2'.row.gen.shape
  have hb3 : Below w2.heap.size w2 (w2.alloc (.cells #[.int .u64 n] 67)) := (Below.refl _ _).alloc (Nat.le_refl _) _
  have hz3 := hz2'.stays hb3
  have c0 := hz3.cells.cell 0 (v := .slice a bs.length c) rfl
  have c1 := hz3.cells.cell 1 (v := .int .i64 (R : Int)) rfl
  have c2 := hz3.cells.cell 2 (v := EV ea 0) rfl
  rw [EV_zero] at c2
  have cf2 := hz3.cells.free 2
  have hq2 := HQ.out.grown hg2 (fun h => HN.out (by cases h; rfl))
  have hq3 := hq2.stays hb3
  have d0 := hq3.cell 0 (v := .string { data := #[] }) rfl
  have f0 := hq3.free 0
  have hm3 := CellsAt.new w2 #[.int .u64 n] 67
  have m0 := hm3.cell 0 (v := .int .u64 n) rfl
  have HZ3 := Lib.hid hz3
  have HG2 := Lib.hid hg2
  clear hz2 hz2' hz3 hg2 hq3 hb3 HP hm3 hq2
  have e2 := HE2.out.grew (Grew.ofGrown HG2.out) (by rw [List.mem_singleton]; exact fun e => hgne e.symm)
  have e3 := e2.stays (w' := w2.alloc (.cells #[.int .u64 n] 67)) ((Below.refl _ _).alloc (Nat.le_refl _) _)
  unfold ErrAt at e3
  clear e2
  go_wp2_with fail
  go_region
  all_goals
    have hz4 := pz_err (HZ3.out.stays (Below.refl _ _).drew) 2
    rw [EV_pos ea (show (2 : Nat) ≠ 0 by decide)] at hz4
    have HZ4 := Lib.hid hz4
    clear hz4
    go_wp2_with fail
    exact bodyPost_ret (v := .string { data := #[] }) (by simp [results, Tryd.results90, go_sem, d0]) rfl ⟨rfl, pz_other HZ4.out (HS.out _ _) HN.out HAP.out, grownBy_step (grownBy_setCell (grownBy_drew (grownBy_trans (grownBy_trans (grownBy_none (grown_of_below HB.out)) HG2.out) (grownBy_none (grown_of_below ((Below.refl _ _).alloc (Nat.le_refl _) _))))) ⟨g, 2, none⟩ (.inl rfl) _) (HS.out _ _) (fun i h => .inr (by cases h; exact Nat.le_refl _))⟩
set_option maxRecDepth 100000 in
set_option maxHeartbeats 2000000 in
theorem pbytes_ok (n s R : Nat) (hR : p + s = R) (hv : vparse 0 0 (bs.drop p) = (n, s, 0)) (hs : R ≤ bs.length) (hsn : R + n ≤ bs.length) :
    Calls Tryd.prog 90 #[.pointer (some ⟨g, 0, none⟩)] w fun e w' => e = .returned (.string (strB ((bs.drop R).take n))) ∧ Pz ea w' g v bs (R + n) 0 ∧ w.grownBy w' (some g) := by
  have hb : Below w.heap.size w (w.alloc (.cells #[.string { data := #[] }] 9)) := (Below.refl _ _).alloc (Nat.le_refl _) _
  have hgl := hz.cells.lt
  have hp := pvarint_any ea g v bs p _ (hz.stays hb) (he2.stays hb) (he4.stays hb)
  rw [hv] at hp
  rw [show p + (n, s, 0).2.1 = R from hR] at hp
  have HP := Lib.hid hp
  have HAP := Lib.hid (apart_new hz.row)
  have HQ := Lib.hid (CellsAt.new w #[.string { data := #[] }] 9)
  have HN : Hid (g ≠ w.heap.size) := by show _ ≠ _; omega
  have HS : Hid (∀ (W : World) (u : Value), W.grownBy (W.setCell ⟨w.heap.size, 0, none⟩ u) (some w.heap.size)) := fun W u => grownBy_setCell (grownBy_refl _ _) ⟨w.heap.size, 0, none⟩ (.inl rfl) u
  have HB := Lib.hid hb
  have hsm := hz.small
  have HE1 := Lib.hid (he1.stays hb)
  have HE2 := Lib.hid (he2.stays hb)
  have hg2l := he2.lt
  have q1 : (0 : Int) ≤ (bs.length : Int) - (R : Nat) := by omega
  have q2 : (bs.length : Int) ≤ 1000000 := by omega
  have qd : decide ((n : Int) > (bs.length : Int) - (R : Nat)) = false := decide_eq_false (by omega)
  have qd' : decide ((bs.length : Int) - (R : Nat) < n) = false := decide_eq_false (by omega)
  have hgne : g ≠ 3 := by
    intro e
    subst e
    have h1 := hz.cells.cell 0 (v := v) rfl
    unfold ErrAt at he2
    rw [he2] at h1
    obtain ⟨a, c, rfl, -, -⟩ := hz.row.gen.shape
    cases h1
  have hgne1 : g ≠ 2 := by
    intro e
    subst e
    have h1 := hz.cells.cell 0 (v := v) rfl
    unfold ErrAt at he1
    rw [he1] at h1
    obtain ⟨a, c, rfl, -, -⟩ := hz.row.gen.shape
    cases h1
  have hask : ask (bs.drop R) 0 (n : Int) = 0 := ask_ok (by omega) (by rw [List.length_drop]; omega)
  have HX1 : Hid (rat (bs.drop R) 0 (n : Int) = n) := by show _ = _; unfold rat; rw [if_pos hask]; omega
  have HX2 : Hid (ask (bs.drop R) 0 (n : Int) = 0) := hask
  obtain ⟨X, hX⟩ : ∃ X, X = (bs.drop R).take n := ⟨_, rfl⟩
  rw [← hX]
  have HX3 : Hid (rgot (bs.drop R) 0 (n : Int) = X) := by show _ = _; unfold rgot; rw [if_pos hask, hX]; simp
  have hni : (n : Int) ≤ 1000000 := by omega
  clear hask hX
  clear hz he1 he2 he4 hp hv hb hR
  go_enter Tryd.func90, Tryd.ntmps90
  go_wp2_with fail
  refine HP.out.mono ?_
  rintro e w2 ⟨rfl, hz2, hg2⟩
  have hz2' : Pz ea w2 g v bs R 0 := hz2
  obtain ⟨a, c, rfl, -, -⟩ := hz2'.row.gen.shape
  have hb3 : Below w2.heap.size w2 (w2.alloc (.cells #[.int .u64 n] 67)) := (Below.refl _ _).alloc (Nat.le_refl _) _
  have hz3 := hz2'.stays hb3
  have c0 := hz3.cells.cell 0 (v := .slice a bs.length c) rfl
  have c1 := hz3.cells.cell 1 (v := .int .i64 (R : Int)) rfl
  have c2 := hz3.cells.cell 2 (v := EV ea 0) rfl
  rw [EV_zero] at c2
  have cf2 := hz3.cells.free 2
  have hq2 := HQ.out.grown hg2 (fun h => HN.out (by cases h; rfl))
  have hq3 := hq2.stays hb3
  have d0 := hq3.cell 0 (v := .string { data := #[] }) rfl
  have f0 := hq3.free 0
  have hm3 := CellsAt.new w2 #[.int .u64 n] 67
  have m0 := hm3.cell 0 (v := .int .u64 n) rfl
  have HZ3 := Lib.hid hz3
  have HG2 := Lib.hid hg2
  have hq2' := hq2
  have HM3 := Lib.hid hm3
  have HWL : Hid (w.heap.size < w2.heap.size) := by have := hg2.size; simp at this; exact this
  have HE1W := Lib.hid (HE1.out.grew (Grew.ofGrown hg2) (by rw [List.mem_singleton]; exact fun e => hgne1 e.symm))
  have HE2W := Lib.hid (HE2.out.grew (Grew.ofGrown hg2) (by rw [List.mem_singleton]; exact fun e => hgne e.symm))
  clear hz2 hz2' hz3 hg2 hq3 hb3 HP hm3 hq2
  have e2 := HE2.out.grew (Grew.ofGrown HG2.out) (by rw [List.mem_singleton]; exact fun e => hgne e.symm)
  have e3 := e2.stays (w' := w2.alloc (.cells #[.int .u64 n] 67)) ((Below.refl _ _).alloc (Nat.le_refl _) _)
  unfold ErrAt at e3
  clear e2
  have HQ2 := Lib.hid hq2'
  clear hq2'
  go_wp2_with fail
  go_region
  all_goals
    have hbd : Below w2.heap.size w2 (w2.alloc (.cells #[.int .u64 n] 67)).drew := ((Below.refl _ _).alloc (Nat.le_refl _) _).drew
    have hrd := readTk_any ea g _ bs R (w2.alloc (.cells #[.int .u64 n] 67)).drew (HZ3.out.stays (Below.refl _ _).drew) (HE1W.out.stays hbd) (HE2W.out.stays hbd) w2.heap.size n w.heap.size [] HM3.out.drew (by omega) (Nat.ne_of_gt HWL.out) HN.out HAP.out (HQ2.out.stays hbd)
    rw [HX1.out, HX2.out, HX3.out] at hrd
    have HRD := Lib.hid hrd
    clear hrd hbd d0 f0 m0 c0 c1 c2 cf2 e3
    go_wp2_with fail
    refine HRD.out.mono ?_
    rintro e w5 ⟨rfl, hz5, hq5, hg5⟩
    have d0 := hq5.cell 0 (v := .string (strB X)) rfl
    have f0 := hq5.free 0
    have HZ5 := Lib.hid hz5
    have HG5 := Lib.hid hg5
    clear hz5 hq5 hg5 HRD
    go_wp2_with fail
    exact bodyPost_ret (v := .string (strB X)) (by simp [results, Tryd.results90, go_sem, d0]) rfl ⟨rfl, pz_other HZ5.out (HS.out _ _) HN.out HAP.out, by
      have h1 := grownBy_drew (grownBy_trans (grownBy_trans (grownBy_none (grown_of_below HB.out)) HG2.out) (grownBy_none (row := some g) (grown_of_below ((Below.refl _ _).alloc (Nat.le_refl _) (.cells #[.int .u64 n] 67)))))
      have h2 := ((Grew.ofGrown h1).step HG5.out (fun i hi => by
        rcases List.mem_cons.1 hi with h3 | h3
        · exact .inl (by rw [h3]; simp)
        · rw [List.mem_singleton] at h3; exact .inr (Nat.le_of_eq h3.symm))).toGrown (g := g) (fun i hi => by rw [List.mem_singleton] at hi; exact .inl hi)
      exact grownBy_step h2 (HS.out _ _) (fun i h => .inr (by cases h; exact Nat.le_refl _))⟩
end
end Go.Proofs.YtgehbabcpmkgaaaDoor
