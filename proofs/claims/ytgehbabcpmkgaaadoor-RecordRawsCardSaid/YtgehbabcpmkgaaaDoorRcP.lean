/- The walks of record.Parse's parser: a varint, so many bytes, a text. At most 1000000 bytes. -/
import Derived.Test.YtgehbabcpmkgaaaDoorRcA
import Derived.Deep.RegionHeld3
namespace Go.Proofs.YtgehbabcpmkgaaaDoor
open Go Go.RowKit
set_option linter.unusedVariables false
/-- a parser in block g: its bytes, its place, its error -/
structure Pz (ea : Nat → Addr) (w : World) (g : Nat) (v : Value) (bs : List UInt8) (p k : Nat) : Prop where
  cells : CellsAt w g 177 #[v, .int .i64 p, EV ea k]
  row : RowB w v bs
  le : p ≤ bs.length
  apart : bs ≠ [] → v.ownBlock ≠ some g
  small : bs.length ≤ 1000000
theorem Pz.stays {ea : Nat → Addr} {w w' : World} {g : Nat} {v : Value} {bs : List UInt8} {p k : Nat} (h : Pz ea w g v bs p k) (hb : Below w.heap.size w w') : Pz ea w' g v bs p k := ⟨h.cells.stays hb, h.row.stays hb, h.le, h.apart, h.small⟩
/-- x[p:] of bytes, whatever the capacity -/
theorem slice_from {w : World} {a : Option Addr} {c : Nat} {bs : List UInt8} (hr : RowB w (.slice a bs.length c) bs) (p : Nat) (hp : p ≤ bs.length) : RowB w (.slice (if c = p then a else a.map fun x => x.add p) (bs.length - p) (c - p)) (bs.drop p) := by
  have h := hr.gen.part hp (Nat.le_refl _)
  rw [List.take_length] at h
  have hl : (bs.drop p).length = bs.length - p := List.length_drop
  unfold RowB
  unfold RowL at h
  exact h
set_option maxRecDepth 100000 in
set_option maxHeartbeats 2000000 in
theorem pvarint_any (ea : Nat → Addr) (g : Nat) (v : Value) (bs : List UInt8) (p : Nat) (w : World) (hz : Pz ea w g v bs p 0) (he2 : ErrAt w 3 (ea 2)) (he4 : ErrAt w 9 (ea 4)) :
    Calls Tryd.prog 124 #[.pointer (some ⟨g, 0, none⟩)] w fun e w' => e = .returned (.int .u64 (vparse 0 0 (bs.drop p)).1) ∧ Pz ea w' g v bs (p + (vparse 0 0 (bs.drop p)).2.1) (vparse 0 0 (bs.drop p)).2.2 ∧ w.grownBy w' (some g) := by
  obtain ⟨a, c, rfl, -, -⟩ := hz.row.gen.shape
  have hcap := hz.row.gen.cap
  have hle := hz.le
  have hsm := hz.small
  have c0 := hz.cells.cell 0 (v := .slice a bs.length c) rfl
  have c1 := hz.cells.cell 1 (v := .int .i64 p) rfl
  have hsl := slice_from hz.row p hle
  have HVP : Hid (∀ W v', Below w.heap.size w W → RowB W v' (bs.drop p) → Calls Tryd.prog 119 #[v'] W fun e w' => e = .returned (.tuple #[.int .u64 (vparse 0 0 (bs.drop p)).1, .int .i64 (vparse 0 0 (bs.drop p)).2.1, EV ea (vparse 0 0 (bs.drop p)).2.2]) ∧ Below W.heap.size W w') := fun W v' hb h => vParse_any ea v' _ W h (by rw [List.length_drop]; omega) (he2.stays hb) (he4.stays hb)
  have HZ := Lib.hid hz
  have hsize : (vparse 0 0 (bs.drop p)).2.1 ≤ bs.length - p := by
    rcases vparse_cases (bs.drop p) with ⟨n, s, h1, h2, h3, h4⟩ | ⟨k, h1, h2, h3⟩
    · rw [h1]; rw [List.length_drop] at h3; exact h3
    · rw [h3]; exact Nat.zero_le _
  obtain ⟨T, hT⟩ : ∃ T, T = vparse 0 0 (bs.drop p) := ⟨_, rfl⟩
  rw [← hT] at HVP hsize ⊢
  obtain ⟨tn, ts, tk⟩ := T
  replace hsize : ts ≤ bs.length - p := hsize
  have i1 : (p : Int) ≤ bs.length := by omega
  have i2 : (p : Int) ≤ c := by omega
  have i3 : (ts : Int) ≤ (bs.length : Int) - p := by omega
  have i4 : (bs.length : Int) ≤ 1000000 := by omega
  clear hz he2 he4 hT
  have HK : Hid (∀ w', Below w.heap.size w w' → Below w.heap.size w w' ∧ w'.cell? ⟨g, 0, none⟩ = some (.slice a bs.length c) ∧ w'.cell? ⟨g, 1, none⟩ = some (.int .i64 p)) := fun w' hb => ⟨hb, (HZ.out.cells.stays hb).cell 0 rfl, (HZ.out.cells.stays hb).cell 1 rfl⟩
  have hbd : Below w.heap.size w w.drew := (Below.refl _ _).drew
  by_cases hcp : c = p
  · have hs2 := hsl
    rw [if_pos hcp] at hs2
    have HS := Lib.hid hs2
    clear hsl hs2
    obtain rfl : c = bs.length := by omega
    obtain rfl : p = bs.length := hcp.symm
    rw [Nat.sub_self] at HS
    have HP : Hid (∀ W, Below w.heap.size w W → Calls Tryd.prog 119 #[.slice a 0 0] W fun e w' => e = .returned (.tuple #[.int .u64 tn, .int .i64 ts, EV ea tk]) ∧ Below W.heap.size W w') := fun W hb => HVP.out W _ hb (HS.out.stays hb)
    clear HVP
    go_enter Tryd.func124, Tryd.ntmps124
    go_wp2_with fail
    go_region_held3 (fun w' => Below w.heap.size w w' ∧ w'.cell? ⟨g, 0, none⟩ = some (.slice a bs.length bs.length) ∧ w'.cell? ⟨g, 1, none⟩ = some (.int .i64 bs.length))
      (exact HK.out _ (by assumption))
      ((first
        | (go_at_call 119; (with_reducible refine (HP.out _ (by assumption)).mono ?_); rintro e wA ⟨rfl, hbA⟩; have hbB := Below.trans (B := w.heap.size) (a := w) (by assumption) (hbA.mono (Below.size (by assumption))))))
    all_goals
      have hct := HZ.out.cells.stays hbB
      have d0 := hct.cell 0 (v := .slice a bs.length bs.length) rfl
      have d1 := hct.cell 1 (v := .int .i64 bs.length) rfl
      have d2 := hct.cell 2 (v := EV ea 0) rfl
      have f1 := hct.free 1
      have f2 := hct.free 2
      have HB := Lib.hid hbB
      have HCT := Lib.hid hct
      clear HP HK hbd hbA hbB hct
      by_cases hk : tk = 0
      · subst hk
        rw [EV_zero]
        go_wp2_with fail
        go_ret
        refine ⟨rfl, ⟨?_, ?_, ?_, HZ.out.apart, HZ.out.small⟩, ?_⟩
        · have := (HCT.out.set 1 (.int .i64 ((bs.length : Int) + ts))).set 2 .nilIface
          simpa [EV_zero] using this
        · exact RowB.keep HZ.out.row (grownBy_setCell (grownBy_setCell (grownBy_none (grown_of_below HB.out)) ⟨g, 1, none⟩ (.inl rfl) _) ⟨g, 2, none⟩ (.inl rfl) _) HZ.out.apart
        · show bs.length + ts ≤ _; omega
        · exact grownBy_setCell (grownBy_setCell (grownBy_none (grown_of_below HB.out)) ⟨g, 1, none⟩ (.inl rfl) _) ⟨g, 2, none⟩ (.inl rfl) _
      · rw [EV_pos ea hk]
        go_wp2_with fail
        go_ret
        refine ⟨rfl, ⟨?_, ?_, ?_, HZ.out.apart, HZ.out.small⟩, ?_⟩
        · have := (HCT.out.set 1 (.int .i64 ((bs.length : Int) + ts))).set 2 (.iface 248 (.pointer (some (ea tk))))
          simpa [EV_pos ea hk] using this
        · exact RowB.keep HZ.out.row (grownBy_setCell (grownBy_setCell (grownBy_none (grown_of_below HB.out)) ⟨g, 1, none⟩ (.inl rfl) _) ⟨g, 2, none⟩ (.inl rfl) _) HZ.out.apart
        · show bs.length + ts ≤ _; omega
        · exact grownBy_setCell (grownBy_setCell (grownBy_none (grown_of_below HB.out)) ⟨g, 1, none⟩ (.inl rfl) _) ⟨g, 2, none⟩ (.inl rfl) _
  · have hs2 := hsl
    rw [if_neg hcp] at hs2
    have HS := Lib.hid hs2
    clear hsl hs2
    have HP : Hid (∀ W, Below w.heap.size w W → Calls Tryd.prog 119 #[.slice (a.map fun x => x.add p) (bs.length - p) (c - p)] W fun e w' => e = .returned (.tuple #[.int .u64 tn, .int .i64 ts, EV ea tk]) ∧ Below W.heap.size W w') := fun W hb => HVP.out W _ hb (HS.out.stays hb)
    clear HVP
    go_enter Tryd.func124, Tryd.ntmps124
    go_wp2_with fail
    go_region_held3 (fun w' => Below w.heap.size w w' ∧ w'.cell? ⟨g, 0, none⟩ = some (.slice a bs.length c) ∧ w'.cell? ⟨g, 1, none⟩ = some (.int .i64 p))
      (exact HK.out _ (by assumption))
      ((first
        | (go_at_call 119; (with_reducible refine (HP.out _ (by assumption)).mono ?_); rintro e wA ⟨rfl, hbA⟩; have hbB := Below.trans (B := w.heap.size) (a := w) (by assumption) (hbA.mono (Below.size (by assumption))))))
    all_goals
      have hct := HZ.out.cells.stays hbB
      have d0 := hct.cell 0 (v := .slice a bs.length c) rfl
      have d1 := hct.cell 1 (v := .int .i64 p) rfl
      have d2 := hct.cell 2 (v := EV ea 0) rfl
      have f1 := hct.free 1
      have f2 := hct.free 2
      have HB := Lib.hid hbB
      have HCT := Lib.hid hct
      clear HP HK hbd hbA hbB hct
      by_cases hk : tk = 0
      · subst hk
        rw [EV_zero]
        go_wp2_with fail
        go_ret
        refine ⟨rfl, ⟨?_, ?_, ?_, HZ.out.apart, HZ.out.small⟩, ?_⟩
        · have := (HCT.out.set 1 (.int .i64 ((p : Int) + ts))).set 2 .nilIface
          simpa [EV_zero] using this
        · exact RowB.keep HZ.out.row (grownBy_setCell (grownBy_setCell (grownBy_none (grown_of_below HB.out)) ⟨g, 1, none⟩ (.inl rfl) _) ⟨g, 2, none⟩ (.inl rfl) _) HZ.out.apart
        · show p + ts ≤ _; omega
        · exact grownBy_setCell (grownBy_setCell (grownBy_none (grown_of_below HB.out)) ⟨g, 1, none⟩ (.inl rfl) _) ⟨g, 2, none⟩ (.inl rfl) _
      · rw [EV_pos ea hk]
        go_wp2_with fail
        go_ret
        refine ⟨rfl, ⟨?_, ?_, ?_, HZ.out.apart, HZ.out.small⟩, ?_⟩
        · have := (HCT.out.set 1 (.int .i64 ((p : Int) + ts))).set 2 (.iface 248 (.pointer (some (ea tk))))
          simpa [EV_pos ea hk] using this
        · exact RowB.keep HZ.out.row (grownBy_setCell (grownBy_setCell (grownBy_none (grown_of_below HB.out)) ⟨g, 1, none⟩ (.inl rfl) _) ⟨g, 2, none⟩ (.inl rfl) _) HZ.out.apart
        · show p + ts ≤ _; omega
        · exact grownBy_setCell (grownBy_setCell (grownBy_none (grown_of_below HB.out)) ⟨g, 1, none⟩ (.inl rfl) _) ⟨g, 2, none⟩ (.inl rfl) _
end Go.Proofs.YtgehbabcpmkgaaaDoor
