/- octets.Reader: what its methods answer of bytes, act by act. At most 100000000 bytes. -/
import Derived.Test.YtgehbabcpmkgaaaDoorClone
import Derived.BigQuiet
import Derived.Deep.QuietTactic
namespace Go.Proofs.YtgehbabcpmkgaaaDoor
open Go Go.RowKit
set_option linter.unusedVariables false
/-- the error's number of n bytes from a place on -/
def ask (bs : List UInt8) (p : Nat) (n : Int) : Nat := if n < 0 then 1 else if (bs.length : Int) - p < n then 2 else 0
theorem ask_neg {bs : List UInt8} {p : Nat} {n : Int} (h : n < 0) : ask bs p n = 1 := if_pos h
theorem ask_short {bs : List UInt8} {p : Nat} {n : Int} (h : ¬ n < 0) (h2 : (bs.length : Int) - p < n) : ask bs p n = 2 := by unfold ask; rw [if_neg h, if_pos h2]
theorem ask_ok {bs : List UInt8} {p : Nat} {n : Int} (h : ¬ n < 0) (h2 : ¬ (bs.length : Int) - p < n) : ask bs p n = 0 := by unfold ask; rw [if_neg h, if_neg h2]
theorem ask_le (bs : List UInt8) (p : Nat) (n : Int) : ask bs p n ≤ 19 := by unfold ask; split <;> (try split) <;> decide
/-- bytes that are read, behind a write into another block -/
theorem RowB.keep {w w' : World} {v : Value} {bs : List UInt8} {g : Nat} (h : RowB w v bs) (hg : w.grownBy w' (some g)) (hne : bs ≠ [] → v.ownBlock ≠ some g) : RowB w' v bs := by
  rcases h with h | h
  · exact .inl h
  · by_cases hb : bs = []
    · subst hb
      obtain ⟨b, o, c, hv, h1, h2, h3, h4⟩ := h
      exact .inl ⟨rfl, rfl, _, c, hv⟩
    · exact Row.grown (.inr h) hg (fun k hk e => hne hb (by rw [hk, e]))
/-- a reader in block g: its bytes, and its place -/
structure Rd (w : World) (g : Nat) (v : Value) (bs : List UInt8) (p : Nat) : Prop where
  cells : CellsAt w g 240 #[v, .int .i64 p]
  row : RowB w v bs
  le : p ≤ bs.length
  apart : bs ≠ [] → v.ownBlock ≠ some g
  small : bs.length ≤ 100000000
theorem Rd.stays {w w' : World} {g : Nat} {v : Value} {bs : List UInt8} {p : Nat} (h : Rd w g v bs p) (hb : Below w.heap.size w w') : Rd w' g v bs p := ⟨h.cells.stays hb, h.row.stays hb, h.le, h.apart, h.small⟩
/-- a world in which only block g has been written, and new blocks have come -/
theorem newReader_any (v : Value) (bs : List UInt8) (w : World) (hr : RowB w v bs) (hlen : bs.length ≤ 100000000) :
    Calls Tryd.prog 121 #[v] w fun e w' => e = .returned (.pointer (some ⟨w.heap.size, 0, none⟩)) ∧ Rd w' w.heap.size v bs 0 ∧ Below w.heap.size w w' := by
  have hb : Below w.heap.size w (w.alloc (.cells #[v, .int .i64 0] 240)) := (Below.refl _ _).alloc (Nat.le_refl _) _
  have hrd : Hid (Rd (w.alloc (.cells #[v, .int .i64 0] 240)) w.heap.size v bs 0) := ⟨CellsAt.new w _ _, hr.stays hb, Nat.zero_le _, fun hne e => by
    have := Row.block_lt hr (List.length_pos_iff.2 hne) _ e; omega, hlen⟩
  obtain ⟨a, c, rfl, _, _⟩ := hr.gen.shape
  have HB := Lib.hid hb
  clear hr hb
  go_enter Tryd.func121, Tryd.ntmps121
  go_wp2
  go_ret
  exact ⟨rfl, hrd.out, HB.out⟩
section
variable (g : Nat) (v : Value) (bs : List UInt8) (p : Nat) (w : World) (hrd : Rd w g v bs p)
include hrd
theorem left_any : Calls Tryd.prog 144 #[.pointer (some ⟨g, 0, none⟩)] w fun e w' => e = .returned (.int .i64 ((bs.length : Int) - p)) ∧ Below w.heap.size w w' := by
  obtain ⟨a, c, rfl, _, _⟩ := hrd.row.gen.shape
  have c0 := hrd.cells.cell 0 (v := .slice a bs.length c) rfl
  have c1 := hrd.cells.cell 1 (v := .int .i64 p) rfl
  have hle := hrd.le
  have hsm := hrd.small
  clear hrd
  go_enter Tryd.func144, Tryd.ntmps144
  go_wp2
  go_region
  all_goals go_wp2
  all_goals go_ret
  all_goals exact ⟨rfl, (Below.refl _ _).drew⟩
theorem at_any : Calls Tryd.prog 138 #[.pointer (some ⟨g, 0, none⟩)] w fun e w' => e = .returned (.int .i64 p) ∧ w = w' := by
  have c1 := hrd.cells.cell 1 (v := .int .i64 p) rfl
  clear hrd
  go_enter Tryd.func138, Tryd.ntmps138
  go_wp2
  go_ret
  exact ⟨rfl, rfl⟩
end
/-- what is read, and the place behind it -/
def rgot (bs : List UInt8) (p : Nat) (n : Int) : List UInt8 := if ask bs p n = 0 then (bs.take (p + n.toNat)).drop p else []
def rat (bs : List UInt8) (p : Nat) (n : Int) : Nat := if ask bs p n = 0 then p + n.toNat else p
theorem piece_block {a : Option Addr} {p n c n' c' g : Nat} (h : (Value.slice a n c).ownBlock ≠ some g) : (Value.slice (a.map fun x => x.add p) n' c').ownBlock ≠ some g := by
  cases a with
  | none => simp [Value.ownBlock]
  | some x =>
    have e : (x.add p).block = x.block := by unfold Addr.add; split <;> rfl
    simpa [Value.ownBlock, e] using h
theorem next_any (ea : Nat → Addr) (g : Nat) (v : Value) (bs : List UInt8) (p : Nat) (n : Int) (w : World) (hrd : Rd w g v bs p) (hn1 : -9223372036854775808 ≤ n) (hn2 : n ≤ 9223372036854775807)
    (he1 : ErrAt w 2 (ea 1)) (he2 : ErrAt w 3 (ea 2)) :
    Calls Tryd.prog 135 #[.pointer (some ⟨g, 0, none⟩), .int .i64 n] w fun e w' => ∃ v', e = .returned (.tuple #[v', EV ea (ask bs p n)]) ∧ RowB w' v' (rgot bs p n) ∧ Rd w' g v bs (rat bs p n) ∧ w.grownBy w' (some g) := by
  by_cases h0 : n < 0
  · have HA := Lib.hid (ask_neg (bs := bs) (p := p) h0)
    have hg : Hid (rgot bs p n = []) := by show _ = _; unfold rgot; rw [HA.out]; rfl
    have ha : Hid (rat bs p n = p) := by show _ = _; unfold rat; rw [HA.out]; rfl
    have HR := Lib.hid hrd
    clear hrd he2
    unfold ErrAt at he1
    go_enter Tryd.func135, Tryd.ntmps135
    go_wp2
    go_region
    all_goals go_wp2
    all_goals go_ret2
    all_goals exact ⟨.slice none 0 0, ret2 rfl (by rw [HA.out]; rfl), by rw [hg.out]; exact RowB.nil _, by rw [ha.out]; exact HR.out.stays (Below.refl _ _).drew, grown_of_below (Below.refl _ _).drew |> grownBy_none⟩
  · have HL := Lib.hid (left_any g v bs p w hrd)
    have hle := hrd.le
    have hsm := hrd.small
    by_cases h2 : (bs.length : Int) - p < n
    · have HA := Lib.hid (ask_short (bs := bs) (p := p) h0 h2)
      have hg : Hid (rgot bs p n = []) := by show _ = _; unfold rgot; rw [HA.out]; rfl
      have ha : Hid (rat bs p n = p) := by show _ = _; unfold rat; rw [HA.out]; rfl
      have HR := Lib.hid hrd
      clear hrd he1
      go_enter Tryd.func135, Tryd.ntmps135
      go_wp2_with fail
      refine HL.out.mono ?_
      rintro e w1 ⟨rfl, hb1⟩
      have e2 := he2.stays hb1
      unfold ErrAt at e2
      go_wp2_with fail
      go_region
      all_goals go_wp2
      all_goals go_ret2
      all_goals exact ⟨.slice none 0 0, ret2 rfl (by rw [HA.out]; rfl), by rw [hg.out]; exact RowB.nil _, by rw [ha.out]; exact HR.out.stays hb1.drew, grownBy_none (grown_of_below hb1.drew)⟩
    · have HA := Lib.hid (ask_ok (bs := bs) (p := p) h0 h2)
      obtain ⟨k, rfl⟩ := Int.eq_ofNat_of_zero_le (by omega : 0 ≤ n)
      have hg : Hid (rgot bs p k = (bs.take (p + k)).drop p) := by show _ = _; unfold rgot; rw [HA.out]; rfl
      have ha : Hid (rat bs p k = p + k) := by show _ = _; unfold rat; rw [HA.out]; rfl
      have HR := Lib.hid hrd
      obtain ⟨a, c, rfl, _, _⟩ := hrd.row.gen.shape
      have hcap := hrd.row.gen.cap
      have hpart := hrd.row.gen.part (l := p) (h := p + k) (by omega) (by omega)
      rw [Nat.add_sub_cancel_left] at hpart
      have hpc : (p : Int) + k ≤ c := by omega
      have q3 : IntKind.i64.wrap (p : Int) = p := IntWalk.i64_in _ (by omega)
      have q4 : ((p : Int) + k).toNat = p + k := by omega
      have q5 : max ((p : Int) + k) 0 = p + k := by omega
      have hfin : ∀ (v' : Value) (w' : World), RowL BV w v' ((bs.take (p + k)).drop p) → w.grownBy w' (some g) → CellsAt w' g 240 #[.slice a bs.length c, .int .i64 ((p : Int) + k)] → (bs ≠ [] → v'.ownBlock ≠ some g) →
          RowB w' v' (rgot bs p k) ∧ Rd w' g (.slice a bs.length c) bs (rat bs p k) ∧ w.grownBy w' (some g) := by
        intro v' w' h1 h2 h3 h4
        rw [hg.out, ha.out]
        refine ⟨RowB.keep h1 h2 (fun h => h4 (fun e => h (by rw [e]; simp))), ⟨by push_cast; exact h3, hrd.row.keep h2 hrd.apart, by omega, hrd.apart, hrd.small⟩, h2⟩
      have HF := Lib.hid hfin
      have HP := Lib.hid hpart
      clear hrd he1 he2 hfin hpart
      have hap := HR.out.apart
      have HAP := Lib.hid hap
      clear hap
      by_cases hcp : c = p
      · have hrow := HP.out
        rw [if_pos hcp] at hrow
        clear HP
        obtain rfl : c = p := hcp
        rw [Nat.sub_self] at hrow
        have HW := Lib.hid hrow
        clear hrow
        go_enter Tryd.func135, Tryd.ntmps135
        go_wp2_with fail
        refine HL.out.mono ?_
        rintro e w1 ⟨rfl, hb1⟩
        have hct := HR.out.cells.stays hb1
        have c0 := hct.cell 0 (v := .slice a bs.length c) rfl
        have c1 := hct.cell 1 (v := .int .i64 c) rfl
        have f1 := hct.free 1
        have hct' := Lib.hid (hct.set 1 (.int .i64 ((c : Int) + k)))
        have hgr := Lib.hid (grownBy_drew (grownBy_setCell (grownBy_none (row := some g) (grown_of_below hb1)) ⟨g, 1, none⟩ (.inl rfl) (.int .i64 ((c : Int) + k))))
        clear hct
        go_wp2_with fail
        have d0 := hct'.out.cell 0 (v := .slice a bs.length c) rfl
        have d1 := hct'.out.cell 1 (v := .int .i64 ((c : Int) + k)) rfl
        clear c0 c1 f1
        go_region
        all_goals go_wp2
        all_goals go_ret2
        all_goals exact ⟨.slice a k 0, ret2 rfl (by rw [HA.out]; rfl), HF.out _ _ HW.out hgr.out hct'.out (fun h e => HAP.out h (by cases a <;> exact e))⟩
      · have hrow := HP.out
        rw [if_neg hcp] at hrow
        have HW := Lib.hid hrow
        clear hrow HP
        go_enter Tryd.func135, Tryd.ntmps135
        go_wp2_with fail
        refine HL.out.mono ?_
        rintro e w1 ⟨rfl, hb1⟩
        have hct := HR.out.cells.stays hb1
        have c0 := hct.cell 0 (v := .slice a bs.length c) rfl
        have c1 := hct.cell 1 (v := .int .i64 p) rfl
        have f1 := hct.free 1
        have hct' := Lib.hid (hct.set 1 (.int .i64 ((p : Int) + k)))
        have hgr := Lib.hid (grownBy_drew (grownBy_setCell (grownBy_none (row := some g) (grown_of_below hb1)) ⟨g, 1, none⟩ (.inl rfl) (.int .i64 ((p : Int) + k))))
        clear hct
        go_wp2_with fail
        have d0 := hct'.out.cell 0 (v := .slice a bs.length c) rfl
        have d1 := hct'.out.cell 1 (v := .int .i64 ((p : Int) + k)) rfl
        clear c0 c1 f1
        go_region
        all_goals go_wp2
        all_goals go_ret2
        all_goals exact ⟨.slice (a.map fun x => x.add p) k (c - p), ret2 rfl (by rw [HA.out]; rfl), HF.out _ _ HW.out hgr.out hct'.out (fun h => piece_block (HAP.out h))⟩
end Go.Proofs.YtgehbabcpmkgaaaDoor
