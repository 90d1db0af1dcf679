/- The disk's Read, walked. -/
import Derived.Test.YtalebgnnlgcglaaDoorDkP
import Derived.Test.YtalebgnnlgcglaaDoorClone
namespace Go.Proofs.YtalebgnnlgcglaaDoor
open Go Go.RowKit
set_option linter.unusedVariables false
section
variable {ops : Array Oper} {rest : List Oper} {o : Oper} {a : Act} {w : World} {Q : Exit → Act → World → Prop}
theorem zeroSec (w : World) : (zeroValue 63).run Tryd.prog w = .ok (.agg secZ) w := by kernel_rfl
/-- 's, is := d.written[at]' -/
theorem wpList_lookYes (hg : o.guard = none) (dst : Option Tmp) (hdst : o.dst = dst) (m x : Operand) (hop : o.op = Op.lookup 58 m x true) {g gd gm : Nat} {d : Dm} (h : Dk w g gd gm d) (hm : a.eval m = .map (some gm)) (q : Int) (hx : a.eval x = .int .i64 q) (hq : -9223372036854775808 ≤ q ∧ q ≤ 9223372036854775807)
    (s : List UInt8) (hs : d.wr q = some s) (hK : wpList Tryd.prog ops Q rest (a.put dst (.tuple #[secV s, .bool true])) w) : wpList Tryd.prog ops Q (o :: rest) a w := by
  subst hdst
  refine wpList_lookI_ok w hg m x _ hop 3 63 Tryd.underlying3 Tryd.underlying58 (zeroSec w) gm d.writes _ hm h.wr q hx hq ?_
  simp only [hs, Option.map_some, Option.getD_some, Option.isSome_some]
  exact hK
theorem wpList_lookNo (hg : o.guard = none) (dst : Option Tmp) (hdst : o.dst = dst) (m x : Operand) (hop : o.op = Op.lookup 58 m x true) {g gd gm : Nat} {d : Dm} (h : Dk w g gd gm d) (hm : a.eval m = .map (some gm)) (q : Int) (hx : a.eval x = .int .i64 q) (hq : -9223372036854775808 ≤ q ∧ q ≤ 9223372036854775807)
    (hs : d.wr q = none) (hK : wpList Tryd.prog ops Q rest (a.put dst (.tuple #[secV zero64, .bool false])) w) : wpList Tryd.prog ops Q (o :: rest) a w := by
  subst hdst
  refine wpList_lookI_ok w hg m x _ hop 3 63 Tryd.underlying3 Tryd.underlying58 (zeroSec w) gm d.writes _ hm h.wr q hx hq ?_
  simp only [hs, Option.map_none, Option.getD_none, Option.isSome_none]
  exact hK
end
theorem below_drewQ {B n : Nat} {w w' : World} (h : Below B w w') : Below B w (w'.drewN n) := ⟨h.os, h.tape, h.output, h.size, h.block⟩
/-- a sector in a block is bytes -/
theorem row_sec {w : World} {g : Nat} {T : TypeId} {s : List UInt8} (h : CellsAt w g T (secC s).toArray) (hs : s.length = 64) : RowB w (.slice (some ⟨g, 0, none⟩) 64 64) s := by
  refine .inr ⟨g, 0, 64, by rw [hs], by omega, by decide, h.lt, fun j u hu => ?_⟩
  rw [Nat.zero_add]
  exact h.cell j (by rw [List.getElem?_toArray]; exact hu)
theorem readK_has {d : Dm} {x : Int} (h : ¬ d.has x) : readK d x = 1 := if_pos h
theorem readK_power {d : Dm} {x : Int} (h : d.has x) (h3 : d.fuse = 0) : readK d x = 17 := by unfold readK; rw [if_neg (fun h' => h' h), if_pos h3]
theorem readK_of {d : Dm} {x : Int} (h : d.has x) (h3 : d.fuse ≠ 0) : readK d x = 0 := by unfold readK; rw [if_neg (fun h' => h' h), if_neg h3]
set_option maxRecDepth 100000 in
set_option maxHeartbeats 1000000 in
theorem read_any (ea : Nat → Addr) {w : World} {g gd gm : Nat} {d : Dm} (h : Dk w g gd gm d) {x : Int} (hx1 : -9223372036854775808 ≤ x) (hx2 : x ≤ 9223372036854775807) (he1 : ErrAt w 0 (ea 1)) (he17 : ErrAt w 2 (ea 17)) :
    Calls Tryd.prog 10 #[.pointer (some ⟨g, 0, none⟩), .int .i64 x] w fun e w' => ∃ v', e = .returned (.tuple #[v', EV ea (readK d x)]) ∧ OwnB w.heap.size w' v' (readV d x) ∧ Below w.heap.size w w' := by
  unfold ErrAt at he1 he17
  by_cases h1 : d.has x
  · have HH := Lib.hid (has_yes h h1)
    by_cases h3 : d.fuse = 0
    · have HK := Lib.hid (readK_power h1 h3)
      have HP := Lib.hid (power_no h h3)
      have HV : Hid (readV d x = []) := by show _ = _; unfold readV; rw [if_neg (by rw [HK.out]; decide)]
      clear h1 h h3
      go_enter Tryd.func10, Tryd.ntmps10
      go_wp2_with fail
      refine HH.out.mono ?_
      rintro e w1 ⟨rfl, rfl⟩
      go_wp2_with fail
      refine HP.out.mono ?_
      rintro e w1 ⟨rfl, rfl⟩
      go_wp2_with fail
      go_quiet (fail)
      go_wp2_with fail
      go_ret2
      exact ⟨.slice none 0 0, ret2 rfl (by rw [HK.out]; rfl), by rw [HV.out]; exact OwnB.nil _ _, below_drewQ (Below.refl _ _)⟩
    · have HK := Lib.hid (readK_of h1 h3)
      have HP := Lib.hid (power_yes h h3)
      have HV : Hid (readV d x = getV d x) := by show _ = _; unfold readV; rw [if_pos HK.out]
      have HD := Lib.hid h
      obtain ⟨i, rfl⟩ := Int.eq_ofNat_of_zero_le h1.1
      have hi1 : (i : Int) < d.dur.length := h1.2
      have hi : i < d.dur.length := by omega
      have c0 := h.c0
      have c1 := h.c1
      have HX := Lib.hid (And.intro hx1 hx2)
      cases hw : d.wr (i : Int) with
      | some s =>
        have hs : s.length = 64 := h.ok.wlen _ _ hw
        have HG : Hid (getV d (i : Int) = s) := by show _ = _; unfold getV; rw [hw]; rfl
        have HW := Lib.hid hw
        have HS := Lib.hid hs
        clear h1 h h3 hw hs
        go_enter Tryd.func10, Tryd.ntmps10
        go_wp2_with fail
        refine HH.out.mono ?_
        rintro e w1 ⟨rfl, rfl⟩
        go_wp2_with fail
        refine HP.out.mono ?_
        rintro e w1 ⟨rfl, rfl⟩
        go_wp2_with (first
          | (at_lookup; refine wpList_lookYes rfl _ rfl _ _ rfl HD.out (by rfl) (i : Int) (by rfl) HX.out s HW.out ?_)
          | (refine wpList_allocSec rfl 6 rfl rfl ?_; intro w1 hc1 hb1 hs1)
          | (refine wpList_storeSec rfl _ _ rfl w.heap.size (by rfl) s (by rfl) HS.out _ secZ hc1 secZ_size ?_; intro w2 hc2 hg2))
        have hbe2 := hb1.grown hg2 hb1.size (fun k hk => by cases hk; exact Nat.le_refl _)
        have HC := Lib.hid (clone_any _ s w2 (row_sec hc2 HS.out) (by rw [HS.out]; decide))
        refine HC.out.mono ?_
        rintro e w3 ⟨v', rfl, ho, hb3⟩
        have hbe3 := hbe2.trans (hb3.mono hbe2.size)
        have ho' := ho.mono hbe2.size
        go_wp2_with fail
        go_ret2
        exact ⟨v', ret2 rfl (by rw [HK.out]; rfl), by rw [HV.out, HG.out]; exact ho', hbe3⟩
      | none =>
        obtain ⟨s, hds⟩ : ∃ s, d.dur[i]? = some s := ⟨_, List.getElem?_eq_getElem hi⟩
        have hs : s.length = 64 := h.ok.len _ (List.mem_of_getElem? hds)
        have HG : Hid (getV d (i : Int) = s) := by show _ = _; unfold getV; rw [hw, Int.toNat_natCast, List.getD_eq_getElem?_getD, hds]; rfl
        have HW := Lib.hid hw
        have HS := Lib.hid hs
        have HDS := Lib.hid hds
        have HLT := Lib.hid h.lt
        clear h1 h h3 hw hs hds
        go_enter Tryd.func10, Tryd.ntmps10
        go_wp2_with fail
        refine HH.out.mono ?_
        rintro e w1 ⟨rfl, rfl⟩
        go_wp2_with fail
        refine HP.out.mono ?_
        rintro e w1 ⟨rfl, rfl⟩
        go_wp2_with (first
          | (at_lookup; refine wpList_lookNo rfl _ rfl _ _ rfl HD.out (by rfl) (i : Int) (by rfl) HX.out HW.out ?_)
          | (refine wpList_allocSec rfl 6 rfl rfl ?_; intro w1 hc1 hb1 hs1)
          | ((refine wpList_storeSec (a := ⟨#[_, _, _, _, _, _, _, _, _, _, _, _, _, _, _, _, _, _, _, _, _, _, _, _, _, _, _, _, _, _, _, _, _, _, _, _, undef, _, _], []⟩) rfl _ _ rfl w.heap.size (by rfl) zero64 (by rfl) zero64_len _ secZ hc1 secZ_size ?_); intro w1b hc1b hg1b; have hd1b := (HD.out.stays hb1).grew (Grew.ofGrown hg1b) (by have := HLT.out; simp; omega) (by have := HLT.out; simp; omega) (by have := HLT.out; simp; omega); have c0b := hd1b.c0; have hr1b := hd1b.range HDS.out)
          | (refine wpList_load_mid rfl 63 _ rfl gd (i * 64) (by rfl) (secC s) _ hr1b Tryd.underlying63 rfl (by rw [secC_len, HS.out]; exact sizeSec) ?_)
          | (refine wpList_storeSec rfl _ _ rfl w.heap.size (by rfl) s (by rfl) HS.out _ (secC zero64).toArray hc1b (by rw [secA_size zero64_len]) ?_; intro w2 hc2 hg2'))
        have hbe2 := (hb1.grown hg1b hb1.size (fun k hk => by cases hk; exact Nat.le_refl _)).grown hg2' (Nat.le_trans hb1.size hg1b.size) (fun k hk => by cases hk; exact Nat.le_refl _)
        have HC := Lib.hid (clone_any _ s w2 (row_sec hc2 HS.out) (by rw [HS.out]; decide))
        refine HC.out.mono ?_
        rintro e w3 ⟨v', rfl, ho, hb3⟩
        have hbe3 := hbe2.trans (hb3.mono hbe2.size)
        have ho' := ho.mono hbe2.size
        go_wp2_with fail
        go_ret2
        exact ⟨v', ret2 rfl (by rw [HK.out]; rfl), by rw [HV.out, HG.out]; exact ho', hbe3⟩
  · have HH := Lib.hid (has_no h h1)
    have HK := Lib.hid (readK_has h1)
    have HV : Hid (readV d x = []) := by show _ = _; unfold readV; rw [if_neg (by rw [HK.out]; decide)]
    clear h1 h
    go_enter Tryd.func10, Tryd.ntmps10
    go_wp2_with fail
    refine HH.out.mono ?_
    rintro e w1 ⟨rfl, rfl⟩
    go_wp2_with fail
    go_quiet (fail)
    go_wp2_with fail
    go_ret2
    exact ⟨.slice none 0 0, ret2 rfl (by rw [HK.out]; rfl), by rw [HV.out]; exact OwnB.nil _ _, below_drewQ (Below.refl _ _)⟩
end Go.Proofs.YtalebgnnlgcglaaDoor
