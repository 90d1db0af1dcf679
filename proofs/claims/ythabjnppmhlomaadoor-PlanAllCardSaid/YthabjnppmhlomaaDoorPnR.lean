/- The document's ways, version by version. -/
import Derived.Test.YthabjnppmhlomaaDoorPnQ
namespace Go.Proofs.YthabjnppmhlomaaDoor
open Go Go.RowKit
set_option linter.unusedVariables false
theorem infoWy : (Tryd.prog.info? 36).map (fun i => (i.zero, i.size, i.bytes)) = some (some (.agg #[.bool false, .int .i64 0, .slice none 0 0]), 3, 40) := by kernel_rfl
def wm0 : WM := (wy0, none, 0)
def z3 : Array Value := #[.bool false, .int .i64 0, .slice none 0 0]
theorem madeW (n : Nat) : madeCells z3 (n * 3) = ((List.replicate n wm0).flatMap wC).toArray := by
  apply Array.ext'
  apply List.ext_getElem?
  intro i
  by_cases hi : i < n * 3
  · have hg := flat_get wC_len (List.replicate n wm0) (i / 3) (i % 3) wm0 (by rw [List.getElem?_replicate, if_pos (by omega)]) (by omega)
    rw [show i / 3 * 3 + i % 3 = i from by omega] at hg
    rw [hg]
    simp only [madeCells, Array.toList_map, Array.toList_range, List.getElem?_map, List.getElem?_range hi, Option.map_some]
    rw [show z3.size = 3 from rfl]
    rcases (show i % 3 = 0 ∨ i % 3 = 1 ∨ i % 3 = 2 by omega) with h | h | h <;> rw [h] <;> rfl
  · rw [List.getElem?_eq_none (by rw [Array.length_toList, size_madeCells]; omega), List.getElem?_eq_none (by rw [List.toList_toArray, flat_len wC_len, List.length_replicate]; omega)]
/-- a way's cells are right: its path lies outside block g -/
def wOk (B g : Nat) (w : World) (x : WM) : Prop := RowZ w (.slice x.2.1 x.1.path.length x.2.2) x.1.path ∧ ∀ k, (Value.slice x.2.1 x.1.path.length x.2.2).ownBlock = some k → k ≠ g ∧ B ≤ k
/-- all versions below v are done, and the first m edges to v -/
def WaR (L : List Eg) (g : Nat) (w : World) (v m : Nat) (wr : World) : Prop :=
  ∃ (C : Int → Option Tr) (out : List WM), RInv L C (v : Int) m ∧ out.length = 400 ∧ (∀ (j : Nat) (x : WM), out[j]? = some x → x.1 = wyOf (C j) ∧ wOk w.heap.size g wr x) ∧ OwnS 36 3 wC w.heap.size wr (.slice (some ⟨g, 0, none⟩) 400 400) out ∧ Below w.heap.size w wr ∧ w.heap.size ≤ g
theorem wOk.stays {B g : Nat} {w w' : World} {x : WM} (h : wOk B g w x) (hb : Below w.heap.size w w') : wOk B g w' x := ⟨Row.stays h.1 hb, h.2⟩
theorem WaR.stays {L : List Eg} {g : Nat} {w wr w' : World} {v m : Nat} (h : WaR L g w v m wr) (hb : Below wr.heap.size wr w') : WaR L g w v m w' := by
  obtain ⟨C, out, h1, h2, h3, h4, h5, h6⟩ := h
  exact ⟨C, out, h1, h2, fun j x hx => ⟨(h3 j x hx).1, (h3 j x hx).2.stays hb⟩, h4.stays hb, h5.trans (hb.mono h5.size), h6⟩
/-- behind the new way's making -/
def WNew (W4 : World) (sm : Int) (ps : List Int) (p8 : Value) (wx : World) : Prop := ∃ (b8 : Nat) (a8 : Option Addr) (c8 : Nat), p8 = .pointer (some ⟨b8, 0, none⟩) ∧ CellsAt wx b8 36 #[.bool true, .int .i64 sm, .slice a8 ps.length c8] ∧ RowZ wx (.slice a8 ps.length c8) ps ∧ (∀ k, (Value.slice a8 ps.length c8).ownBlock = some k → W4.heap.size ≤ k) ∧ W4.heap.size ≤ b8 ∧ Below W4.heap.size W4 wx
/-- an empty row of the call's own is appended to, at a step of a region that draws its order -/
theorem step_appendE {ops : Array Oper} {o : Oper} {a : Act} {K : Act → World → Prop} {Q : Exit → Act → World → Prop} {EE : Prop} (w W4 : World) (hgd : o.guard = none) (s y : Operand) (ho : o.op = .call { callee := .builtin .append, args := #[s, y], argTypes := #[23, 23] })
    (g0 : Nat) (hs : a.eval s = .slice (some ⟨g0, 0, none⟩) 0 0) (x' : Value) (hx : a.eval y = x') (ys : List Int) (hl : ys.length ≤ 401) (hr : RowZ w x' ys) (hc : CellsAt w g0 3 #[]) (hB : W4.heap.size ≤ g0) (hb : Below W4.heap.size W4 w) (s0 : Nat) (hs0 : w.heap.size = s0)
    (h : ∀ a5 c5 w5, w5.ownsRow W4.heap.size 3 1 (.slice a5 ys.length c5) ys.length (ys.map IV) → w.grownBy w5 (some g0) → (∀ k, (Value.slice a5 ys.length c5).ownBlock = some k → k = g0 ∨ s0 ≤ k ∧ k < w5.heap.size) → (∀ k, (Value.slice a5 ys.length c5).ownBlock = some k → 0 ≤ k ∧ k < w5.heap.size) → Below W4.heap.size W4 w5 → g0 < w5.heap.size → s0 ≤ w5.heap.size → (∀ b o, b ≠ g0 → b < s0 → w5.cell? ⟨b, o, none⟩ = w.cell? ⟨b, o, none⟩) → (∀ b o, b ≠ g0 → b < s0 → w5.frozen? ⟨b, o, none⟩ = w.frozen? ⟨b, o, none⟩) → K (a.put o.dst (.slice a5 ys.length c5)) w5) :
    if Region.wanted o (yielded ops a.tmps) = true then Oper.wp Tryd.prog o a w K Q else EE := by
  have hw : Region.wanted o (yielded ops a.tmps) = true := by simp [Region.wanted, hgd]
  rw [if_pos hw]
  subst hs0
  obtain ⟨i, hi, hz0, hz1, hz2⟩ := info_parts infoZ
  have hown : w.ownsRow W4.heap.size 3 1 (.slice (some ⟨g0, 0, none⟩) 0 0) 0 [] := ⟨rfl, .inr ⟨g0, 0, #[], rfl, hB, hc, Nat.le_refl _, by decide, rfl, rfl⟩⟩
  obtain ⟨v', w', h1, h2, h3, h4, -⟩ := run_append_src (P := Tryd.prog) w W4.heap.size 23 23 o.type 3 i (.int .i64 0) 1 8 Tryd.underlying23 hi hz0 hz1 hz2 rfl _ 0 [] hown x' ys.length (ys.map IV) (Row.src hr Tryd.underlying23 (by simp) (fun u hu => by
      obtain ⟨q, _, rfl⟩ := List.mem_map.1 hu
      rfl)) (by unfold maxLen; omega) (by omega) (by have := hc.lt; omega)
  rw [Nat.zero_add, List.nil_append] at h2
  obtain ⟨a5, c5, rfl, -, -⟩ := (show OwnL 3 IV W4.heap.size w' v' ys from h2).row.shape
  have hlt := hc.lt
  have hsz := h3.size
  exact Lib.wp_append_run _ s y 23 23 ho _ _ hs hx _ w' h1 (h a5 c5 w' h2 h3 (fun k hk => by
    rcases h4 k hk with h5 | h5
    · left; simpa [Value.ownBlock] using h5.symm
    · exact .inr ⟨h5, (World.ownsRow.lt h2 k hk).2⟩) (fun k hk => ⟨Nat.zero_le _, (World.ownsRow.lt h2 k hk).2⟩) (hb.grown h3 hb.size (fun k hk => by simp [Value.ownBlock] at hk; omega)) (by omega) hsz
    (fun b o q1 q2 => World.cell?_of_block (a := ⟨b, o, none⟩) (h3.block b q2 (fun e => by simp [Value.ownBlock] at e; exact q1 e)))
    (fun b o q1 q2 => by simp only [World.frozen?, h3.block b q2 (fun e => by simp [Value.ownBlock] at e; exact q1 e)]))
theorem far_mid {w w' : World} {row : Option Nat} {g0 s0 e0 : Nat} (hg : w.grownBy w' row) (hv : ∀ k, row = some k → k = g0 ∨ s0 ≤ k ∧ k < e0) : ∀ b o, b ≠ g0 → b < s0 → b < w.heap.size → w'.cell? ⟨b, o, none⟩ = w.cell? ⟨b, o, none⟩ := fun b o h1 h2 h3 =>
  World.cell?_of_block (a := ⟨b, o, none⟩) (hg.block b h3 (fun e => by rcases hv b e.symm with h | h; exact h1 h; omega))
theorem frz_mid {w w' : World} {row : Option Nat} {g0 s0 e0 : Nat} (hg : w.grownBy w' row) (hv : ∀ k, row = some k → k = g0 ∨ s0 ≤ k ∧ k < e0) : ∀ b o, b ≠ g0 → b < s0 → b < w.heap.size → w'.frozen? ⟨b, o, none⟩ = w.frozen? ⟨b, o, none⟩ := fun b o h1 h2 h3 => by
  simp only [World.frozen?, hg.block b h3 (fun e => by rcases hv b e.symm with h | h; exact h1 h; omega)]
theorem WNew.drew {W4 : World} {sm : Int} {ps : List Int} {p8 : Value} {wx : World} (h : WNew W4 sm ps p8 wx) : WNew W4 sm ps p8 wx.drew :=
  let ⟨b8, a8, c8, h1, h2, h3, h4, h5, h6⟩ := h
  ⟨b8, a8, c8, h1, h2, h3, h4, h5, h6.drew⟩
theorem WNew.alloc {W4 w6 : World} {sm : Int} {tp : List Int} {i gg cg : Nat} (ho : w6.ownsRow W4.heap.size 3 1 (.slice (some ⟨gg, 0, none⟩) (tp.length + 1) cg) (tp.length + 1) (tp.map IV ++ [.int .i64 (i : Int)])) (hb : Below W4.heap.size W4 w6) :
    WNew W4 sm (tp ++ [(i : Int)]) (.pointer (some ⟨w6.heap.size, 0, none⟩)) (w6.alloc (.cells #[.bool true, .int .i64 sm, .slice (some ⟨gg, 0, none⟩) (tp.length + 1) cg] 36)) := by
  have hl := World.ownsRow.lt ho gg rfl
  have hlen : (tp ++ [(i : Int)]).length = tp.length + 1 := by simp
  refine ⟨_, some ⟨gg, 0, none⟩, cg, rfl, by rw [hlen]; exact CellsAt.new w6 _ _, by rw [hlen]; exact Row.stays (row5 ho) ((Below.refl _ _).alloc (Nat.le_refl _) _), fun k hk => ?_, hb.size, below_al hb _⟩
  cases hk
  exact hl.1
theorem WNew.set {W4 w6 : World} {sm : Int} {tp : List Int} {i gg cg z : Nat} (hz : W4.heap.size ≤ z) (ho : w6.ownsRow W4.heap.size 3 1 (.slice (some ⟨gg, 0, none⟩) (tp.length + 1) cg) (tp.length + 1) (tp.map IV ++ [.int .i64 (i : Int)])) (hb : Below W4.heap.size W4 w6)
    (hc : CellsAt w6 z 36 #[.bool false, .int .i64 0, .slice none 0 0]) :
    WNew W4 sm (tp ++ [(i : Int)]) (.pointer (some ⟨z, 0, none⟩)) (((w6.setCell ⟨z, 0, none⟩ (.bool true)).setCell ⟨z, 1, none⟩ (.int .i64 sm)).setCell ⟨z, 2, none⟩ (.slice (some ⟨gg, 0, none⟩) (tp.length + 1) cg)) := by
  have hl := World.ownsRow.lt ho gg rfl
  have hlen : (tp ++ [(i : Int)]).length = tp.length + 1 := by simp
  have hg := grown_three (g := z) (a := 0) (b := 1) (d := 2) (u := .bool true) (v := .int .i64 sm) (x := .slice (some ⟨gg, 0, none⟩) (tp.length + 1) cg) (grownBy_refl w6 (some z))
  have hne := own_ne ho hc (by decide)
  refine ⟨z, some ⟨gg, 0, none⟩, cg, rfl, by rw [hlen]; simpa using ((hc.set 0 (.bool true)).set 1 (.int .i64 sm)).set 2 (.slice (some ⟨gg, 0, none⟩) (tp.length + 1) cg), by rw [hlen]; exact row5 (own_grown ho hg hne), fun k hk => ?_, hz, hb.grown hg hb.size (fun k hk => by cases hk; exact hz)⟩
  cases hk
  exact hl.1
theorem ahead_none (t : Tr) : aheadV (wyOf (some t)) (wyOf none) = true := rfl
theorem ahead_some (t b : Tr) : aheadV (wyOf (some t)) (wyOf (some b)) = decide (ordT t b < 0) := rfl
theorem wayCells {B g n c : Nat} {w : World} {out : List WM} (h : OwnS 36 3 wC B w (.slice (some ⟨g, 0, none⟩) n c) out) {i : Nat} {x : WM} (hx : out[i]? = some x) : n = out.length ∧ w.cell? ⟨g, i * 3, none⟩ = some (.bool x.1.th) ∧ w.cell? ⟨g, i * 3 + 1, none⟩ = some (.int .i64 x.1.sum) ∧ w.cell? ⟨g, i * 3 + 2, none⟩ = some (.slice x.2.1 x.1.path.length x.2.2) ∧ ∀ j, w.frozen? ⟨g, j, none⟩ = false := by
  obtain ⟨g', c', hv, h1, h2, h3, h4, h5⟩ := h.block wC_len (List.ne_nil_of_mem (List.mem_of_getElem? hx))
  cases hv
  exact ⟨rfl, by simpa using h5 i x hx 0 _ rfl, h5 i x hx 1 _ rfl, h5 i x hx 2 _ rfl, h4⟩
theorem waySet {B g n c : Nat} {w : World} {out : List WM} (h : OwnS 36 3 wC B w (.slice (some ⟨g, 0, none⟩) n c) out) {i : Nat} (x : WM) (hi : i < out.length) :
    OwnS 36 3 wC B (((w.setCell ⟨g, i * 3, none⟩ (.bool x.1.th)).setCell ⟨g, i * 3 + 1, none⟩ (.int .i64 x.1.sum)).setCell ⟨g, i * 3 + 2, none⟩ (.slice x.2.1 x.1.path.length x.2.2)) (.slice (some ⟨g, 0, none⟩) n c) (out.set i x) := by
  have hx := List.getElem?_eq_getElem hi
  generalize out[i] = y at hx
  have h1 := h.set wC_len i 0 y (⟨x.1.th, y.1.sum, y.1.path⟩, y.2) (.bool x.1.th) hx (by decide) rfl
  have h2 := h1.set wC_len i 1 (⟨x.1.th, y.1.sum, y.1.path⟩, y.2) (⟨x.1.th, x.1.sum, y.1.path⟩, y.2) (.int .i64 x.1.sum) (by rw [List.getElem?_set_self hi]) (by decide) rfl
  have h3 := h2.set wC_len i 2 (⟨x.1.th, x.1.sum, y.1.path⟩, y.2) x (.slice x.2.1 x.1.path.length x.2.2) (by rw [List.getElem?_set_self (by simpa using hi)]) (by decide) rfl
  simpa using h3
def WaysP (L : List Eg) (w : World) (e : Ending) (w' : World) : Prop := ∃ (C : Int → Option Tr) (out : List WM) (g : Nat), e = .returned (.slice (some ⟨g, 0, none⟩) 400 400) ∧ Least L C ∧ out.length = 400 ∧ (∀ (j : Nat) (x : WM), out[j]? = some x → x.1 = wyOf (C j) ∧ wOk w.heap.size g w' x) ∧ OwnS 36 3 wC w.heap.size w' (.slice (some ⟨g, 0, none⟩) 400 400) out ∧ Below w.heap.size w w'
section
variable {w : World} {L : List Eg} {la : Option Addr} {lc : Nat}
set_option maxRecDepth 100000 in
set_option maxHeartbeats 4000000 in
theorem ways_any (hL : RightE L) (hlen : L.length ≤ 3000) (hr : RowS eC w (.slice la L.length lc) L) :
    Calls Tryd.prog 17 #[.slice la L.length lc] w (WaysP L w) := by
  obtain ⟨i0, hi0, hz0, hz1, hz2⟩ := info_parts infoWy
  have hmk := run_make (P := Tryd.prog) w 48 36 i0 (.agg #[.bool false, .int .i64 0, .slice none 0 0]) Tryd.underlying48 hi0 hz0 .i64 .i64 400 400 (by omega) (by omega) (by rw [hz2]; decide) (by decide)
  rw [hz1, show ((400 : Int).toNat) = 400 from rfl, show (Value.agg #[.bool false, .int .i64 0, .slice none 0 0]).cells = z3 from rfl, madeW] at hmk
  obtain ⟨Z, hZ⟩ : ∃ Z, Z = ((List.replicate 400 wm0).flatMap wC).toArray := ⟨_, rfl⟩
  rw [← hZ] at hmk
  have hb1 : Below w.heap.size w (w.alloc (.cells Z 36)) := (Below.refl _ _).alloc (Nat.le_refl _) _
  have hown : OwnS 36 3 wC w.heap.size (w.alloc (.cells Z 36)) (.slice (some ⟨w.heap.size, 0, none⟩) 400 400) (List.replicate 400 wm0) := by
    show World.ownsRow _ _ _ _ _ _ _
    rw [List.length_replicate]
    refine ⟨by rw [flat_len wC_len, List.length_replicate], .inr ⟨w.heap.size, 400, _, rfl, Nat.le_refl _, heap_alloc_new w _, Nat.le_refl _, by decide, ?_, ?_⟩⟩
    · rw [hZ, List.size_toArray, flat_len wC_len, List.length_replicate]
    · rw [hZ, List.take_of_length_le (by rw [List.toList_toArray, flat_len wC_len, List.length_replicate]; omega)]
  have HW0 : Hid (WaR L w.heap.size w 0 0 (w.alloc (.cells Z 36))) := ⟨fun _ => none, List.replicate 400 wm0, RInv.first hL, List.length_replicate, fun j x hx => by
    have hxx : x = wm0 := by rw [List.getElem?_replicate] at hx; split at hx <;> cases hx; rfl
    subst hxx
    exact ⟨rfl, RowL.nil _, fun k hk => by simp [wm0, wy0, Value.ownBlock] at hk⟩, hown, hb1, Nat.le_refl _⟩
  have HR : Hid (∀ W, Below w.heap.size w W → RowS eC W (.slice la L.length lc) L) := fun W hb => hr.stays hb
  clear hr hi0 hz0 hz1 hz2 hZ hb1 hown
  go_enter Tryd.func17, Tryd.ntmps17
  go_wp2_with fail
  generalize w.alloc (.cells Z 36) = W0 at HW0 ⊢
  obtain ⟨g, hg⟩ : ∃ g, g = w.heap.size := ⟨_, rfl⟩
  rw [← hg] at HW0 ⊢
  clear hg hmk
  go_loopw [12] (fun u wr => ∃ v : Nat, u = .int .i64 v ∧ v ≤ 400 ∧ Hid (WaR L g w v 0 wr)) (fun u _ => 400 - (intOf u).toNat)
  case atStart => exact ⟨0, rfl, by omega, HW0.out⟩
  case round =>
    clear HW0
    obtain ⟨v, rfl, hv, HV⟩ := hrel
    by_cases h1 : v < 400
    · have tv : decide ((v : Int) < 400) = true := decide_eq_true (by omega)
      go_wp2_with fail
      obtain ⟨wo, rfl⟩ : ∃ wo : World, wo = wr := ⟨_, rfl⟩
      go_loopw [17] (fun u wr => ∃ m : Nat, u = .int .i64 m ∧ m ≤ L.length ∧ Hid (WaR L g w v m wr)) (fun u _ => L.length - (intOf u).toNat)
      case atStart => exact ⟨0, rfl, Nat.zero_le _, HV.out⟩
      case round =>
        clear HV
        obtain ⟨m, rfl, hm, HM⟩ := hrel
        by_cases h2 : m < L.length
        · obtain ⟨C, out, a1, a2, a3, a4, a5, a6⟩ := HM.out
          obtain ⟨e, he⟩ : ∃ e, L[m]? = some e := ⟨_, List.getElem?_eq_getElem h2⟩
          obtain ⟨b, o, rfl, -, c0, c1, c2⟩ := edgeAt (HR.out wr a5) he
          have hbde := hL.at he
          have hbw : Below wr.heap.size wr (wr.alloc (.cells #[.int .i64 e.src, .int .i64 e.dst, .int .i64 e.cost] 67)) := (Below.refl _ _).alloc (Nat.le_refl _) _
          by_cases hd : e.dst = (v : Int)
          · have t1 : (e.dst != (v : Int)) = false := by simpa using hd
            obtain ⟨W2, hW2⟩ : ∃ W2, W2 = wr.alloc (.cells #[.int .i64 e.src, .int .i64 e.dst, .int .i64 e.cost] 67) := ⟨_, rfl⟩
            obtain ⟨g6, hg6⟩ : ∃ g6, g6 = wr.heap.size := ⟨_, rfl⟩
            rw [← hW2] at hbw
            have hcE : CellsAt W2 g6 67 #[.int .i64 e.src, .int .i64 e.dst, .int .i64 e.cost] := by rw [hW2, hg6]; exact CellsAt.new wr _ _
            obtain ⟨W3, hW3⟩ : ∃ W3, W3 = W2.alloc (.cells #[.bool true, .int .i64 0, .slice none 0 0] 36) := ⟨_, rfl⟩
            obtain ⟨g7, hg7⟩ : ∃ g7, g7 = g6 + 1 := ⟨_, rfl⟩
            have hs2 : W2.heap.size = g7 := by rw [hW2, hg7, hg6]; simp
            have hb23 : Below W2.heap.size W2 W3 := by rw [hW3]; exact (Below.refl _ _).alloc (Nat.le_refl _) _
            have hc7 : CellsAt W3 g7 36 #[.bool true, .int .i64 0, .slice none 0 0] := by rw [hW3]; exact CellsAt.new' hs2.symm
            have a3' : ∀ (j : Nat) (x : WM), out[j]? = some x → x.1 = wyOf (C j) ∧ wOk w.heap.size g W2 x := fun j x hx => ⟨(a3 j x hx).1, (a3 j x hx).2.stays hbw⟩
            have a4' := a4.stays hbw
            have a5' : Below w.heap.size w W2 := a5.trans (hbw.mono a5.size)
            have HA1 := Lib.hid a1
            have HA2 := Lib.hid a2
            have HA3 := Lib.hid a3'
            have HA4 := Lib.hid a4'
            have HA5 := Lib.hid a5'
            have HE := Lib.hid he
            have HD := Lib.hid hd
            have HBD := Lib.hid hbde
            have HCE := Lib.hid hcE
            have HC7 := Lib.hid hc7
            have HB23 := Lib.hid hb23
            have HW2 := Lib.hid hW2
            have HG6 := Lib.hid hg6
            have HW3 := Lib.hid hW3
            have HG7 := Lib.hid hg7
            have HS2 := Lib.hid hs2
            clear HM a1 a2 a3 a4 a5 he hbde hbw hd hW2 hg6 hW3 hg7 hs2 hb23 hc7 a3' a4' a5' hcE
            have s0 := (HCE.out.stays HB23.out).cell 0 rfl
            go_upto_region 10 with fail
            rw [← HW2.out, ← HG6.out]
            rw [← HW3.out, ← HG7.out]
            clear c0 c1 c2
            go_upto_if 29 with fail
            go_cut [] from 29 to 34 (fun wx => ∃ fx : WM, CellsAt wx g7 36 #[.bool fx.1.th, .int .i64 fx.1.sum, .slice fx.2.1 fx.1.path.length fx.2.2] ∧ fx.1 = wyOf (bst C e.src) ∧ RowZ wx (.slice fx.2.1 fx.1.path.length fx.2.2) fx.1.path ∧ Below W2.heap.size W2 wx)
            case first =>
              have t0 := HC7.out.cell 0 rfl
              have t1' := HC7.out.cell 1 rfl
              have t2 := HC7.out.cell 2 rfl
              have f0 := HC7.out.free 0
              have f1 := HC7.out.free 1
              have f2 := HC7.out.free 2
              by_cases hs : 0 ≤ e.src
              · have hbde := HBD.out
                have hdd := HD.out
                have hsv : e.src.toNat < v := by omega
                obtain ⟨⟨⟨xt, xs, xp⟩, xa, xc⟩, hx⟩ : ∃ x, out[e.src.toNat]? = some x := ⟨_, List.getElem?_eq_getElem (by rw [HA2.out]; omega)⟩
                obtain ⟨hx1, hx2⟩ := HA3.out _ _ hx
                obtain ⟨-, y0, y1, y2, -⟩ := wayCells (HA4.out.stays HB23.out) hx
                simp only at y0 y1 y2
                have hgl : e.src < 400 := by omega
                have HX1 : Hid (Wy.mk xt xs xp = wyOf (bst C e.src)) := by
                  show _ = _
                  unfold bst
                  rw [if_neg (by omega)]
                  rw [show ((e.src.toNat : Nat) : Int) = e.src by omega] at hx1
                  exact hx1
                have HX2 := Lib.hid hx2
                clear hbde hdd hsv hx hx1 hx2
                go_wp2_with fail
                go_meet
                refine ⟨((⟨xt, xs, xp⟩, xa, xc) : WM), by simpa using ((HC7.out.set 0 (.bool xt)).set 1 (.int .i64 xs)).set 2 (.slice xa xp.length xc), HX1.out, Row.stays (HX2.out.1) ?_, ?_⟩
                · exact ((HB23.out.setCell (p := ⟨g7, 0, none⟩) (Nat.le_of_eq HS2.out) _).setCell (p := ⟨g7, 1, none⟩) (Nat.le_of_eq HS2.out) _).setCell (p := ⟨g7, 2, none⟩) (Nat.le_of_eq HS2.out) _
                · exact ((HB23.out.setCell (p := ⟨g7, 0, none⟩) (Nat.le_of_eq HS2.out) _).setCell (p := ⟨g7, 1, none⟩) (Nat.le_of_eq HS2.out) _).setCell (p := ⟨g7, 2, none⟩) (Nat.le_of_eq HS2.out) _
              · have HX1 : Hid (Wy.mk true 0 [] = wyOf (bst C e.src)) := by
                  show _ = _
                  unfold bst
                  rw [if_pos (by have := HBD.out; omega)]; rfl
                go_wp2_with fail
                go_meet
                exact ⟨((⟨true, 0, []⟩, none, 0) : WM), HC7.out, HX1.out, RowL.nil _, HB23.out⟩
            case rest =>
              clear s0
              obtain ⟨⟨⟨ft, fs, fp⟩, fa, fc⟩, hc7, hf1, hf2, hbf⟩ := hcut
              obtain ⟨W4, rfl⟩ : ∃ W4 : World, W4 = wc := ⟨_, rfl⟩
              simp only at hc7 hf1 hf2
              have q0 := hc7.cell 0 rfl
              cases hq : bst C e.src with
              | none =>
                rw [hq] at hf1
                cases hf1
                have HN : Hid (WaR L g w v (m + 1) W4) := WaR.stays (⟨C, out, HA1.out.skip HE.out (fun _ f hf => by rw [hq] at hf; cases hf), HA2.out, HA3.out, HA4.out, HA5.out, a6⟩ : WaR L g w v (m + 1) W2) hbf
                clear hc7 hf2 hbf hq
                go_wp2_with fail
                go_roundw
                case rel => exact ⟨m + 1, by go_num, by omega, HN.out⟩
                case measure => simp only [intOf]; omega
              | some f =>
                rw [hq] at hf1
                obtain ⟨fto, fsum, fpath⟩ := f
                cases hf1
                have hfT : IsT L ⟨fto, fsum, fpath⟩ := by
                  unfold bst at hq
                  split at hq
                  · cases hq; exact .start
                  · exact (HA1.out.best _ _ hq).1
                have hfb := hfT.bd hL
                simp only at hfb
                have hfs1 : 0 ≤ fsum := hfb.2.2.2.1
                have hfs2 : fsum ≤ 420478976 := by have h1 := hfb.2.2.2.2.1; have h2 := hfb.2.2.1; omega
                have hfl : fpath.length ≤ 401 := by omega
                have hcc : 0 ≤ e.cost ∧ e.cost ≤ 1048576 := by have := HBD.out; omega
                have wz1 : IntKind.i64.wrap (fsum + e.cost) = fsum + e.cost := IntWalk.i64_in _ (by omega)
                have hce4 := HCE.out.stays hbf
                have HC7B := Lib.hid hc7
                have HF2 := Lib.hid hf2
                have HBF := Lib.hid hbf
                have HQ := Lib.hid hq
                have HCE4 := Lib.hid hce4
                clear hc7 hf2 hbf hq hfT hfb hce4
                go_upto_region 13 with fail
                clear q0
                go_cut [8] from 38 to 50 (fun p8 wx => WNew W4 (fsum + e.cost) (fpath ++ [(m : Int)]) p8 wx)
                case first =>
                  have hc7b := HC7B.out
                  have hce4 := HCE4.out
                  have hrf := HF2.out
                  have HS : Hid (∀ W, Below W4.heap.size W4 W → Below W4.heap.size W4 W ∧ W.cell? ⟨g6, 2, none⟩ = some (.int .i64 e.cost) ∧ W.cell? ⟨g7, 1, none⟩ = some (.int .i64 fsum) ∧ W.cell? ⟨g7, 2, none⟩ = some (.slice fa fpath.length fc)) := fun W hW => by
                    have h1 := hce4.stays hW
                    have h2 := hc7b.stays hW
                    exact ⟨hW, h1.cell 2 rfl, h2.cell 1 rfl, h2.cell 2 rfl⟩
                  have HRF : Hid (∀ W, Below W4.heap.size W4 W → RowZ W (.slice fa fpath.length fc) fpath) := fun W hW => Row.stays hrf hW
                  clear hc7b hce4 hrf
                  obtain ⟨i0, hi0, hz0, hz1, hz2⟩ := info_parts infoZ
                  have hd0 : Below W4.heap.size W4 W4 := Below.refl _ _
                  have hd1 : Below W4.heap.size W4 W4.drew := hd0.drew
                  have n1 : W4.heap.size + 1 + 1 ≠ W4.heap.size := by omega
                  have n2 : W4.heap.size + 2 ≠ W4.heap.size := by omega
                  have n3 : W4.heap.size ≠ W4.heap.size + 1 + 1 := by omega
                  have n4 : W4.heap.size ≠ W4.heap.size + 2 := by omega
                  have n5 : W4.heap.size + 1 ≠ W4.heap.size + 1 + 1 := by omega
                  have n6 : W4.heap.size + 1 ≠ W4.heap.size + 2 := by omega
                  go_region_held3 (fun W => Below W4.heap.size W4 W ∧ W.cell? ⟨g6, 2, none⟩ = some (.int .i64 e.cost) ∧ W.cell? ⟨g7, 1, none⟩ = some (.int .i64 fsum) ∧ W.cell? ⟨g7, 2, none⟩ = some (.slice fa fpath.length fc))
                    ((refine HS.out _ ?_; (repeat (first | (with_reducible assumption) | (with_reducible refine below_al ?_ _) | (with_reducible refine Below.drew ?_) | (with_reducible refine Below.setCell ?_ (by first | exact Nat.le_refl _ | (simp; done) | (simp; omega) | omega) _) | (with_reducible exact Below.refl _ _))); done))
                    ((first
                      | (refine step_appendE _ W4 (by rfl) _ _ (by rfl) _ (by rfl) (.slice fa fpath.length fc) (by rfl) fpath hfl (HRF.out _ ?_) ?_ ?_ ?_ _ rfl ?_; (focus ((repeat (first | (with_reducible assumption) | (with_reducible refine below_al ?_ _) | (with_reducible refine Below.drew ?_) | (with_reducible exact Below.refl _ _))); done)); (focus ((repeat (first | (with_reducible exact CellsAt.new _ _ _) | (with_reducible refine CellsAt.new' ?_; (first | (simp; done) | (simp; omega))) | (with_reducible refine CellsAt.allocC ?_) | (with_reducible refine CellsAt.drew ?_))); done)); (focus (first | exact Nat.le_refl _ | omega | (simp; done) | (simp; omega))); (focus ((repeat (first | (with_reducible assumption) | (with_reducible refine below_al ?_ _) | (with_reducible refine Below.drew ?_) | (with_reducible exact Below.refl _ _))); done)); intro a5 c5 w5 ho5 hg5 hv5 hv6 hb5 hg50 hs5 hc5 hf5; have hs7 := hb5.size; (try (refine useful (P := W4.heap.size < w5.heap.size) ?_ ?_; (focus (simp at hs5; omega)); intro q1)); (try (refine useful (P := W4.heap.size + 1 < w5.heap.size) ?_ ?_; (focus (simp at hs5; omega)); intro q2)); (try (refine useful (P := W4.heap.size + 1 + 1 < w5.heap.size) ?_ ?_; (focus (simp at hs5; omega)); intro q3)); (try (refine useful (P := W4.heap.size + 2 < w5.heap.size) ?_ ?_; (focus (simp at hs5; omega)); intro q4)))
                      | (refine step_append_lies _ (by rfl) _ _ 23 (by rfl) W4.heap.size 3 i0 _ 1 8 Tryd.underlying23 hi0 hz0 hz1 hz2 rfl (by omega) (.slice a5 fpath.length c5) fpath.length (fpath.map IV) (by rfl) ?_ ⟨_, 0, none⟩ 1 1 [.int .i64 (m : Int)] (by rfl) (by rfl) (World.news_of_block (cs := #[.int .i64 (m : Int)]) (t := 3) (fr := (0, 0)) ?_) (by simp [Value.oneCell']) (by omega) (by unfold maxLen; omega) (by omega) (useful2 (B := W4.heap.size) ?_) _ rfl ?_; (focus ((repeat (first | (with_reducible exact ho5) | (with_reducible refine World.ownsRow.alloc ?_ _))); done)); (focus ((show CellsAt _ _ 3 #[.int .i64 (m : Int)]; (repeat (first | (with_reducible exact CellsAt.new _ _ _) | (with_reducible refine CellsAt.new' ?_; (first | (simp; done) | (simp; omega))) | (with_reducible refine CellsAt.allocC ?_) | (with_reducible refine CellsAt.drew ?_) | ((with_reducible refine CellsAt.grown ?_ hg5 ?_); rotate_left; (focus (first | (simp; done) | (simp; omega) | (intro hne; have hne2 := Option.some.inj hne; omega))))))); done)); (focus ((repeat (first | (with_reducible assumption) | (with_reducible refine below_al ?_ _) | (with_reducible refine Below.drew ?_) | (with_reducible exact Below.refl _ _))); done)); intro gg cg w6 ho6 hg6 lies6 lt6; refine useful (P := Below W4.heap.size W4 w6) ?_ ?_; (focus (refine Below.grown ?_ hg6 (useful2 (B := W4.heap.size) ?_) (fun k hk => (World.ownsRow.lt ho5 k hk).1) <;> ((repeat (first | (with_reducible assumption) | (with_reducible refine below_al ?_ _) | (with_reducible refine Below.drew ?_) | (with_reducible exact Below.refl _ _))); done))); intro hb8; have hzz := hb8.size; have hf1 := far_hi hg6 hv6; have hf2 := far_mid hg6 hv5; have hf3 := frz_hi hg6 hv6; have hf4 := frz_mid hg6 hv5; (try (refine useful (P := CellsAt w6 (W4.heap.size + 1 + 1) 36 #[.bool false, .int .i64 0, .slice none 0 0]) ?_ ?_; (focus (refine CellsAt.grown ?_ hg6 ?_; (focus ((repeat (first | (with_reducible exact CellsAt.new _ _ _) | (with_reducible refine CellsAt.new' ?_; (first | (simp; done) | (simp; omega))) | (with_reducible refine CellsAt.allocC ?_) | (with_reducible refine CellsAt.drew ?_) | ((with_reducible refine CellsAt.grown ?_ hg5 ?_); rotate_left; (focus (first | (simp; done) | (simp; omega) | (intro hne; have hne2 := Option.some.inj hne; omega)))))); done)); (focus (intro hk; have hkk := hv5 _ hk; first | (simp at hkk; done) | (simp at hkk; omega) | omega)))); intro hz6; have z0 := hz6.cell 0 rfl; have z1 := hz6.cell 1 rfl; have z2 := hz6.cell 2 rfl; have y0 := hz6.free 0; have y1 := hz6.free 1; have y2 := hz6.free 2; have z0' : w6.cell? ⟨W4.heap.size + 2, 0, none⟩ = _ := z0; have z1' : w6.cell? ⟨W4.heap.size + 2, 1, none⟩ = _ := z1; have z2' : w6.cell? ⟨W4.heap.size + 2, 2, none⟩ = _ := z2; have y0' : w6.frozen? ⟨W4.heap.size + 2, 0, none⟩ = _ := y0; have y1' : w6.frozen? ⟨W4.heap.size + 2, 1, none⟩ = _ := y1; have y2' : w6.frozen? ⟨W4.heap.size + 2, 2, none⟩ = _ := y2)); (try (refine useful (P := CellsAt w6 W4.heap.size 36 #[.bool false, .int .i64 0, .slice none 0 0]) ?_ ?_; (focus (refine CellsAt.grown ?_ hg6 ?_; (focus ((repeat (first | (with_reducible exact CellsAt.new _ _ _) | (with_reducible refine CellsAt.new' ?_; (first | (simp; done) | (simp; omega))) | (with_reducible refine CellsAt.allocC ?_) | (with_reducible refine CellsAt.drew ?_) | ((with_reducible refine CellsAt.grown ?_ hg5 ?_); rotate_left; (focus (first | (simp; done) | (simp; omega) | (intro hne; have hne2 := Option.some.inj hne; omega)))))); done)); (focus (intro hk; have hkk := hv5 _ hk; first | (simp at hkk; done) | (simp at hkk; omega) | omega)))); intro hz6a; have z0a := hz6a.cell 0 rfl; have z1a := hz6a.cell 1 rfl; have z2a := hz6a.cell 2 rfl; have y0a := hz6a.free 0; have y1a := hz6a.free 1; have y2a := hz6a.free 2)); (try (refine useful (P := CellsAt w6 (W4.heap.size + 1) 36 #[.bool false, .int .i64 0, .slice none 0 0]) ?_ ?_; (focus (refine CellsAt.grown ?_ hg6 ?_; (focus ((repeat (first | (with_reducible exact CellsAt.new _ _ _) | (with_reducible refine CellsAt.new' ?_; (first | (simp; done) | (simp; omega))) | (with_reducible refine CellsAt.allocC ?_) | (with_reducible refine CellsAt.drew ?_) | ((with_reducible refine CellsAt.grown ?_ hg5 ?_); rotate_left; (focus (first | (simp; done) | (simp; omega) | (intro hne; have hne2 := Option.some.inj hne; omega)))))); done)); (focus (intro hk; have hkk := hv5 _ hk; first | (simp at hkk; done) | (simp at hkk; omega) | omega)))); intro hz6b; have z0b := hz6b.cell 0 rfl; have z1b := hz6b.cell 1 rfl; have z2b := hz6b.cell 2 rfl; have y0b := hz6b.free 0; have y1b := hz6b.free 1; have y2b := hz6b.free 2)))))
                  all_goals clear hi0 hz0 hz1 hz2
                  all_goals go_wp2_with fail
                  all_goals go_meet
                  all_goals first
                    | exact WNew.alloc ho6 hb8
                    | exact (WNew.alloc ho6 hb8).drew
                    | exact WNew.set (by first | exact Nat.le_refl _ | (simp; done) | omega) ho6 hb8 (CellsAt.grown (by (repeat (first | (with_reducible exact CellsAt.new _ _ _) | (with_reducible refine CellsAt.new' ?_; (first | (simp; done) | (simp; omega))) | (with_reducible refine CellsAt.allocC ?_) | (with_reducible refine CellsAt.drew ?_) | ((with_reducible refine CellsAt.grown ?_ hg5 ?_); rotate_left; (focus (first | (simp; done) | (simp; omega) | (intro hne; have hne2 := Option.some.inj hne; omega))))))) hg6 (fun hk => by have hkk := hv5 _ hk; first | omega | (simp at hkk; done) | (simp at hkk; omega)))
                    | exact (WNew.set (by first | exact Nat.le_refl _ | (simp; done) | omega) ho6 hb8 (CellsAt.grown (by (repeat (first | (with_reducible exact CellsAt.new _ _ _) | (with_reducible refine CellsAt.new' ?_; (first | (simp; done) | (simp; omega))) | (with_reducible refine CellsAt.allocC ?_) | (with_reducible refine CellsAt.drew ?_) | ((with_reducible refine CellsAt.grown ?_ hg5 ?_); rotate_left; (focus (first | (simp; done) | (simp; omega) | (intro hne; have hne2 := Option.some.inj hne; omega))))))) hg6 (fun hk => by have hkk := hv5 _ hk; first | omega | (simp at hkk; done) | (simp at hkk; omega)))).drew
                case rest =>
                  obtain ⟨b8, a8, c8, rfl, hc8, hr8, hown8, hb8, hbx⟩ := hcut
                  obtain ⟨W5, rfl⟩ : ∃ W5 : World, W5 = wc := ⟨_, rfl⟩
                  have hb25 : Below W2.heap.size W2 W5 := HBF.out.trans (hbx.mono HBF.out.size)
                  obtain ⟨⟨⟨xt, xs, xp⟩, xa, xc⟩, hx⟩ : ∃ x, out[v]? = some x := ⟨_, List.getElem?_eq_getElem (by rw [HA2.out]; omega)⟩
                  obtain ⟨hx1, hx2⟩ := HA3.out _ _ hx
                  simp only at hx1
                  have hxl : xp.length ≤ 401 := by
                    cases hC : C (v : Int) with
                    | none => rw [hC] at hx1; cases hx1; decide
                    | some t =>
                      rw [hC] at hx1
                      cases hx1
                      have := ((HA1.out.best _ _ hC).1.bd hL)
                      omega
                  have hAH : ∀ W, Below W5.heap.size W5 W → Calls Tryd.prog 28 #[.agg #[.bool true, .int .i64 (fsum + e.cost), .slice a8 (fpath.length + 1) c8], .agg #[.bool xt, .int .i64 xs, .slice xa xp.length xc]] W fun e' w' => e' = .returned (.bool (aheadV ⟨true, fsum + e.cost, fpath ++ [(m : Int)]⟩ ⟨xt, xs, xp⟩)) ∧ Below W.heap.size W w' := fun W hW => by
                    have h5 := ahead_any (w := W) ⟨true, fsum + e.cost, fpath ++ [(m : Int)]⟩ ⟨xt, xs, xp⟩ a8 xa c8 xc (Row.stays hr8 hW) (Row.stays (Row.stays hx2.1 hb25) hW) (by simp; omega) (by simp only; omega)
                    simp only [List.length_append, List.length_singleton] at h5
                    exact h5
                  simp only [List.length_append, List.length_singleton] at hc8
                  have how5 := HA4.out.stays hb25
                  have HS : Hid (∀ W, Below W5.heap.size W5 W → W.cell? ⟨b8, 0, none⟩ = some (.bool true) ∧ W.cell? ⟨b8, 1, none⟩ = some (.int .i64 (fsum + e.cost)) ∧ W.cell? ⟨b8, 2, none⟩ = some (.slice a8 (fpath.length + 1) c8) ∧ W.cell? ⟨g, v * 3, none⟩ = some (.bool xt) ∧ W.cell? ⟨g, v * 3 + 1, none⟩ = some (.int .i64 xs) ∧ W.cell? ⟨g, v * 3 + 2, none⟩ = some (.slice xa xp.length xc) ∧ ∀ j, W.frozen? ⟨g, j, none⟩ = false) := fun W hW => by
                    obtain ⟨-, y0, y1, y2, y3⟩ := wayCells (how5.stays hW) hx
                    exact ⟨(hc8.stays hW).cell 0 rfl, (hc8.stays hW).cell 1 rfl, (hc8.stays hW).cell 2 rfl, y0, y1, y2, y3⟩
                  obtain ⟨R, hR⟩ : ∃ R, R = aheadV ⟨true, fsum + e.cost, fpath ++ [(m : Int)]⟩ ⟨xt, xs, xp⟩ := ⟨_, rfl⟩
                  rw [← hR] at hAH
                  have HC := Lib.hid hAH
                  have HRR := Lib.hid hR
                  have HX1 := Lib.hid hx1
                  have HR8 := Lib.hid hr8
                  have HOWN8 := Lib.hid hown8
                  have HB25 := Lib.hid hb25
                  have HX := Lib.hid hx
                  have HBX := Lib.hid hbx
                  have hdr : Below W5.heap.size W5 W5.drew := (Below.refl _ _).drew
                  clear hAH hR hx1 hx2 hr8 hown8 hb25 hx hbx hc8 how5
                  have iv0 : (0 : Int) ≤ (v : Int) := by omega
                  have iv1 : (v : Int) < (400 : Int) := by omega
                  have iv2 : ((v : Int)).toNat = v := by omega
                  go_upto_region 14 with fail
                  refine wp_region_quiet_in (C := fun W => Below W5.heap.size W5 W) (by kernel_rfl) (by kernel_rfl) hdr ?_
                  repeat
                    (first
                       | go_big_quiet_skip
                       | (go_big_quiet_want
                          refine quiet_intro ?_ (fun wq hwq => ?_) ?_
                          rotate_left
                          focus
                            (obtain ⟨c0, c1, c2, c3, c4, c5, -⟩ := HS.out _ hwq
                             go_simp
                             try first
                               | with_reducible rfl
                               | (exact hwq)
                               | ((with_reducible refine (HC.out _ hwq).mono ?_); rintro e wA ⟨rfl, hbA⟩; refine ⟨?_, hwq.trans (hbA.mono hwq.size)⟩; with_reducible rfl))
                          go_simp
                          go_big_quiet_on))
                  refine wpQuiet_nil ?_
                  intro W6 hb6
                  have hb26 : Below W2.heap.size W2 W6 := HB25.out.trans (hb6.mono HB25.out.size)
                  obtain ⟨c0, c1, c2, c3, c4, c5, c6⟩ := HS.out _ hb6
                  have z0 := c6 (v * 3)
                  have z1 := c6 (v * 3 + 1)
                  have z2 := c6 (v * 3 + 2)
                  have HB26 := Lib.hid hb26
                  have HB6 := Lib.hid hb6
                  clear c6 hb6 hb26 HS HC hdr
                  cases R with
                  | false =>
                    have HN : Hid (WaR L g w v (m + 1) W6) := by
                      have h1 := HRR.out
                      have h2 := HX1.out
                      refine WaR.stays (⟨C, out, HA1.out.skip HE.out (fun _ f' hf' => ?_), HA2.out, HA3.out, HA4.out, HA5.out, a6⟩ : WaR L g w v (m + 1) W2) HB26.out
                      rw [HQ.out] at hf'
                      cases hf'
                      rw [h2] at h1
                      cases hC : C (v : Int) with
                      | none => rw [hC] at h1; cases h1
                      | some b =>
                        rw [hC] at h1
                        refine ⟨b, rfl, fun hlt => ?_⟩
                        have h3 : aheadV ⟨true, fsum + e.cost, fpath ++ [(m : Int)]⟩ (wyOf (some b)) = decide (ordT (extT ⟨fto, fsum, fpath⟩ e (m : Int)) b < 0) := rfl
                        rw [h3, decide_eq_true hlt] at h1
                        cases h1
                    clear c0 c1 c2 c3 c4 c5 z0 z1 z2
                    go_wp2_with fail
                    go_roundw
                    case rel => exact ⟨m + 1, by go_num, by omega, HN.out⟩
                    case measure => simp only [intOf]; omega
                  | true =>
                    have HN : Hid (WaR L g w v (m + 1) (((W6.setCell ⟨g, v * 3, none⟩ (.bool true)).setCell ⟨g, v * 3 + 1, none⟩ (.int .i64 (fsum + e.cost))).setCell ⟨g, v * 3 + 2, none⟩ (.slice a8 (fpath.length + 1) c8))) := by
                      have k1 := HRR.out
                      have k2 := HX1.out
                      have hlt : ∀ b, C (v : Int) = some b → ordT (extT ⟨fto, fsum, fpath⟩ e (m : Int)) b < 0 := fun b hb => by
                        rw [k2, hb] at k1
                        have k3 : aheadV ⟨true, fsum + e.cost, fpath ++ [(m : Int)]⟩ (wyOf (some b)) = decide (ordT (extT ⟨fto, fsum, fpath⟩ e (m : Int)) b < 0) := rfl
                        rw [k3] at k1
                        exact of_decide_eq_true k1.symm
                      have hgr := grown_three (g := g) (a := v * 3) (b := v * 3 + 1) (d := v * 3 + 2) (u := .bool true) (v := .int .i64 (fsum + e.cost)) (x := .slice a8 (fpath.length + 1) c8) (grownBy_refl W6 (some g))
                      have hgl : g < W2.heap.size := (HA4.out.lt g rfl).2
                      have hvl : v < out.length := by rw [HA2.out]; omega
                      have hset := waySet (HA4.out.stays HB26.out) ((⟨true, fsum + e.cost, fpath ++ [(m : Int)]⟩, a8, c8) : WM) hvl
                      simp only [List.length_append, List.length_singleton] at hset
                      have hb46 := HBF.out.size
                      refine ⟨fun x => if x = (v : Int) then some (extT ⟨fto, fsum, fpath⟩ e (m : Int)) else C x, _, HA1.out.put hL HE.out HD.out HQ.out hlt (fun _ => rfl), by rw [List.length_set]; exact HA2.out, fun j y hy => ?_, hset, ?_, a6⟩
                      · rw [List.getElem?_set] at hy
                        by_cases hj : v = j
                        · subst hj
                          rw [if_pos rfl, if_pos hvl] at hy
                          cases hy
                          refine ⟨by simp only [if_true]; rfl, ?_, fun k hk => ?_⟩
                          · exact (Grew.ofGrown hgr).row (Row.stays HR8.out HB6.out) (fun k hk hm => by
                              rw [List.mem_singleton] at hm
                              have := HOWN8.out k hk
                              omega)
                          · have h81 := HOWN8.out k hk; have h82 := HA5.out.size; exact ⟨by omega, by omega⟩
                        · rw [if_neg hj] at hy
                          obtain ⟨n1, n2, n3⟩ := HA3.out j y hy
                          refine ⟨by rw [n1]; simp only; rw [if_neg (by omega)], (Grew.ofGrown hgr).row (Row.stays n2 HB26.out) (fun k hk hm => by
                            rw [List.mem_singleton] at hm
                            exact (n3 k hk).1 hm), n3⟩
                      · exact (HA5.out.trans (HB26.out.mono HA5.out.size)).grown hgr (by have := HA5.out.size; have := HB26.out.size; omega) (fun k hk => by cases hk; exact a6)
                    go_wp2_with fail
                    go_roundw
                    case rel => exact ⟨m + 1, by go_num, by omega, HN.out⟩
                    case measure => simp only [intOf]; omega
          · have t1 : (e.dst != (v : Int)) = true := by simpa using hd
            have HN : Hid (WaR L g w v (m + 1) (wr.alloc (.cells #[.int .i64 e.src, .int .i64 e.dst, .int .i64 e.cost] 67))) :=
              WaR.stays (⟨C, out, a1.skip he (fun h => absurd h hd), a2, a3, a4, a5, a6⟩ : WaR L g w v (m + 1) wr) hbw
            clear HM a1 a2 a3 a4 a5 he hbde hbw hd
            go_wp2_with fail
            go_roundw
            case rel => exact ⟨m + 1, by go_num, by omega, HN.out⟩
            case measure => simp only [intOf]; omega
        · obtain rfl : m = L.length := by omega
          have HN : Hid (WaR L g w (v + 1) 0 wr) := by
            obtain ⟨C, out, a1, a2, a3, a4, a5, a6⟩ := HM.out
            exact ⟨C, out, by have := a1.next; rw [show ((v + 1 : Nat) : Int) = (v : Int) + 1 by omega]; exact this, a2, a3, a4, a5, a6⟩
          clear HM
          go_wp2_with fail
          go_roundw
          case rel => exact ⟨v + 1, by go_num, by omega, HN.out⟩
          case measure => simp only [intOf]; omega
    · obtain rfl : v = 400 := by omega
      have HH := HV.out
      clear HV
      have HH2 := Lib.hid HH
      clear HH
      go_wp2_with fail
      go_ret
      obtain ⟨C, out, a1, a2, a3, a4, a5, a6⟩ := HH2.out
      exact ⟨C, out, g, rfl, RInv.least hL a1, a2, a3, a4, a5⟩
end
end Go.Proofs.YthabjnppmhlomaaDoor
