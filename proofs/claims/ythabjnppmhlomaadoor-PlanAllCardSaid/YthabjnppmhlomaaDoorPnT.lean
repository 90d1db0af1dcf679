/- The cheapest ways to all versions. -/
import Derived.Test.YthabjnppmhlomaaDoorPnS
import Derived.Laws.OwnMore
namespace Go.Proofs.YthabjnppmhlomaaDoor
open Go Go.RowKit
set_option linter.unusedVariables false
/-- a row of ints, and where it lies -/
abbrev ZM := List Int × (Option Addr × Nat)
def zV (x : ZM) : Value := .slice x.2.1 x.1.length x.2.2
def zm0 : ZM := ([], none, 0)
def pathOf : Option Tr → List Int
  | some t => t.path
  | none => []
theorem infoLZ : (Tryd.prog.info? 23).map (fun i => (i.zero, i.size, i.bytes)) = some (some (.slice none 0 0), 1, 24) := by kernel_rfl
theorem madeOne (z : Value) (n : Nat) : (madeCells #[z] (n * 1)).toList = List.replicate n z := by
  apply List.ext_getElem?
  intro i
  rw [Nat.mul_one]
  by_cases hi : i < n
  · simp only [madeCells, Array.toList_map, Array.toList_range, List.getElem?_map, List.getElem?_range hi, Option.map_some, List.getElem?_replicate, if_pos hi]
    rw [show i % (#[z] : Array Value).size = 0 from Nat.mod_one i]
    rfl
  · rw [List.getElem?_eq_none (by rw [Array.length_toList, size_madeCells]; omega), List.getElem?_eq_none (by rw [List.length_replicate]; omega)]
theorem rep_map {α : Type} (f : α → Value) (x : α) (n : Nat) : List.replicate n (f x) = (List.replicate n x).map f := by rw [List.map_replicate]
theorem ownCell {α : Type} {f : α → Value} {E : TypeId} {B : Nat} {w : World} {g n c : Nat} {xs : List α} (h : OwnL E f B w (.slice (some ⟨g, 0, none⟩) n c) xs) {i : Nat} {x : α} (hx : xs[i]? = some x) : w.frozen? ⟨g, i, none⟩ = false ∧ w.cell? ⟨g, i, none⟩ = some (f x) := by
  obtain ⟨gq, cq, hv, hgB, hglt, hc1, hfz, hcl⟩ := h.block (by intro h0; rw [h0] at hx; simp at hx)
  cases hv
  exact ⟨hfz i, hcl i _ hx⟩
/-- all versions below i are done -/
def AllR (B : Int → Option Tr) (g n : Nat) (w1 : World) (i : Nat) (wr : World) : Prop :=
  ∃ out : List ZM, out.length = n ∧ (∀ (j : Nat) (x : ZM), out[j]? = some x → RowZ wr (zV x) x.1 ∧ (∀ k, (zV x).ownBlock = some k → k ≠ g) ∧ (j < i → x.1 = pathOf (B j))) ∧ OwnL 23 zV w1.heap.size wr (.slice (some ⟨g, 0, none⟩) n n) out ∧ Below w1.heap.size w1 wr ∧ w1.heap.size ≤ g
def AllP (L : List Eg) (n : Nat) (w : World) (e : Ending) (w' : World) : Prop :=
  ∃ (B : Int → Option Tr) (out : List ZM) (g : Nat), e = .returned (.tuple #[.slice (some ⟨g, 0, none⟩) n n, .nilIface]) ∧ Least L B ∧ out.length = n ∧ (∀ (j : Nat) (x : ZM), out[j]? = some x → RowZ w' (zV x) x.1 ∧ x.1 = pathOf (B j)) ∧ OwnL 23 zV w.heap.size w' (.slice (some ⟨g, 0, none⟩) n n) out ∧ Below w.heap.size w w'
section
variable {w : World} {L : List Eg} {la : Option Addr} {lc : Nat}
set_option maxRecDepth 100000 in
set_option maxHeartbeats 1000000 in
theorem pall_ok (hL : rightL L = true) (hlen : L.length ≤ 3000) (hr : RowS eC w (.slice la L.length lc) L) (n : Nat) (hn : n ≤ 400) :
    Calls Tryd.prog 15 #[.slice la L.length lc, .int .i64 n] w (AllP L n w) := by
  have hRE := (rightL_iff L).1 hL
  have HRI := Lib.hid (right_any hr hlen)
  rw [hL] at HRI
  have HFD : Hid (∀ W, Below w.heap.size w W → Calls _ _ _ W _) := fun W hb => find_any hRE hlen (hr.stays hb)
  have HRE := Lib.hid hRE
  clear hr hL hRE
  obtain ⟨i0, hi0, hz0, hz1, hz2⟩ := info_parts infoLZ
  have HMK : Hid (∀ W : World, ∃ w', (Instr.makeSlice 43 (.int .i64 (n : Int)) (.int .i64 (n : Int))).run Tryd.prog W = .ok (.slice (some ⟨W.heap.size, 0, none⟩) n n) w' ∧ w'.ownsRow W.heap.size 23 1 (.slice (some ⟨W.heap.size, 0, none⟩) n n) n (madeCells (Value.slice none 0 0).cells (n * 1)).toList ∧ W.grownBy w' none) := fun W =>
    run_make_full (P := Tryd.prog) W W.heap.size 43 23 i0 (.slice none 0 0) 1 Tryd.underlying43 hi0 hz0 hz1 .i64 .i64 n (by rw [hz2]; omega) (by unfold maxLen; omega) (Nat.le_refl _)
  clear hi0 hz0 hz1 hz2
  have d0 : decide ((n : Int) < 0) = false := by simp
  have d1 : decide ((n : Int) > 400) = false := by simp; omega
  go_enter Tryd.func15, Tryd.ntmps15
  go_wp2_with fail
  refine HRI.out.mono ?_
  rintro e w1 ⟨rfl, hb1⟩
  have HFD1 := Lib.hid (HFD.out w1 hb1)
  have HB1 := Lib.hid hb1
  clear HRI HFD hb1
  go_wp2_with fail
  refine HFD1.out.mono ?_
  rintro e w2 ⟨B, F, mf, mb, fr, qv, Bm, nb, rfl, hFI, hLe, hb2⟩
  have hbb : Below w.heap.size w w2 := HB1.out.trans (hb2.mono HB1.out.size)
  obtain ⟨w3, hmk, hown, hg3⟩ := HMK.out w2
  rw [show (Value.slice none 0 0).cells = #[.slice none 0 0] from rfl, madeOne, show Value.slice none 0 0 = zV zm0 from rfl, rep_map] at hown
  have hb3 : Below w2.heap.size w2 w3 := below_of_grown hg3 (Nat.le_refl _) (fun k hk => by cases hk)
  have HFI := Lib.hid hFI
  have HLE := Lib.hid hLe
  have HBB := Lib.hid hbb
  have HG3 : Hid (AllR (BT Bm) w2.heap.size n w2 0 w3) := ⟨List.replicate n zm0, List.length_replicate, fun j x hx => by
    have hxx : x = zm0 := by rw [List.getElem?_replicate] at hx; split at hx <;> cases hx; rfl
    subst hxx
    exact ⟨RowL.nil _, fun k hk => by simp [zV, zm0, Value.ownBlock] at hk, fun h => absurd h (Nat.not_lt_zero _)⟩, by unfold OwnL; rw [List.length_replicate]; exact hown, hb3, Nat.le_refl _⟩
  clear hFI hLe hbb hb2 HFD1 HB1 hown hg3 hb3 HMK
  go_wp2_with fail
  obtain ⟨g, hg⟩ : ∃ g, g = w2.heap.size := ⟨_, rfl⟩
  rw [← hg] at HG3 ⊢
  clear hmk
  have HGG := Lib.hid hg
  clear hg
  go_loopw [28] (fun u wr => ∃ i : Nat, u = .int .i64 i ∧ i ≤ n ∧ Hid (AllR (BT Bm) g n w2 i wr)) (fun u _ => n - (intOf u).toNat)
  case atStart => exact ⟨0, rfl, by omega, HG3.out⟩
  case round =>
    clear HG3
    obtain ⟨i, rfl, hi, HI⟩ := hrel
    by_cases h1 : i < n
    · obtain ⟨out, a1, a2, a3, a4, a5⟩ := HI.out
      have hF := HFI.out.stays a4
      have k2 : wr.cell? ⟨F, 2, none⟩ = some (.map (some mb)) := hF.q.1.1.cell 2 rfl
      have hlk := lookI1_run hF.best Tryd.underlying3 Tryd.underlying59 (zeroT wr) (i : Int) ⟨by omega, by omega⟩
      obtain ⟨⟨⟨xt, xsu, xp⟩, xa, xc⟩, hx, hxr, hxl, hxp⟩ : ∃ x : TM, (((fun v => (Bm v).map tG) (i : Int)).getD (.agg #[.int .i64 0, .int .i64 0, .slice none 0 0])) = tG x ∧ RowZ wr (.slice x.2.1 x.1.path.length x.2.2) x.1.path ∧ x.1.path.length ≤ 100000 ∧ x.1.path = pathOf (BT Bm i) := by
        cases hq : Bm i with
        | none => exact ⟨(⟨0, 0, []⟩, none, 0), by simp only [hq]; rfl, RowL.nil _, by decide, by unfold BT; rw [hq]; rfl⟩
        | some x => exact ⟨x, by simp only [hq]; rfl, (hF.trips _ _ hq).2.2.2.1, (hF.trips _ _ hq).2.2.1, by unfold BT; rw [hq]; rfl⟩
      rw [hx] at hlk
      change _ = Result.ok (Value.agg #[.int .i64 xt, .int .i64 xsu, .slice xa xp.length xc]) wr at hlk
      simp only at hxr hxl hxp
      have hfd : (Instr.field 56 (.agg #[.int .i64 xt, .int .i64 xsu, .slice xa xp.length xc]) 2).run Tryd.prog wr = .ok (.slice xa xp.length xc) wr := by kernel_rfl
      have HCL := Lib.hid (cloneZ_any _ xp wr hxr (by omega))
      have HXP := Lib.hid hxp
      clear hx hxr hxl hxp hF a1 a2 a3 a4 a5
      go_wp2_with fail
      refine HCL.out.mono ?_
      rintro e w5 ⟨v5, rfl, ho5, hb5⟩
      obtain ⟨out, a1, a2, a3, a4, a5⟩ := HI.out
      obtain ⟨av, cv, rfl, -, -⟩ := ho5.row.shape
      have hil : i < out.length := by omega
      have how5 := a3.stays hb5
      have hset := how5.set i ((xp, av, cv) : ZM)
      obtain ⟨hff, hcc⟩ := ownCell how5 (List.getElem?_eq_getElem hil)
      have hb25 : Below w2.heap.size w2 w5 := a4.trans (hb5.mono a4.size)
      have hwr := a4.size
      have HN : Hid (AllR (BT Bm) g n w2 (i + 1) (w5.setCell ⟨g, i, none⟩ (.slice av xp.length cv))) := by
        refine ⟨out.set i (xp, av, cv), by rw [List.length_set]; exact a1, fun j x hx => ?_, hset, hb25.setCell a5 _, a5⟩
        rw [List.getElem?_set] at hx
        have hgr : w5.grownBy (w5.setCell ⟨g, i, none⟩ (.slice av xp.length cv)) (some g) := grownBy_setCell (grownBy_refl _ _) _ (.inl rfl) _
        by_cases hj : i = j
        · subst hj
          rw [if_pos rfl, if_pos hil] at hx
          cases hx
          have hne : ∀ k, (zV (xp, av, cv)).ownBlock = some k → k ≠ g := fun k hk => by
            have h1 := (World.ownsRow.lt ho5 k hk).1
            have h2 : g < wr.heap.size := (World.ownsRow.lt a3 g rfl).2
            omega
          exact ⟨(Grew.ofGrown hgr).row ho5.row (fun k hk hm => hne k hk (List.mem_singleton.1 hm)), hne, fun _ => HXP.out⟩
        · rw [if_neg hj] at hx
          obtain ⟨n1, n2, n3⟩ := a2 j x hx
          exact ⟨(Grew.ofGrown hgr).row (Row.stays n1 hb5) (fun k hk hm => n2 k hk (List.mem_singleton.1 hm)), n2, fun h => n3 (by omega)⟩
      have i0 : (0 : Int) ≤ (i : Int) := by omega
      have i1 : (i : Int) < (n : Int) := by omega
      clear hset hb25 a1 a2 a3 a4 a5 how5 ho5 hb5
      go_wp2_with fail
      go_roundw
      case rel => exact ⟨i + 1, by go_num, by omega, HN.out⟩
      case measure => simp only [intOf]; omega
    · obtain rfl : i = n := by omega
      go_wp2_with fail
      go_ret2
      obtain ⟨out, a1, a2, a3, a4, a5⟩ := HI.out
      have hs := HBB.out.size
      exact ⟨BT Bm, out, g, rfl, HLE.out, a1, fun j x hx => ⟨(a2 j x hx).1, (a2 j x hx).2.2 (by have := (List.getElem?_eq_some_iff.1 hx).1; omega)⟩, a3.mono hs, HBB.out.trans (a4.mono hs)⟩
theorem pall_form (hL : rightL L = false) (hlen : L.length ≤ 3000) (hr : RowS eC w (.slice la L.length lc) L) (n : Int) (ea : Nat → Addr) (he9 : ErrAt w 0 (ea 9)) :
    Calls Tryd.prog 15 #[.slice la L.length lc, .int .i64 n] w fun e w' => e = .returned (.tuple #[.slice none 0 0, EV ea 9]) ∧ Below w.heap.size w w' := by
  have HRI := Lib.hid (right_any hr hlen)
  rw [hL] at HRI
  have HE9 := Lib.hid he9
  clear hr he9 hL
  go_enter Tryd.func15, Tryd.ntmps15
  go_wp2_with fail
  refine HRI.out.mono ?_
  rintro e w1 ⟨rfl, hb1⟩
  have he := HE9.out.stays hb1
  have helt := he.lt
  unfold ErrAt at he
  have HB1 := Lib.hid hb1
  clear HRI hb1
  go_wp2_with fail
  go_quiet (fail)
  go_wp2_with fail
  go_ret2
  exact ⟨rfl, below_drewQ HB1.out⟩
theorem pall_range (hL : rightL L = true) (hlen : L.length ≤ 3000) (hr : RowS eC w (.slice la L.length lc) L) (n : Int) (hn : n < 0 ∨ 400 < n) (ea : Nat → Addr) (he1 : ErrAt w 2 (ea 1)) :
    Calls Tryd.prog 15 #[.slice la L.length lc, .int .i64 n] w fun e w' => e = .returned (.tuple #[.slice none 0 0, EV ea 1]) ∧ Below w.heap.size w w' := by
  have HRI := Lib.hid (right_any hr hlen)
  rw [hL] at HRI
  have HE9 := Lib.hid he1
  clear hr he1 hL
  go_enter Tryd.func15, Tryd.ntmps15
  go_wp2_with fail
  refine HRI.out.mono ?_
  rintro e w1 ⟨rfl, hb1⟩
  have he := HE9.out.stays hb1
  have helt := he.lt
  unfold ErrAt at he
  have HB1 := Lib.hid hb1
  clear HRI hb1
  by_cases h0 : n < 0
  · go_wp2_with fail
    go_quiet (fail)
    go_wp2_with fail
    go_ret2
    exact ⟨rfl, below_drewQ HB1.out⟩
  · have h1 : 400 < n := by omega
    go_wp2_with fail
    go_quiet (fail)
    go_wp2_with fail
    go_ret2
    exact ⟨rfl, below_drewQ HB1.out⟩
end
end Go.Proofs.YthabjnppmhlomaaDoor
