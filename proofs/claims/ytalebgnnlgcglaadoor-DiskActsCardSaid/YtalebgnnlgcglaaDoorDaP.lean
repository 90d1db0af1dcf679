/- The document's Pending, the disk's Writes and Image, walked. -/
import Derived.Test.YtalebgnnlgcglaaDoorDwP
import Derived.Test.YtalebgnnlgcglaaDoorDkN
import Derived.Test.YtalebgnnlgcglaaDoorDkR
namespace Go.Proofs.YtalebgnnlgcglaaDoor
open Go Go.RowKit
set_option linter.unusedVariables false
theorem infoI : (Tryd.prog.info? 3).map (fun i => (i.zero, i.size, i.bytes)) = some (some (.int .i64 0), 1, 8) := by kernel_rfl
def pendT (d : Dm) (k : Nat) : List Int := ((List.range k).filter fun (i : Nat) => (d.wr (i : Int)).isSome).map fun (i : Nat) => (i : Int)
theorem pendT_len (d : Dm) (k : Nat) : (pendT d k).length ≤ k := by
  unfold pendT
  rw [List.length_map]
  exact Nat.le_trans (List.length_filter_le _ _) (by simp)
theorem pendT_yes {d : Dm} {k : Nat} (h : (d.wr (k : Int)).isSome = true) : pendT d (k + 1) = pendT d k ++ [(k : Int)] := by
  unfold pendT
  rw [List.range_succ, List.filter_append, List.map_append]
  simp [h]
theorem pendT_no {d : Dm} {k : Nat} (h : (d.wr (k : Int)).isSome = false) : pendT d (k + 1) = pendT d k := by
  unfold pendT
  rw [List.range_succ, List.filter_append, List.map_append]
  simp [h]
set_option maxRecDepth 100000 in
set_option maxHeartbeats 1000000 in
theorem rpending_any {w : World} {B h N : Nat} {d : Dm} (r : Rd2 w B h N d) (hsz : d.dur.length ≤ 1024) :
    Calls Tryd.prog 17 #[.pointer (some ⟨h, 0, none⟩)] w fun e w' => ∃ v, e = .returned v ∧ RowL IV w' v (pendL d) ∧ Below w.heap.size w w' := by
  obtain ⟨m, vd, vw, rk, sim, hw64⟩ := r
  have hms := sim.size
  obtain ⟨L, hL⟩ : ∃ L, L = d.dur.length := ⟨_, rfl⟩
  have HP : Hid (pendL d = pendT d L) := by show _ = _; rw [hL]; rfl
  have hlw : m.wait.length ≤ 1000000 := by have := rk.lens; have := rk.small; omega
  have HRK : Hid (∀ W, Below w.heap.size w W → W.cell? ⟨h, 0, none⟩ = some (.int .i64 L) ∧ W.cell? ⟨h, 2, none⟩ = some vw ∧ RowS wrC W vw m.wait) := fun W hW => by
    have hc := rk.cells.stays hW
    refine ⟨?_, hc.cell 2 (v := vw) rfl, rk.wait.row.stays hW⟩
    have := hc.cell 0 (v := .int .i64 m.size) rfl
    rw [this, hms, ← hL]
  have HWR : Hid (∀ i : Int, d.wr i = lastO m.wait i) := sim.wr
  have hL1 : L ≤ 1024 := by omega
  clear hms rk sim hw64 hL hsz
  go_enter Tryd.func17, Tryd.ntmps17
  go_wp2_with fail
  have hb0 : Below w.heap.size w (w.alloc (.cells #[] 3)) := (Below.refl _ _).alloc (Nat.le_refl _) _
  have ho0 : OwnL 3 IV w.heap.size (w.alloc (.cells #[] 3)) (.slice (some ⟨w.heap.size, 0, none⟩) 0 0) [] := World.ownsRow_made (base := w.heap.size) (e := 3) (size := 1) w #[] 0 (Nat.le_refl _) (Nat.zero_le _) rfl
  go_loopw [4, 3] (fun i v wr => ∃ k : Nat, k ≤ L ∧ i = .int .i64 k ∧ OwnL 3 IV w.heap.size wr v (pendT d k) ∧ Below w.heap.size w wr) (fun i _ _ => L - (Go.RowKit.intOf i).toNat)
  case atStart => exact ⟨0, Nat.zero_le _, rfl, ho0, hb0⟩
  case round =>
    clear ho0 hb0
    obtain ⟨k, hk, rfl, ho, hb⟩ := hrel
    obtain ⟨c0, c2, hrow⟩ := HRK.out wr hb
    by_cases hlt : k < L
    · have hC := rlast_any vw m.wait (k : Int) wr hrow hlw
      have HE := Lib.hid (HWR.out (k : Int))
      have hlen := pendT_len d k
      cases hq : lastO m.wait (k : Int) with
      | none =>
        rw [hq] at hC
        have HC := Lib.hid hC
        have HT : Hid (pendT d (k + 1) = pendT d k) := by
          show _ = _
          exact pendT_no (by rw [HE.out, hq]; rfl)
        clear hC hq hrow
        go_wp2_with fail
        refine HC.out.mono ?_
        unfold lastR
        rintro e w1 ⟨rfl, rfl⟩
        go_wp2_with fail
        go_roundw
        case rel => exact ⟨k + 1, by omega, by go_num, by rw [HT.out]; exact ho, hb⟩
        case measure => simp [Go.RowKit.intOf]; omega
      | some s =>
        rw [hq] at hC
        have HC := Lib.hid hC
        have HT : Hid (pendT d (k + 1) = pendT d k ++ [(k : Int)]) := by
          show _ = _
          exact pendT_yes (by rw [HE.out, hq]; rfl)
        have hszr := hb.size
        have HB := Lib.hid hb
        clear hC hq hrow hb
        go_wp2_with fail
        refine HC.out.mono ?_
        unfold lastR
        rintro e w1 ⟨rfl, rfl⟩
        go_wp2_with (at_builtin; go_must (refine wpList_pushL (fun _ => rfl) Tryd.underlying35 infoI rfl (by decide) ho (k : Int) (by omega) hszr rfl _ _ rfl (by rfl) _ _ _ (by rfl) (by rfl) ?_))
        intro v9 w9 o9 g9 n9
        go_wp2_with fail
        go_roundw
        case rel => exact ⟨k + 1, by omega, by go_num, by rw [HT.out]; exact o9, below_own HB.out ho g9 hszr⟩
        case measure => simp [Go.RowKit.intOf]; omega
    · obtain rfl : k = L := by omega
      go_wp2_with fail
      go_ret
      exact ⟨_, rfl, by rw [HP.out]; exact ho.row, hb⟩
theorem writes_any {w : World} {g gd gm : Nat} {d : Dm} (h : Dk w g gd gm d) : Calls Tryd.prog 18 #[.pointer (some ⟨g, 0, none⟩)] w fun e w' => e = .returned (.int .i64 d.writes) ∧ w = w' := by
  have c3 := h.c3
  go_enter Tryd.func18, Tryd.ntmps18
  go_wp2_with fail
  go_ret
  exact ⟨rfl, rfl⟩
/-- what Image hands back: rows of the durable sectors' bytes -/
structure Im where
  a : Option Addr
  n : Nat
  c : Nat
  s : List UInt8
def Im.v (p : Im) : Value := .slice p.a p.n p.c
def Ims (w : World) (v : Value) (fs : List Im) : Prop := ∀ p ∈ fs, RowB w p.v p.s ∧ ∀ q, p.v.ownBlock = some q → q < w.heap.size ∧ v.ownBlock ≠ some q
theorem rowB_keep {w w' : World} {v : Value} {bs : List UInt8} {row : Option Nat} (h : RowB w v bs) (hg : w.grownBy w' row) (hne : ∀ k, row = some k → v.ownBlock ≠ some k) : RowB w' v bs := Row.grown h hg (fun k hk e => hne k e hk)
theorem Ims.stays {w w' : World} {v : Value} {fs : List Im} (h : Ims w v fs) (hb : Below w.heap.size w w') : Ims w' v fs := fun p hp =>
  ⟨(h p hp).1.stays hb, fun q hq => ⟨Nat.lt_of_lt_of_le ((h p hp).2 q hq).1 hb.size, ((h p hp).2 q hq).2⟩⟩
theorem Ims.grown {w w' : World} {v v' : Value} {fs : List Im} (h : Ims w v fs) (hg : w.grownBy w' v.ownBlock) (hn : NewOrSame w v v') : Ims w' v' fs := fun p hp =>
  ⟨rowB_keep (h p hp).1 hg (fun k hk e => ((h p hp).2 k e).2 hk), fun q hq => ⟨Nat.lt_of_lt_of_le ((h p hp).2 q hq).1 hg.size, fun e => by
    rcases hn q e with h1 | h1
    · exact ((h p hp).2 q hq).2 h1
    · have := ((h p hp).2 q hq).1; omega⟩⟩
theorem infoBs : (Tryd.prog.info? 22).map (fun i => (i.zero, i.size, i.bytes)) = some (some (.slice none 0 0), 1, 24) := by kernel_rfl
set_option maxRecDepth 100000 in
set_option maxHeartbeats 2000000 in
theorem image_any {w : World} {g gd gm : Nat} {d : Dm} (h : Dk w g gd gm d) :
    Calls Tryd.prog 20 #[.pointer (some ⟨g, 0, none⟩)] w fun e w' => ∃ v fs, e = .returned v ∧ RowL Im.v w' v fs ∧ fs.map Im.s = d.dur ∧ (∀ p ∈ fs, RowB w' p.v p.s) ∧ Below w.heap.size w w' := by
  have c0 := h.c0
  have hsz := h.ok.size
  have HD := Lib.hid h
  clear h
  go_enter Tryd.func20, Tryd.ntmps20
  go_wp2_with fail
  go_loopw [11, 3] (fun i v wr => ∃ (k : Nat) (fs : List Im), k ≤ d.dur.length ∧ i = .int .i64 k ∧ OwnL 22 Im.v w.heap.size wr v fs ∧ Hid (fs.map Im.s = d.dur.take k) ∧ Ims wr v fs ∧ Below w.heap.size w wr) (fun i _ _ => d.dur.length - (Go.RowKit.intOf i).toNat)
  case atStart => exact ⟨0, [], Nat.zero_le _, rfl, OwnL.nil _ _, rfl, (fun p hp => by cases hp), Below.refl _ _⟩
  case round =>
    clear c0
    obtain ⟨k, fs, hk, rfl, ho, HF, hims, hb⟩ := hrel
    by_cases hlt : k < d.dur.length
    · obtain ⟨s, hds⟩ : ∃ s, d.dur[k]? = some s := ⟨_, List.getElem?_eq_getElem hlt⟩
      have hs : s.length = 64 := HD.out.ok.len _ (List.mem_of_getElem? hds)
      have hr1 := (HD.out.stays hb).range hds
      have HS := Lib.hid hs
      have HDS := Lib.hid hds
      have hfl : fs.length = k := by have := congrArg List.length HF.out; simp at this; omega
      have HFL := Lib.hid hfl
      have hvlt : ∀ q, u3.ownBlock = some q → q < wr.heap.size := fun q hq => (World.ownsRow.lt ho q hq).2
      have HVL := Lib.hid hvlt
      have HO := Lib.hid ho
      have HIM := Lib.hid hims
      have HB := Lib.hid hb
      clear hds hs hfl hvlt ho hims hb
      go_wp2_with (first
        | (refine wpList_load_mid rfl 63 _ rfl gd (k * 64) (by rfl) (secC s) _ hr1 Tryd.underlying63 rfl (by rw [secC_len, HS.out]; exact sizeSec) ?_)
        | (refine wpList_allocSec rfl 5 rfl rfl ?_; intro w1 hc1 hb1 hs1)
        | (refine wpList_storeSec rfl _ _ rfl wr.heap.size (by rfl) s (by rfl) HS.out _ secZ hc1 secZ_size ?_; intro w2 hc2 hg2))
      have hbe2 := hb1.grown hg2 hb1.size (fun k hk => by cases hk; exact Nat.le_refl _)
      have HC := Lib.hid (clone_any _ s w2 (row_sec hc2 HS.out) (by rw [HS.out]; decide))
      refine HC.out.mono ?_
      rintro e w3 ⟨v', rfl, ho3, hb3⟩
      have hbe3 := hbe2.trans (hb3.mono hbe2.size)
      obtain ⟨va, vc, rfl, -, -⟩ := ho3.row.gen.shape
      have hi3 := HIM.out.stays hbe3
      have hoS := HO.out.stays hbe3
      have hlen : fs.length ≤ 100000000 := by have := HFL.out; omega
      have hszb : w.heap.size ≤ w3.heap.size := Nat.le_trans HB.out.size hbe3.size
      have h3lt : ∀ q, (Value.slice va s.length vc).ownBlock = some q → q < w3.heap.size ∧ wr.heap.size ≤ q := fun q hq => by
        have h1 := World.ownsRow.lt ho3 q hq
        have := hbe2.size
        exact ⟨h1.2, by omega⟩
      have H3 := Lib.hid h3lt
      have HR3 := Lib.hid ho3.row
      have HI3 := Lib.hid hi3
      have HB3 := Lib.hid hbe3
      clear hbe2 hg2 hb1 hs1 hc1 hc2 HC ho3 hb3 hi3 hbe3 h3lt
      go_wp2_with (at_builtin; go_must (refine wpList_pushL (fun _ => rfl) Tryd.underlying52 infoBs rfl (by decide) hoS ⟨va, s.length, vc, s⟩ hlen hszb rfl _ _ rfl (by rfl) _ _ _ (by rfl) (by rfl) ?_))
      intro v9 w9 o9 g9 n9
      have hb9 := below_own (HB.out.trans (HB3.out.mono HB.out.size)) hoS g9 hszb
      have hi9 : Ims w9 v9 (fs ++ [⟨va, s.length, vc, s⟩]) := by
        intro p hp
        rcases List.mem_append.1 hp with hp | hp
        · exact HI3.out.grown g9 n9 p hp
        · obtain rfl := List.mem_singleton.1 hp
          refine ⟨rowB_keep HR3.out g9 (fun k hk e => ?_), fun q hq => ⟨?_, fun e => ?_⟩⟩
          · have h1 := (H3.out k e).2
            have h2 := HVL.out k hk
            omega
          · exact Nat.lt_of_lt_of_le (H3.out q hq).1 g9.size
          · have h1 := H3.out q hq
            rcases n9 q e with h2 | h2
            · have := HVL.out q h2; omega
            · omega
      clear g9 n9 hoS
      go_wp2_with fail
      go_roundw
      case rel => exact ⟨k + 1, _, by omega, by go_num, o9, by show _ = _; rw [List.map_append, HF.out, List.take_add_one, HDS.out]; rfl, hi9, hb9⟩
      case measure => simp [Go.RowKit.intOf]; omega
    · obtain rfl : k = d.dur.length := by omega
      go_wp2_with fail
      go_ret
      exact ⟨_, fs, rfl, ho.row, by rw [HF.out, List.take_length], fun p hp => (hims p hp).1, hb⟩
end Go.Proofs.YtalebgnnlgcglaaDoor
