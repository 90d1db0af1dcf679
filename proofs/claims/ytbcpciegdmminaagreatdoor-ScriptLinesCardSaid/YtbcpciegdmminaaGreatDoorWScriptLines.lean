/- The walk of ScriptLines: which acts are right, their lines, which ones are the same, and the kinds' words. -/
import Derived.Test.YtbcpciegdmminaaGreatDoorSrG
import Derived.Test.YtbcpciegdmminaaGreatDoorScAo
import Derived.Deep.Quiet
import Derived.Deep.RegionHeld3
namespace Go.Proofs.YtbcpciegdmminaaGreatDoor
open Go Go.RowKit
set_option linter.unusedVariables false
theorem CellsAt.newL {w : World} {b : Nat} {cs : Array Value} {T : TypeId} (h : b = w.heap.size) : CellsAt (w.alloc (.cells cs T)) b T cs := by rw [h]; exact CellsAt.new w cs T
theorem CellsAt.allocL {w : World} {b : Nat} {cs : Array Value} {T : TypeId} {o : Obj} (h : CellsAt w b T cs) : CellsAt (w.alloc o) b T cs := h.stays ((Below.refl _ _).alloc (Nat.le_refl _) o)
theorem CellsAt.drewL {w : World} {b : Nat} {cs : Array Value} {T : TypeId} (h : CellsAt w b T cs) : CellsAt w.drew b T cs := h
theorem CellsAt.set8 {w : World} {g : Nat} {T : TypeId} {c0 c1 c2 c3 c4 c5 c6 c7 v0 v1 v2 v3 v4 v5 v6 v7 : Value} (h : CellsAt w g T #[c0, c1, c2, c3, c4, c5, c6, c7]) :
    CellsAt ((((((((w.setCell ⟨g, 0, none⟩ v0).setCell ⟨g, 1, none⟩ v1).setCell ⟨g, 2, none⟩ v2).setCell ⟨g, 3, none⟩ v3).setCell ⟨g, 4, none⟩ v4).setCell ⟨g, 5, none⟩ v5).setCell ⟨g, 6, none⟩ v6).setCell ⟨g, 7, none⟩ v7) g T #[v0, v1, v2, v3, v4, v5, v6, v7] := by
  have h0 := h.set 0 v0
  have h1 := h0.set 1 v1
  have h2 := h1.set 2 v2
  have h3 := h2.set 3 v3
  have h4 := h3.set 4 v4
  have h5 := h4.set 5 v5
  have h6 := h5.set 6 v6
  have h7 := h6.set 7 v7
  simpa using h7
theorem CellsAt.other8 {w : World} {g g' : Nat} {T : TypeId} {cs : Array Value} {v0 v1 v2 v3 v4 v5 v6 v7 : Value} (h : CellsAt w g T cs) (hne : g ≠ g') :
    CellsAt ((((((((w.setCell ⟨g', 0, none⟩ v0).setCell ⟨g', 1, none⟩ v1).setCell ⟨g', 2, none⟩ v2).setCell ⟨g', 3, none⟩ v3).setCell ⟨g', 4, none⟩ v4).setCell ⟨g', 5, none⟩ v5).setCell ⟨g', 6, none⟩ v6).setCell ⟨g', 7, none⟩ v7) g T cs :=
  h.grown (grown_set8 (W := w) (g := g') v0 v1 v2 v3 v4 v5 v6 v7) (fun e => hne (Option.some.inj e).symm)
/-- an act's rows; the torn ones in blocks of S, the others in blocks below B -/
def RAx (B : Nat) (S : Nat → Prop) (w : World) (vk vt : Value) (keep : List Int) (torn : List (Int × Bs)) : Prop := RActI w vk vt keep torn ∧ (∀ q, vk.ownBlock = some q → keep ≠ [] → q < B) ∧ ∀ q, vt.ownBlock = some q → S q
theorem RAx.stays {B : Nat} {S : Nat → Prop} {w w' : World} {vk vt : Value} {keep : List Int} {torn : List (Int × Bs)} (h : RAx B S w vk vt keep torn) (hb : Below w.heap.size w w') : RAx B S w' vk vt keep torn := ⟨h.1.stays hb, h.2⟩
theorem RAx.allocL {B : Nat} {S : Nat → Prop} {w : World} {vk vt : Value} {keep : List Int} {torn : List (Int × Bs)} {o : Obj} (h : RAx B S w vk vt keep torn) : RAx B S (w.alloc o) vk vt keep torn := h.stays ((Below.refl _ _).alloc (Nat.le_refl _) o)
theorem RAx.drewL {B : Nat} {S : Nat → Prop} {w : World} {vk vt : Value} {keep : List Int} {torn : List (Int × Bs)} (h : RAx B S w vk vt keep torn) : RAx B S w.drew vk vt keep torn := h.stays (Below.refl _ _).drew
theorem RAx.set8 {B : Nat} {S : Nat → Prop} {w : World} {vk vt : Value} {keep : List Int} {torn : List (Int × Bs)} {b : Nat} {v0 v1 v2 v3 v4 v5 v6 v7 : Value} (h : RAx B S w vk vt keep torn) (hB : B ≤ b) (hb : ∀ k, S k → k ≠ b) :
    RAx B S ((((((((w.setCell ⟨b, 0, none⟩ v0).setCell ⟨b, 1, none⟩ v1).setCell ⟨b, 2, none⟩ v2).setCell ⟨b, 3, none⟩ v3).setCell ⟨b, 4, none⟩ v4).setCell ⟨b, 5, none⟩ v5).setCell ⟨b, 6, none⟩ v6).setCell ⟨b, 7, none⟩ v7) vk vt keep torn := by
  have hg := Grew.ofGrown (grown_set8 (W := w) (g := b) v0 v1 v2 v3 v4 v5 v6 v7)
  refine ⟨⟨?_, hg.row h.1.2 (fun k hk hm => hb k (h.2.2 k hk) (by simpa using hm))⟩, h.2⟩
  by_cases hk : keep = []
  · have h1 := h.1.1
    subst hk
    rcases h1 with h1 | ⟨_, _, _, h2, h3, _⟩
    · exact .inl h1
    · exact .inl ⟨rfl, rfl, _, _, h2⟩
  · exact hg.row h.1.1 (fun k hq hm => by have h1 := h.2.1 k hq hk; have h2 : k = b := (by simpa using hm); omega)
theorem below_set8 {B : Nat} {w W : World} {b : Nat} {v0 v1 v2 v3 v4 v5 v6 v7 : Value} (h : Below B w W) (hb : B ≤ b) :
    Below B w ((((((((W.setCell ⟨b, 0, none⟩ v0).setCell ⟨b, 1, none⟩ v1).setCell ⟨b, 2, none⟩ v2).setCell ⟨b, 3, none⟩ v3).setCell ⟨b, 4, none⟩ v4).setCell ⟨b, 5, none⟩ v5).setCell ⟨b, 6, none⟩ v6).setCell ⟨b, 7, none⟩ v7) :=
  (((((((h.setCell hb _).setCell hb _).setCell hb _).setCell hb _).setCell hb _).setCell hb _).setCell hb _).setCell hb _
theorem below_callL {w W w5 : World} (hb5 : Below W.heap.size W w5) (h : Below w.heap.size w W) : Below w.heap.size w w5 := h.trans (hb5.mono h.size)
theorem below_alS {W1 W : World} (h : Below W1.heap.size W1 W) (o : Obj) : Below W1.heap.size W1 (W.alloc o) := h.alloc h.size o
theorem rowL_lt {w : World} {v : Value} {xs : List Int} (h : RowL IV w v xs) (hx : xs ≠ []) : ∀ q, v.ownBlock = some q → q < w.heap.size := fun q hq => by
  rcases h with ⟨h1, h2, _⟩ | ⟨b, o, c, rfl, hl, _⟩
  · exact absurd (by simpa using h2) hx
  · have : b = q := by simpa [Value.ownBlock] using hq
    omega
theorem RAx.proj {B : Nat} {S : Nat → Prop} {w : World} {vk vt : Value} {keep : List Int} {torn : List (Int × Bs)} (h : RAx B S w vk vt keep torn) : RActI w vk vt keep torn := h.1
set_option maxRecDepth 100000 in
set_option maxHeartbeats 16000000 in
theorem walkScriptLines (w : World) (k a b c n : Int) (vb vk vt : Value) (bs : Bs) (keep : List Int) (torn : List (Int × Bs)) (hA : ActI w vb vk vt bs keep torn) (k₂ a₂ b₂ c₂ n₂ : Int) (vb₂ vk₂ vt₂ : Value) (bs₂ : Bs) (keep₂ : List Int) (torn₂ : List (Int × Bs)) (hA₂ : ActI w vb₂ vk₂ vt₂ bs₂ keep₂ torn₂) (kind : Int) (hkd : -9223372036854775808 ≤ kind ∧ kind ≤ 9223372036854775807) {aS aR aF : Addr} (hV : VarsP aS aR aF w) (hP : PowAt w) :
    Calls Tryz.prog 3 #[.agg (acCells k a b c n vb vk vt), .agg (acCells k₂ a₂ b₂ c₂ n₂ vb₂ vk₂ vt₂), .int .i64 kind] w fun e w' => e = .returned (.bool true) ∧ Below w.heap.size w w' := by
  obtain ⟨q1, q2, acc, q3, q4, q5⟩ := hA
  obtain ⟨ab, cb, rfl, -, -⟩ := q1.gen.shape
  obtain ⟨ak, ck, rfl, -, -⟩ := q2.shape
  obtain ⟨at', ct, rfl, -, -⟩ := q3.shape tqC_len
  have hA : ActI w (.slice ab bs.length cb) (.slice ak keep.length ck) (.slice at' acc.length ct) bs keep torn := ⟨q1, q2, acc, q3, q4, q5⟩
  have HQ := Lib.hid (rowL_lt q2)
  clear q1 q2 q3 q4 q5
  obtain ⟨q1, q2, acc₂, q3, q4, q5⟩ := hA₂
  obtain ⟨ab₂, cb₂, rfl, -, -⟩ := q1.gen.shape
  obtain ⟨ak₂, ck₂, rfl, -, -⟩ := q2.shape
  obtain ⟨at₂', ct₂, rfl, -, -⟩ := q3.shape tqC_len
  have hA₂ : ActI w (.slice ab₂ bs₂.length cb₂) (.slice ak₂ keep₂.length ck₂) (.slice at₂' acc₂.length ct₂) bs₂ keep₂ torn₂ := ⟨q1, q2, acc₂, q3, q4, q5⟩
  have HQ₂ := Lib.hid (rowL_lt q2)
  clear q1 q2 q3 q4 q5
  obtain ⟨W0, hW0⟩ : ∃ W0, W0 = (w.alloc (.cells #[.int .i64 k, .int .i64 a, .int .i64 b, .int .i64 c, .int .i64 n, .slice ab bs.length cb, .slice ak keep.length ck, .slice at' acc.length ct] 26)).alloc (.cells #[.int .i64 k₂, .int .i64 a₂, .int .i64 b₂, .int .i64 c₂, .int .i64 n₂, .slice ab₂ bs₂.length cb₂, .slice ak₂ keep₂.length ck₂, .slice at₂' acc₂.length ct₂] 26) := ⟨_, rfl⟩
  obtain ⟨g, hg⟩ : ∃ g, g = w.heap.size := ⟨_, rfl⟩
  have HBA : Hid (Below w.heap.size w W0) := by rw [hW0]; exact ((Below.refl _ _).alloc (Nat.le_refl _) _).alloc (by simp) _
  have hcx : CellsAt W0 g 26 #[.int .i64 k, .int .i64 a, .int .i64 b, .int .i64 c, .int .i64 n, .slice ab bs.length cb, .slice ak keep.length ck, .slice at' acc.length ct] := by rw [hW0, hg]; exact (CellsAt.new w _ _).stays ((Below.refl _ _).alloc (Nat.le_refl _) _)
  have hcy : CellsAt W0 (g + 1) 26 #[.int .i64 k₂, .int .i64 a₂, .int .i64 b₂, .int .i64 c₂, .int .i64 n₂, .slice ab₂ bs₂.length cb₂, .slice ak₂ keep₂.length ck₂, .slice at₂' acc₂.length ct₂] := by
    have := CellsAt.new (w.alloc (.cells #[.int .i64 k, .int .i64 a, .int .i64 b, .int .i64 c, .int .i64 n, .slice ab bs.length cb, .slice ak keep.length ck, .slice at' acc.length ct] 26)) #[.int .i64 k₂, .int .i64 a₂, .int .i64 b₂, .int .i64 c₂, .int .i64 n₂, .slice ab₂ bs₂.length cb₂, .slice ak₂ keep₂.length ck₂, .slice at₂' acc₂.length ct₂] 26
    rw [show (w.alloc (.cells #[.int .i64 k, .int .i64 a, .int .i64 b, .int .i64 c, .int .i64 n, .slice ab bs.length cb, .slice ak keep.length ck, .slice at' acc.length ct] 26)).heap.size = w.heap.size + 1 by simp] at this
    rw [hW0, hg]; exact this
  have HS : Hid (∀ W, Below W0.heap.size W0 W → Below W0.heap.size W0 W ∧ W.cell? ⟨g, 0, none⟩ = some (.int .i64 k) ∧ W.cell? ⟨g, 1, none⟩ = some (.int .i64 a) ∧ W.cell? ⟨g, 2, none⟩ = some (.int .i64 b) ∧ W.cell? ⟨g, 3, none⟩ = some (.int .i64 c) ∧ W.cell? ⟨g, 4, none⟩ = some (.int .i64 n) ∧ W.cell? ⟨g, 5, none⟩ = some (.slice ab bs.length cb) ∧ W.cell? ⟨g, 6, none⟩ = some (.slice ak keep.length ck) ∧ W.cell? ⟨g, 7, none⟩ = some (.slice at' acc.length ct) ∧ W.cell? ⟨g + 1, 0, none⟩ = some (.int .i64 k₂) ∧ W.cell? ⟨g + 1, 1, none⟩ = some (.int .i64 a₂) ∧ W.cell? ⟨g + 1, 2, none⟩ = some (.int .i64 b₂) ∧ W.cell? ⟨g + 1, 3, none⟩ = some (.int .i64 c₂) ∧ W.cell? ⟨g + 1, 4, none⟩ = some (.int .i64 n₂) ∧ W.cell? ⟨g + 1, 5, none⟩ = some (.slice ab₂ bs₂.length cb₂) ∧ W.cell? ⟨g + 1, 6, none⟩ = some (.slice ak₂ keep₂.length ck₂) ∧ W.cell? ⟨g + 1, 7, none⟩ = some (.slice at₂' acc₂.length ct₂)) := fun W hb => by
    have h1 := hcx.stays hb
    have h2 := hcy.stays hb
    exact ⟨hb, h1.cell 0 rfl, h1.cell 1 rfl, h1.cell 2 rfl, h1.cell 3 rfl, h1.cell 4 rfl, h1.cell 5 rfl, h1.cell 6 rfl, h1.cell 7 rfl, h2.cell 0 rfl, h2.cell 1 rfl, h2.cell 2 rfl, h2.cell 3 rfl, h2.cell 4 rfl, h2.cell 5 rfl, h2.cell 6 rfl, h2.cell 7 rfl⟩
  have HA : Hid (∀ W, Below W0.heap.size W0 W → ActI W (.slice ab bs.length cb) (.slice ak keep.length ck) (.slice at' acc.length ct) bs keep torn) := fun W hb => hA.stays (HBA.out.trans (hb.mono HBA.out.size))
  have HB : Hid (∀ W, Below W0.heap.size W0 W → ActI W (.slice ab₂ bs₂.length cb₂) (.slice ak₂ keep₂.length ck₂) (.slice at₂' acc₂.length ct₂) bs₂ keep₂ torn₂) := fun W hb => hA₂.stays (HBA.out.trans (hb.mono HBA.out.size))
  have HF : Hid (∀ W, Below W0.heap.size W0 W → Below w.heap.size w W) := fun W hb => HBA.out.trans (hb.mono HBA.out.size)
  have HVV : Hid (∀ W, Below W0.heap.size W0 W → VarsP aS aR aF W ∧ PowAt W) := fun W h => ⟨(hV.stays HBA.out).stays h, (hP.stays HBA.out).stays h⟩
  have HQA : Hid (∀ q, (Value.slice ak keep.length ck).ownBlock = some q → keep ≠ [] → q < W0.heap.size) := fun q h1 h2 => Nat.lt_of_lt_of_le (HQ.out h2 q h1) HBA.out.size
  have HQB : Hid (∀ q, (Value.slice ak₂ keep₂.length ck₂).ownBlock = some q → keep₂ ≠ [] → q < W0.heap.size) := fun q h1 h2 => Nat.lt_of_lt_of_le (HQ₂.out h2 q h1) HBA.out.size
  have HAL := Lib.hid (alive39 (HVV.out W0 (Below.refl _ _)).1 (HVV.out W0 (Below.refl _ _)).2)
  have HW := Lib.hid hW0
  have HG := Lib.hid hg
  clear hA hA₂ hcx hcy hW0 hg HBA hV hP HQ HQ₂
  unfold acCells
  go_enter Tryz.func3, Tryz.ntmps3
  go_upto_region 1 with fail
  have hW0 := HW.out
  have hg := HG.out
  rw [← hW0, ← hg]
  clear hW0 hg HW HG
  go_wp2_with fail
  refine HAL.out.mono ?_
  rintro e w1 ⟨rfl, hb1⟩
  obtain ⟨-, x0, x1, x2, x3, x4, x5, x6, x7, y0, y1, y2, y3, y4, y5, y6, y7⟩ := HS.out w1 hb1
  have HLO := Lib.hid (long_any (k := k) (a := a) (b := b) (c := c) (n := n) (HA.out w1 hb1))
  unfold acCells at HLO
  have HB1 := Lib.hid hb1
  clear HAL hb1
  cases hlo : longA bs keep torn with
  | true =>
    rw [hlo] at HLO
    go_wp2_with fail
    refine HLO.out.mono ?_
    rintro e w2 ⟨rfl, hb2⟩
    have HF2 := Lib.hid (HF.out w2 (HB1.out.trans (hb2.mono HB1.out.size)))
    clear HLO hb2
    go_wp2_with fail
    go_ret
    exact ⟨rfl, HF2.out⟩
  | false =>
    rw [hlo] at HLO
    go_wp2_with fail
    refine HLO.out.mono ?_
    rintro e w2 ⟨rfl, hb2⟩
    have hb2w := HB1.out.trans (hb2.mono HB1.out.size)
    have HLO2 := Lib.hid (long_any (k := k₂) (a := a₂) (b := b₂) (c := c₂) (n := n₂) (HB.out w2 hb2w))
    unfold acCells at HLO2
    have HB2 := Lib.hid hb2w
    clear HLO hb2 x0 y0 x1 y1 x2 y2 x3 y3 x4 y4 x5 y5 x6 y6 x7 y7
    obtain ⟨-, x0, x1, x2, x3, x4, x5, x6, x7, y0, y1, y2, y3, y4, y5, y6, y7⟩ := HS.out w2 hb2w
    clear hb2w
    cases hlo2 : longA bs₂ keep₂ torn₂ with
    | true =>
      rw [hlo2] at HLO2
      go_wp2_with fail
      refine HLO2.out.mono ?_
      rintro e w3 ⟨rfl, hb3⟩
      have HF2 := Lib.hid (HF.out w3 (HB2.out.trans (hb3.mono HB2.out.size)))
      clear HLO2 hb3
      go_wp2_with fail
      go_ret
      exact ⟨rfl, HF2.out⟩
    | false =>
      rw [hlo2] at HLO2
      obtain ⟨m1, m2, m3, m4⟩ := long_no hlo
      obtain ⟨n1, n2, n3, n4⟩ := long_no hlo2
      have HM : Hid (keep.length ≤ 2000000 ∧ torn.length ≤ 1000000 ∧ keep₂.length ≤ 2000000 ∧ torn₂.length ≤ 1000000) := ⟨by omega, by omega, by omega, by omega⟩
      clear m1 m2 m3 m4 n1 n2 n3 n4 hlo hlo2
      go_wp2_with fail
      refine HLO2.out.mono ?_
      rintro e w3 ⟨rfl, hb3⟩
      have hb3w := HB2.out.trans (hb3.mono HB2.out.size)
      have HB3 := Lib.hid hb3w
      clear HLO2 hb3 x0 y0 x1 y1 x2 y2 x3 y3 x4 y4 x5 y5 x6 y6 x7 y7
      obtain ⟨-, x0, x1, x2, x3, x4, x5, x6, x7, y0, y1, y2, y3, y4, y5, y6, y7⟩ := HS.out w3 hb3w
      clear hb3w
      have hd0 : Below w3.heap.size w3 w3 := Below.refl _ _
      have hd1 : Below w3.heap.size w3 w3.drew := hd0.drew
      have HOA : Hid (∀ W, Below w3.heap.size w3 W → Calls Tryz.prog 8 #[.agg #[.int .i64 k, .int .i64 a, .int .i64 b, .int .i64 c, .int .i64 n, .slice ab bs.length cb, .slice ak keep.length ck, .slice at' acc.length ct]] W fun e w' => ∃ (a5 : Option Addr) (N5 c5 : Nat), e = .returned (.agg #[.int .i64 k, .int .i64 a, .int .i64 b, .int .i64 c, .int .i64 n, .string (strB bs), .slice ak keep.length ck, .slice a5 N5 c5]) ∧ (∃ S : Nat → Prop, (∀ k, S k → W.heap.size ≤ k ∧ k < w'.heap.size) ∧ RAx w3.heap.size S w' (.slice ak keep.length ck) (.slice a5 N5 c5) keep torn) ∧ Below W.heap.size W w') := fun W hb => (of_any (HA.out W (HB3.out.trans (hb.mono HB3.out.size))) HM.out.2.1).mono fun e w' ⟨vt5, h1, h2, h3, h4⟩ => by
        obtain ⟨a5, c5, rfl, -, -⟩ := h2.2.shape rtC_len
        exact ⟨a5, _, c5, h1, ⟨_, h3, h2, fun q hq hne => Nat.lt_of_lt_of_le (HQA.out q hq hne) HB3.out.size, fun q hq => hq⟩, h4⟩
      have HOB : Hid (∀ W, Below w3.heap.size w3 W → Calls Tryz.prog 8 #[.agg #[.int .i64 k₂, .int .i64 a₂, .int .i64 b₂, .int .i64 c₂, .int .i64 n₂, .slice ab₂ bs₂.length cb₂, .slice ak₂ keep₂.length ck₂, .slice at₂' acc₂.length ct₂]] W fun e w' => ∃ (a7 : Option Addr) (N7 c7 : Nat), e = .returned (.agg #[.int .i64 k₂, .int .i64 a₂, .int .i64 b₂, .int .i64 c₂, .int .i64 n₂, .string (strB bs₂), .slice ak₂ keep₂.length ck₂, .slice a7 N7 c7]) ∧ (∃ S : Nat → Prop, (∀ k, S k → W.heap.size ≤ k ∧ k < w'.heap.size) ∧ RAx w3.heap.size S w' (.slice ak₂ keep₂.length ck₂) (.slice a7 N7 c7) keep₂ torn₂) ∧ Below W.heap.size W w') := fun W hb => (of_any (HB.out W (HB3.out.trans (hb.mono HB3.out.size))) HM.out.2.2.2).mono fun e w' ⟨vt5, h1, h2, h3, h4⟩ => by
        obtain ⟨a5, c5, rfl, -, -⟩ := h2.2.shape rtC_len
        exact ⟨a5, _, c5, h1, ⟨_, h3, h2, fun q hq hne => Nat.lt_of_lt_of_le (HQB.out q hq hne) HB3.out.size, fun q hq => hq⟩, h4⟩
      have HS3 : Hid (∀ W, Below w3.heap.size w3 W → Below w3.heap.size w3 W ∧ W.cell? ⟨g, 0, none⟩ = some (.int .i64 k) ∧ W.cell? ⟨g, 1, none⟩ = some (.int .i64 a) ∧ W.cell? ⟨g, 2, none⟩ = some (.int .i64 b) ∧ W.cell? ⟨g, 3, none⟩ = some (.int .i64 c) ∧ W.cell? ⟨g, 4, none⟩ = some (.int .i64 n) ∧ W.cell? ⟨g, 5, none⟩ = some (.slice ab bs.length cb) ∧ W.cell? ⟨g, 6, none⟩ = some (.slice ak keep.length ck) ∧ W.cell? ⟨g, 7, none⟩ = some (.slice at' acc.length ct) ∧ W.cell? ⟨g + 1, 0, none⟩ = some (.int .i64 k₂) ∧ W.cell? ⟨g + 1, 1, none⟩ = some (.int .i64 a₂) ∧ W.cell? ⟨g + 1, 2, none⟩ = some (.int .i64 b₂) ∧ W.cell? ⟨g + 1, 3, none⟩ = some (.int .i64 c₂) ∧ W.cell? ⟨g + 1, 4, none⟩ = some (.int .i64 n₂) ∧ W.cell? ⟨g + 1, 5, none⟩ = some (.slice ab₂ bs₂.length cb₂) ∧ W.cell? ⟨g + 1, 6, none⟩ = some (.slice ak₂ keep₂.length ck₂) ∧ W.cell? ⟨g + 1, 7, none⟩ = some (.slice at₂' acc₂.length ct₂)) := fun W hb => ⟨hb, (HS.out W (HB3.out.trans (hb.mono HB3.out.size))).2⟩
      go_upto_region 5 with fail
      go_cut [7, 8] from 20 to 23 (fun p5 p6 wx => ∃ (b5 b6 : Nat) (a5 : Option Addr) (N5 c5 : Nat) (a7 : Option Addr) (N7 c7 : Nat), p5 = .pointer (some ⟨b5, 0, none⟩) ∧ p6 = .pointer (some ⟨b6, 0, none⟩) ∧ CellsAt wx b5 31 #[.int .i64 k, .int .i64 a, .int .i64 b, .int .i64 c, .int .i64 n, .string (strB bs), .slice ak keep.length ck, .slice a5 N5 c5] ∧ CellsAt wx b6 31 #[.int .i64 k₂, .int .i64 a₂, .int .i64 b₂, .int .i64 c₂, .int .i64 n₂, .string (strB bs₂), .slice ak₂ keep₂.length ck₂, .slice a7 N7 c7] ∧
        (RActI wx (.slice ak keep.length ck) (.slice a5 N5 c5) keep torn ∧ RActI wx (.slice ak₂ keep₂.length ck₂) (.slice a7 N7 c7) keep₂ torn₂) ∧ Below w3.heap.size w3 wx)
      case first =>
        go_region_held3 (fun W => Below w3.heap.size w3 W ∧ W.cell? ⟨g, 0, none⟩ = some (.int .i64 k) ∧ W.cell? ⟨g, 1, none⟩ = some (.int .i64 a) ∧ W.cell? ⟨g, 2, none⟩ = some (.int .i64 b) ∧ W.cell? ⟨g, 3, none⟩ = some (.int .i64 c) ∧ W.cell? ⟨g, 4, none⟩ = some (.int .i64 n) ∧ W.cell? ⟨g, 5, none⟩ = some (.slice ab bs.length cb) ∧ W.cell? ⟨g, 6, none⟩ = some (.slice ak keep.length ck) ∧ W.cell? ⟨g, 7, none⟩ = some (.slice at' acc.length ct) ∧ W.cell? ⟨g + 1, 0, none⟩ = some (.int .i64 k₂) ∧ W.cell? ⟨g + 1, 1, none⟩ = some (.int .i64 a₂) ∧ W.cell? ⟨g + 1, 2, none⟩ = some (.int .i64 b₂) ∧ W.cell? ⟨g + 1, 3, none⟩ = some (.int .i64 c₂) ∧ W.cell? ⟨g + 1, 4, none⟩ = some (.int .i64 n₂) ∧ W.cell? ⟨g + 1, 5, none⟩ = some (.slice ab₂ bs₂.length cb₂) ∧ W.cell? ⟨g + 1, 6, none⟩ = some (.slice ak₂ keep₂.length ck₂) ∧ W.cell? ⟨g + 1, 7, none⟩ = some (.slice at₂' acc₂.length ct₂))
          (exact HS3.out _ (by (repeat (first | (with_reducible assumption) | (with_reducible refine Below.setCell ?_ (by first | exact Nat.le_refl _ | (simp; done) | (simp; omega)) _) | (with_reducible refine below_alS ?_ _) | (with_reducible refine Below.drew ?_) | (with_reducible exact Below.refl _ _)))))
          ((first
            | (go_at_call 8; (with_reducible refine (HOA.out _ (by (repeat (first | (with_reducible assumption) | (with_reducible refine Below.setCell ?_ (by first | exact Nat.le_refl _ | (simp; done) | (simp; omega)) _) | (with_reducible refine below_alS ?_ _) | (with_reducible refine Below.drew ?_) | (with_reducible exact Below.refl _ _))))).mono ?_); rintro e w5 ⟨a5, N5, c5, rfl, ⟨S5, hS5, hr5⟩, hb5⟩; have hb6 : Below w3.heap.size w3 w5 := below_callL hb5 (by (repeat (first | (with_reducible assumption) | (with_reducible refine Below.setCell ?_ (by first | exact Nat.le_refl _ | (simp; done) | (simp; omega)) _) | (with_reducible refine below_alS ?_ _) | (with_reducible refine Below.drew ?_) | (with_reducible exact Below.refl _ _)))); have hs5 := hb5.size; (try simp at hs5); (try have l51 : w3.heap.size < w5.heap.size := by omega); (try have l52 : w3.heap.size + 1 < w5.heap.size := by omega); have hs6 := hb6.size; have cc5 := fun (b o : Nat) h => hb5.cell (p := ⟨b, o, none⟩) h; have ff5 := fun (b o : Nat) h => hb5.frozen (p := ⟨b, o, none⟩) h; (try simp only at cc5); (try simp only at ff5))
            | (go_at_call 8; (with_reducible refine (HOB.out _ (by (repeat (first | (with_reducible assumption) | (with_reducible refine Below.setCell ?_ (by first | exact Nat.le_refl _ | (simp; done) | (simp; omega)) _) | (with_reducible refine below_alS ?_ _) | (with_reducible refine Below.drew ?_) | (with_reducible exact Below.refl _ _))))).mono ?_); rintro e w7 ⟨a7, N7, c7, rfl, ⟨S7, hS7, hr7⟩, hb7⟩; have hb8 : Below w3.heap.size w3 w7 := below_callL hb7 (by (repeat (first | (with_reducible assumption) | (with_reducible refine Below.setCell ?_ (by first | exact Nat.le_refl _ | (simp; done) | (simp; omega)) _) | (with_reducible refine below_alS ?_ _) | (with_reducible refine Below.drew ?_) | (with_reducible exact Below.refl _ _)))); have hs7 := hb7.size; (try simp at hs7); (try have l71 : w3.heap.size < w7.heap.size := by omega); (try have l72 : w3.heap.size + 1 < w7.heap.size := by omega); (try have l73 : w5.heap.size < w7.heap.size := by omega); (try have l74 : w5.heap.size + 1 < w7.heap.size := by omega); have hs8 := hb8.size; have cc7 := fun (b o : Nat) h => hb7.cell (p := ⟨b, o, none⟩) h; have ff7 := fun (b o : Nat) h => hb7.frozen (p := ⟨b, o, none⟩) h; (try simp only at cc7); (try simp only at ff7))))
        all_goals go_wp2_with fail
        all_goals go_meet
        all_goals refine ⟨_, _, a5, N5, c5, a7, N7, c7, rfl, rfl, ?_, ?_, ⟨?_, ?_⟩, ?_⟩
        all_goals rename_i hHH
        all_goals clear hHH HOA HOB HS3 HA HB HF HS HM HB3 x0 y0 x1 y1 x2 y2 x3 y3 x4 y4 x5 y5 x6 y6 x7 y7 cc5 ff5 cc7 ff7
        iterate 12
         ((focus ((repeat (first
            | (with_reducible refine CellsAt.set8 (c0 := .int .i64 0) (c1 := .int .i64 0) (c2 := .int .i64 0) (c3 := .int .i64 0) (c4 := .int .i64 0) (c5 := .string ⟨#[]⟩) (c6 := .slice none 0 0) (c7 := .slice none 0 0) ?_)
            | (with_reducible refine CellsAt.other8 ?_ ?_; rotate_left; focus omega)
            | (with_reducible refine CellsAt.newL ?_; focus (first | (with_reducible rfl) | (simp; done)))
            | (with_reducible refine CellsAt.allocL ?_)
            | (with_reducible refine CellsAt.drewL ?_)
            | (with_reducible refine CellsAt.stays ?_ hb7)
            | (with_reducible refine CellsAt.stays ?_ hb5))); done))
          (focus ((repeat (first
            | (with_reducible refine CellsAt.set8 (c0 := .int .i64 0) (c1 := .int .i64 0) (c2 := .int .i64 0) (c3 := .int .i64 0) (c4 := .int .i64 0) (c5 := .string ⟨#[]⟩) (c6 := .slice none 0 0) (c7 := .slice none 0 0) ?_)
            | (with_reducible refine CellsAt.other8 ?_ ?_; rotate_left; focus omega)
            | (with_reducible refine CellsAt.newL ?_; focus (first | (with_reducible rfl) | (simp; done)))
            | (with_reducible refine CellsAt.allocL ?_)
            | (with_reducible refine CellsAt.drewL ?_)
            | (with_reducible refine CellsAt.stays ?_ hb7)
            | (with_reducible refine CellsAt.stays ?_ hb5))); done))
          (focus (refine RAx.proj (B := w3.heap.size) (S := S5) ?_; (repeat (first
            | (with_reducible exact hr5)
            | (with_reducible refine RAx.set8 ?_ ?_ ?_; rotate_left; (focus (first | exact Nat.le_refl _ | (simp; done) | omega)); (focus (intro k hk; have := hS5 k hk; (try simp at this); omega)))
            | (with_reducible refine RAx.allocL ?_)
            | (with_reducible refine RAx.drewL ?_)
            | (with_reducible refine RAx.stays ?_ hb7))); done))
          (focus (refine RAx.proj (B := w3.heap.size) (S := S7) ?_; (repeat (first
            | (with_reducible exact hr7)
            | (with_reducible refine RAx.set8 ?_ ?_ ?_; rotate_left; (focus (first | exact Nat.le_refl _ | (simp; done) | omega)); (focus (intro k hk; have := hS7 k hk; (try simp at this); omega)))
            | (with_reducible refine RAx.allocL ?_)
            | (with_reducible refine RAx.drewL ?_)
            | (with_reducible refine RAx.stays ?_ hb7))); done))
          (focus ((repeat (first
            | (with_reducible assumption)
            | (with_reducible refine below_set8 ?_ ?_; rotate_left; focus (first | exact Nat.le_refl _ | omega))
            | (with_reducible refine below_alS ?_ _)
            | (with_reducible refine Below.drew ?_)
            | (with_reducible exact Below.refl _ _))); done)))
      case rest =>
        obtain ⟨b5, b6, a5, N5, c5, a7, N7, c7, rfl, rfl, hc5, hc6, ⟨hr5, hr6⟩, hbc⟩ := hcut
        obtain ⟨wd, rfl⟩ : ∃ wd : World, wd = wc := ⟨_, rfl⟩
        have hBW : Below W0.heap.size W0 wd := HB3.out.trans (hbc.mono HB3.out.size)
        have HS6 : Hid (∀ W, Below wd.heap.size wd W → W.cell? ⟨g, 0, none⟩ = some (.int .i64 k) ∧ W.cell? ⟨g, 1, none⟩ = some (.int .i64 a) ∧ W.cell? ⟨g, 2, none⟩ = some (.int .i64 b) ∧ W.cell? ⟨g, 3, none⟩ = some (.int .i64 c) ∧ W.cell? ⟨g, 4, none⟩ = some (.int .i64 n) ∧ W.cell? ⟨g, 5, none⟩ = some (.slice ab bs.length cb) ∧ W.cell? ⟨g, 6, none⟩ = some (.slice ak keep.length ck) ∧ W.cell? ⟨g, 7, none⟩ = some (.slice at' acc.length ct) ∧ W.cell? ⟨g + 1, 0, none⟩ = some (.int .i64 k₂) ∧ W.cell? ⟨g + 1, 1, none⟩ = some (.int .i64 a₂) ∧ W.cell? ⟨g + 1, 2, none⟩ = some (.int .i64 b₂) ∧ W.cell? ⟨g + 1, 3, none⟩ = some (.int .i64 c₂) ∧ W.cell? ⟨g + 1, 4, none⟩ = some (.int .i64 n₂) ∧ W.cell? ⟨g + 1, 5, none⟩ = some (.slice ab₂ bs₂.length cb₂) ∧ W.cell? ⟨g + 1, 6, none⟩ = some (.slice ak₂ keep₂.length ck₂) ∧ W.cell? ⟨g + 1, 7, none⟩ = some (.slice at₂' acc₂.length ct₂) ∧ W.cell? ⟨b5, 0, none⟩ = some (.int .i64 k) ∧ W.cell? ⟨b5, 1, none⟩ = some (.int .i64 a) ∧ W.cell? ⟨b5, 2, none⟩ = some (.int .i64 b) ∧ W.cell? ⟨b5, 3, none⟩ = some (.int .i64 c) ∧ W.cell? ⟨b5, 4, none⟩ = some (.int .i64 n) ∧ W.cell? ⟨b5, 5, none⟩ = some (.string (strB bs)) ∧ W.cell? ⟨b5, 6, none⟩ = some (.slice ak keep.length ck) ∧ W.cell? ⟨b5, 7, none⟩ = some (.slice a5 N5 c5) ∧ W.cell? ⟨b6, 0, none⟩ = some (.int .i64 k₂) ∧ W.cell? ⟨b6, 1, none⟩ = some (.int .i64 a₂) ∧ W.cell? ⟨b6, 2, none⟩ = some (.int .i64 b₂) ∧ W.cell? ⟨b6, 3, none⟩ = some (.int .i64 c₂) ∧ W.cell? ⟨b6, 4, none⟩ = some (.int .i64 n₂) ∧ W.cell? ⟨b6, 5, none⟩ = some (.string (strB bs₂)) ∧ W.cell? ⟨b6, 6, none⟩ = some (.slice ak₂ keep₂.length ck₂) ∧ W.cell? ⟨b6, 7, none⟩ = some (.slice a7 N7 c7)) := fun W hb => by
          obtain ⟨-, p0, p1, p2, p3, p4, p5, p6, p7, q0, q1, q2, q3, q4, q5, q6, q7⟩ := HS.out W (hBW.trans (hb.mono hBW.size))
          have h1 := hc5.stays hb
          have h2 := hc6.stays hb
          exact ⟨p0, p1, p2, p3, p4, p5, p6, p7, q0, q1, q2, q3, q4, q5, q6, q7, h1.cell 0 rfl, h1.cell 1 rfl, h1.cell 2 rfl, h1.cell 3 rfl, h1.cell 4 rfl, h1.cell 5 rfl, h1.cell 6 rfl, h1.cell 7 rfl, h2.cell 0 rfl, h2.cell 1 rfl, h2.cell 2 rfl, h2.cell 3 rfl, h2.cell 4 rfl, h2.cell 5 rfl, h2.cell 6 rfl, h2.cell 7 rfl⟩
        have HAW : Hid (∀ W, Below wd.heap.size wd W → ActI W (.slice ab bs.length cb) (.slice ak keep.length ck) (.slice at' acc.length ct) bs keep torn) := fun W hb => HA.out W (hBW.trans (hb.mono hBW.size))
        have HBW : Hid (∀ W, Below wd.heap.size wd W → ActI W (.slice ab₂ bs₂.length cb₂) (.slice ak₂ keep₂.length ck₂) (.slice at₂' acc₂.length ct₂) bs₂ keep₂ torn₂) := fun W hb => HB.out W (hBW.trans (hb.mono hBW.size))
        have HVW : Hid (∀ W, Below wd.heap.size wd W → VarsP aS aR aF W ∧ PowAt W) := fun W hb => HVV.out W (hBW.trans (hb.mono hBW.size))
        have HFW : Hid (∀ W, Below wd.heap.size wd W → Below w.heap.size w W) := fun W hb => HF.out W (hBW.trans (hb.mono hBW.size))
        have hml := HM.out
        have H1 : Hid (∀ W, Below wd.heap.size wd W → Calls Tryz.prog 12 #[.agg #[.int .i64 k, .int .i64 a, .int .i64 b, .int .i64 c, .int .i64 n, .slice ab bs.length cb, .slice ak keep.length ck, .slice at' acc.length ct]] W fun e w' => e = .returned (.bool (rightA ⟨k, a, b, c, n, bs, keep, torn⟩)) ∧ Below W.heap.size W w') := fun W hb => right_any (HVW.out W hb).1.words (by omega) (by omega) (HAW.out W hb)
        have H2 : Hid (∀ W, Below wd.heap.size wd W → Calls Tryz.prog 13 #[.agg #[.int .i64 k, .int .i64 a, .int .i64 b, .int .i64 c, .int .i64 n, .slice ab bs.length cb, .slice ak keep.length ck, .slice at' acc.length ct]] W fun e w' => e = .returned (.string (strB (lineR ⟨k, a, b, c, n, bs, keep, torn⟩))) ∧ Below W.heap.size W w') := fun W hb => line_any (HVW.out W hb).2 (HVW.out W hb).1.words (by omega) (by omega) (HAW.out W hb)
        have H3 : Hid (∀ W, Below wd.heap.size wd W → Calls Tryz.prog 14 #[.agg #[.int .i64 k, .int .i64 a, .int .i64 b, .int .i64 c, .int .i64 n, .slice ab bs.length cb, .slice ak keep.length ck, .slice at' acc.length ct], .agg #[.int .i64 k₂, .int .i64 a₂, .int .i64 b₂, .int .i64 c₂, .int .i64 n₂, .slice ab₂ bs₂.length cb₂, .slice ak₂ keep₂.length ck₂, .slice at₂' acc₂.length ct₂]] W fun e w' => e = .returned (.bool (sameA ⟨k, a, b, c, n, bs, keep, torn⟩ ⟨k₂, a₂, b₂, c₂, n₂, bs₂, keep₂, torn₂⟩)) ∧ Below W.heap.size W w') := fun W hb => same_any (HAW.out W hb) (HBW.out W hb) (by omega) (by omega) (by omega) (by omega)
        have H4 : Hid (∀ W, Below wd.heap.size wd W → Calls Tryz.prog 15 #[.agg #[.int .i64 k, .int .i64 a, .int .i64 b, .int .i64 c, .int .i64 n, .string (strB bs), .slice ak keep.length ck, .slice a5 N5 c5], .agg #[.int .i64 k₂, .int .i64 a₂, .int .i64 b₂, .int .i64 c₂, .int .i64 n₂, .string (strB bs₂), .slice ak₂ keep₂.length ck₂, .slice a7 N7 c7]] W fun e w' => e = .returned (.bool (sameA ⟨k, a, b, c, n, bs, keep, torn⟩ ⟨k₂, a₂, b₂, c₂, n₂, bs₂, keep₂, torn₂⟩)) ∧ Below W.heap.size W w') := fun W hb => rsame_any _ _ _ _ _ _ _ _ _ _ _ _ (hr5.stays hb) (hr6.stays hb) (by omega) (by omega) (by omega) (by omega)
        have H5 : Hid (∀ W, Below wd.heap.size wd W → Calls Tryz.prog 16 #[.int .i64 kind] W fun e w' => e = .returned (.string (strB (wordOf kind))) ∧ Below W.heap.size W w') := fun W hb => (word_any (HVW.out W hb).1.words kind).mono fun e w' h => ⟨h.1, by rw [h.2]; exact Below.refl _ _⟩
        have H6 : Hid (∀ W, Below wd.heap.size wd W → Calls Tryz.prog 10 #[.agg #[.int .i64 k, .int .i64 a, .int .i64 b, .int .i64 c, .int .i64 n, .string (strB bs), .slice ak keep.length ck, .slice a5 N5 c5]] W fun e w' => e = .returned (.bool (rightA ⟨k, a, b, c, n, bs, keep, torn⟩)) ∧ Below W.heap.size W w') := fun W hb => rright_any _ _ _ _ _ _ (hr5.stays hb)
        have H7 : Hid (rightA ⟨k, a, b, c, n, bs, keep, torn⟩ = true → ∀ W, Below wd.heap.size wd W → Calls Tryz.prog 11 #[.agg #[.int .i64 k, .int .i64 a, .int .i64 b, .int .i64 c, .int .i64 n, .string (strB bs), .slice ak keep.length ck, .slice a5 N5 c5]] W fun e w' => e = .returned (.string (strB (lineA ⟨k, a, b, c, n, bs, keep, torn⟩))) ∧ Below W.heap.size W w') := fun hR W hb => rline_any _ _ _ _ _ _ hR (hr5.stays hb)
        have H8 : Hid (∀ W, Calls Tryz.prog 9 #[] W fun e w' => ∃ g, e = .returned (.slice (some ⟨g, 0, none⟩) 12 12) ∧ OwnL 9 SV W.heap.size w' (.slice (some ⟨g, 0, none⟩) 12 12) wordsL ∧ Below W.heap.size W w') := fun W => rwords_any W
        have HLR : Hid (lineR ⟨k, a, b, c, n, bs, keep, torn⟩ = if rightA ⟨k, a, b, c, n, bs, keep, torn⟩ then lineA ⟨k, a, b, c, n, bs, keep, torn⟩ else []) := rfl
        generalize sameA ⟨k, a, b, c, n, bs, keep, torn⟩ ⟨k₂, a₂, b₂, c₂, n₂, bs₂, keep₂, torn₂⟩ = E at H3 H4
        generalize rightA ⟨k, a, b, c, n, bs, keep, torn⟩ = R at H1 H6 H7 HLR
        generalize lineR ⟨k, a, b, c, n, bs, keep, torn⟩ = LR at H2 HLR
        generalize lineA ⟨k, a, b, c, n, bs, keep, torn⟩ = LA at H7 HLR
        have qE : (E == E) = true := by simp
        clear hc5 hc6 hr5 hr6 hbc hBW HOA HOB HS3 HS HA HB HF HAW HBW HVW HVV hd0 hd1 HM HB3 hml x0 y0 x1 y1 x2 y2 x3 y3 x4 y4 x5 y5 x6 y6 x7 y7
        rcases (show (1 ≤ kind ∧ kind ≤ 11) ∨ kind < 1 ∨ 11 < kind by omega) with hk | hk | hk
        · have kk0 : 0 ≤ kind := by omega
          have kk1 : kind < 12 := by omega
          have t1 : decide (1 ≤ kind) = true := decide_eq_true hk.1
          have t2 : decide (kind ≤ 11) = true := decide_eq_true hk.2
          have HWO : Hid (wordOf kind = wordsL.getD kind.toNat []) := by show _ = _; unfold wordOf; rw [if_pos hk]
          obtain ⟨Y, hY⟩ : ∃ Y, Y = wordOf kind := ⟨_, rfl⟩
          rw [← hY] at HWO H5
          have qY : ((strB Y).toList == (strB Y).toList) = true := beq_self_eq_true _
          have hyl : wordsL[kind.toNat]? = some Y := by
            rw [HWO.out, List.getD_eq_getElem?_getD, List.getElem?_eq_getElem (show kind.toNat < wordsL.length by show _ < 12; omega)]; rfl
          have HYL := Lib.hid hyl
          clear hk hY hyl HWO hkd
          go_upto_region 8 with fail
          go_wp2_with fail
          refine (H8.out _).mono ?_
          rintro e w8 ⟨gw, rfl, how, hb8⟩
          have cw := ownCell' how HYL.out
          replace cw : w8.cell? ⟨gw, kind.toNat, none⟩ = some (.string (strB Y)) := cw
          have hb8' : Below wd.heap.size wd w8 := hb8
          clear how hb8 H8
          go_upto_region 9 with fail
          clear cw t1 t2 kk0 kk1
          obtain ⟨x0, x1, x2, x3, x4, x5, x6, x7, y0, y1, y2, y3, y4, y5, y6, y7, u0, u1, u2, u3, u4, u5, u6, u7, v0, v1, v2, v3, v4, v5, v6, v7⟩ := HS6.out w8 hb8'
          have HR6 := Lib.hid (H6.out w8 hb8')
          have HBL : Hid (Below wd.heap.size wd w8) := hb8'
          cases hR : R with
          | true =>
            subst hR
            rw [if_pos rfl] at HLR
            have H2' := H2.out
            rw [HLR.out] at H2'
            clear H2
            have H2 := Lib.hid H2'
            clear H2'
            have qL : ((strB LA).toList == (strB LA).toList) = true := beq_self_eq_true _
            go_wp2_with fail
            refine HR6.out.mono ?_
            rintro e w6 ⟨rfl, hb6⟩
            have hbm := HBL.out.trans (hb6.mono HBL.out.size)
            have HBM := Lib.hid hbm
            clear HR6 x0 x1 x2 x3 x4 x5 x6 x7 y0 y1 y2 y3 y4 y5 y6 y7 u0 u1 u2 u3 u4 u5 u6 u7 v0 v1 v2 v3 v4 v5 v6 v7 hb6
            obtain ⟨x0, x1, x2, x3, x4, x5, x6, x7, y0, y1, y2, y3, y4, y5, y6, y7, u0, u1, u2, u3, u4, u5, u6, u7, v0, v1, v2, v3, v4, v5, v6, v7⟩ := HS6.out w6 hbm
            clear hbm
            go_wp2_with fail
            refine (H7.out (by simp) w6 HBM.out).mono ?_
            rintro e w7 ⟨rfl, hb7⟩
            have hbL := HBM.out.trans (hb7.mono HBM.out.size)
            clear x0 x1 x2 x3 x4 x5 x6 x7 y0 y1 y2 y3 y4 y5 y6 y7 u0 u1 u2 u3 u4 u5 u6 u7 v0 v1 v2 v3 v4 v5 v6 v7 hb7
            go_upto_region 12 with fail
            refine wp_region_quiet_in (C := fun W => Below wd.heap.size wd W) (by kernel_rfl) (by kernel_rfl) (by exact hbL.drew) ?_
            repeat
              (first
                 | go_big_quiet_skip
                 | (go_big_quiet_want
                    refine quiet_intro ?_ (fun wq hwq => ?_) ?_
                    rotate_left
                    focus
                      (obtain ⟨x0, x1, x2, x3, x4, x5, x6, x7, y0, y1, y2, y3, y4, y5, y6, y7, u0, u1, u2, u3, u4, u5, u6, u7, v0, v1, v2, v3, v4, v5, v6, v7⟩ := HS6.out _ hwq
                       go_simp
                       try first
                         | with_reducible rfl
                         | (exact hwq)
                         | (go_at_call 12; (with_reducible refine (H1.out _ hwq).mono ?_); rintro e wA ⟨rfl, hbA⟩; refine ⟨?_, hwq.trans (hbA.mono hwq.size)⟩; with_reducible rfl)
                         | (go_at_call 13; (with_reducible refine (H2.out _ hwq).mono ?_); rintro e wA ⟨rfl, hbA⟩; refine ⟨?_, hwq.trans (hbA.mono hwq.size)⟩; with_reducible rfl)
                         | (go_at_call 14; (with_reducible refine (H3.out _ hwq).mono ?_); rintro e wA ⟨rfl, hbA⟩; refine ⟨?_, hwq.trans (hbA.mono hwq.size)⟩; with_reducible rfl)
                         | (go_at_call 15; (with_reducible refine (H4.out _ hwq).mono ?_); rintro e wA ⟨rfl, hbA⟩; refine ⟨?_, hwq.trans (hbA.mono hwq.size)⟩; with_reducible rfl)
                         | (go_at_call 16; (with_reducible refine (H5.out _ hwq).mono ?_); rintro e wA ⟨rfl, hbA⟩; refine ⟨?_, hwq.trans (hbA.mono hwq.size)⟩; with_reducible rfl))
                    go_simp
                    go_big_quiet_on))
            refine wpQuiet_nil ?_
            intro w9 hb9
            have HFZ := Lib.hid (HFW.out w9 hb9)
            go_wp2_with fail
            go_ret
            exact ⟨rfl, HFZ.out⟩
          | false =>
            subst hR
            rw [if_neg (by decide)] at HLR
            have H2' := H2.out
            rw [HLR.out] at H2'
            rw [show strB [] = ⟨#[]⟩ from rfl] at H2'
            clear H2
            have H2 := Lib.hid H2'
            clear H2'
            go_wp2_with fail
            refine HR6.out.mono ?_
            rintro e w6 ⟨rfl, hb6⟩
            have hbL := HBL.out.trans (hb6.mono HBL.out.size)
            clear HR6 x0 x1 x2 x3 x4 x5 x6 x7 y0 y1 y2 y3 y4 y5 y6 y7 u0 u1 u2 u3 u4 u5 u6 u7 v0 v1 v2 v3 v4 v5 v6 v7 hb6
            go_upto_region 12 with fail
            refine wp_region_quiet_in (C := fun W => Below wd.heap.size wd W) (by kernel_rfl) (by kernel_rfl) (by exact hbL.drew) ?_
            repeat
              (first
                 | go_big_quiet_skip
                 | (go_big_quiet_want
                    refine quiet_intro ?_ (fun wq hwq => ?_) ?_
                    rotate_left
                    focus
                      (obtain ⟨x0, x1, x2, x3, x4, x5, x6, x7, y0, y1, y2, y3, y4, y5, y6, y7, u0, u1, u2, u3, u4, u5, u6, u7, v0, v1, v2, v3, v4, v5, v6, v7⟩ := HS6.out _ hwq
                       go_simp
                       try first
                         | with_reducible rfl
                         | (exact hwq)
                         | (go_at_call 12; (with_reducible refine (H1.out _ hwq).mono ?_); rintro e wA ⟨rfl, hbA⟩; refine ⟨?_, hwq.trans (hbA.mono hwq.size)⟩; with_reducible rfl)
                         | (go_at_call 13; (with_reducible refine (H2.out _ hwq).mono ?_); rintro e wA ⟨rfl, hbA⟩; refine ⟨?_, hwq.trans (hbA.mono hwq.size)⟩; with_reducible rfl)
                         | (go_at_call 14; (with_reducible refine (H3.out _ hwq).mono ?_); rintro e wA ⟨rfl, hbA⟩; refine ⟨?_, hwq.trans (hbA.mono hwq.size)⟩; with_reducible rfl)
                         | (go_at_call 15; (with_reducible refine (H4.out _ hwq).mono ?_); rintro e wA ⟨rfl, hbA⟩; refine ⟨?_, hwq.trans (hbA.mono hwq.size)⟩; with_reducible rfl)
                         | (go_at_call 16; (with_reducible refine (H5.out _ hwq).mono ?_); rintro e wA ⟨rfl, hbA⟩; refine ⟨?_, hwq.trans (hbA.mono hwq.size)⟩; with_reducible rfl))
                    go_simp
                    go_big_quiet_on))
            refine wpQuiet_nil ?_
            intro w9 hb9
            have HFZ := Lib.hid (HFW.out w9 hb9)
            go_wp2_with fail
            go_ret
            exact ⟨rfl, HFZ.out⟩
        · have t1 : decide (1 ≤ kind) = false := decide_eq_false (by omega)
          have HWO : Hid (wordOf kind = []) := by show _ = _; unfold wordOf; rw [if_neg (by omega)]
          rw [HWO.out, show strB [] = ⟨#[]⟩ from rfl] at H5
          have hb8' : Below wd.heap.size wd wd := Below.refl _ _
          clear hk hkd H8
          go_upto_region 9 with fail
          clear t1
          obtain ⟨x0, x1, x2, x3, x4, x5, x6, x7, y0, y1, y2, y3, y4, y5, y6, y7, u0, u1, u2, u3, u4, u5, u6, u7, v0, v1, v2, v3, v4, v5, v6, v7⟩ := HS6.out wd hb8'
          have HR6 := Lib.hid (H6.out wd hb8')
          have HBL : Hid (Below wd.heap.size wd wd) := hb8'
          cases hR : R with
          | true =>
            subst hR
            rw [if_pos rfl] at HLR
            have H2' := H2.out
            rw [HLR.out] at H2'
            clear H2
            have H2 := Lib.hid H2'
            clear H2'
            have qL : ((strB LA).toList == (strB LA).toList) = true := beq_self_eq_true _
            go_wp2_with fail
            refine HR6.out.mono ?_
            rintro e w6 ⟨rfl, hb6⟩
            have hbm := HBL.out.trans (hb6.mono HBL.out.size)
            have HBM := Lib.hid hbm
            clear HR6 x0 x1 x2 x3 x4 x5 x6 x7 y0 y1 y2 y3 y4 y5 y6 y7 u0 u1 u2 u3 u4 u5 u6 u7 v0 v1 v2 v3 v4 v5 v6 v7 hb6
            obtain ⟨x0, x1, x2, x3, x4, x5, x6, x7, y0, y1, y2, y3, y4, y5, y6, y7, u0, u1, u2, u3, u4, u5, u6, u7, v0, v1, v2, v3, v4, v5, v6, v7⟩ := HS6.out w6 hbm
            clear hbm
            go_wp2_with fail
            refine (H7.out (by simp) w6 HBM.out).mono ?_
            rintro e w7 ⟨rfl, hb7⟩
            have hbL := HBM.out.trans (hb7.mono HBM.out.size)
            clear x0 x1 x2 x3 x4 x5 x6 x7 y0 y1 y2 y3 y4 y5 y6 y7 u0 u1 u2 u3 u4 u5 u6 u7 v0 v1 v2 v3 v4 v5 v6 v7 hb7
            go_upto_region 12 with fail
            refine wp_region_quiet_in (C := fun W => Below wd.heap.size wd W) (by kernel_rfl) (by kernel_rfl) (by exact hbL.drew) ?_
            repeat
              (first
                 | go_big_quiet_skip
                 | (go_big_quiet_want
                    refine quiet_intro ?_ (fun wq hwq => ?_) ?_
                    rotate_left
                    focus
                      (obtain ⟨x0, x1, x2, x3, x4, x5, x6, x7, y0, y1, y2, y3, y4, y5, y6, y7, u0, u1, u2, u3, u4, u5, u6, u7, v0, v1, v2, v3, v4, v5, v6, v7⟩ := HS6.out _ hwq
                       go_simp
                       try first
                         | with_reducible rfl
                         | (exact hwq)
                         | (go_at_call 12; (with_reducible refine (H1.out _ hwq).mono ?_); rintro e wA ⟨rfl, hbA⟩; refine ⟨?_, hwq.trans (hbA.mono hwq.size)⟩; with_reducible rfl)
                         | (go_at_call 13; (with_reducible refine (H2.out _ hwq).mono ?_); rintro e wA ⟨rfl, hbA⟩; refine ⟨?_, hwq.trans (hbA.mono hwq.size)⟩; with_reducible rfl)
                         | (go_at_call 14; (with_reducible refine (H3.out _ hwq).mono ?_); rintro e wA ⟨rfl, hbA⟩; refine ⟨?_, hwq.trans (hbA.mono hwq.size)⟩; with_reducible rfl)
                         | (go_at_call 15; (with_reducible refine (H4.out _ hwq).mono ?_); rintro e wA ⟨rfl, hbA⟩; refine ⟨?_, hwq.trans (hbA.mono hwq.size)⟩; with_reducible rfl)
                         | (go_at_call 16; (with_reducible refine (H5.out _ hwq).mono ?_); rintro e wA ⟨rfl, hbA⟩; refine ⟨?_, hwq.trans (hbA.mono hwq.size)⟩; with_reducible rfl))
                    go_simp
                    go_big_quiet_on))
            refine wpQuiet_nil ?_
            intro w9 hb9
            have HFZ := Lib.hid (HFW.out w9 hb9)
            go_wp2_with fail
            go_ret
            exact ⟨rfl, HFZ.out⟩
          | false =>
            subst hR
            rw [if_neg (by decide)] at HLR
            have H2' := H2.out
            rw [HLR.out] at H2'
            rw [show strB [] = ⟨#[]⟩ from rfl] at H2'
            clear H2
            have H2 := Lib.hid H2'
            clear H2'
            go_wp2_with fail
            refine HR6.out.mono ?_
            rintro e w6 ⟨rfl, hb6⟩
            have hbL := HBL.out.trans (hb6.mono HBL.out.size)
            clear HR6 x0 x1 x2 x3 x4 x5 x6 x7 y0 y1 y2 y3 y4 y5 y6 y7 u0 u1 u2 u3 u4 u5 u6 u7 v0 v1 v2 v3 v4 v5 v6 v7 hb6
            go_upto_region 12 with fail
            refine wp_region_quiet_in (C := fun W => Below wd.heap.size wd W) (by kernel_rfl) (by kernel_rfl) (by exact hbL.drew) ?_
            repeat
              (first
                 | go_big_quiet_skip
                 | (go_big_quiet_want
                    refine quiet_intro ?_ (fun wq hwq => ?_) ?_
                    rotate_left
                    focus
                      (obtain ⟨x0, x1, x2, x3, x4, x5, x6, x7, y0, y1, y2, y3, y4, y5, y6, y7, u0, u1, u2, u3, u4, u5, u6, u7, v0, v1, v2, v3, v4, v5, v6, v7⟩ := HS6.out _ hwq
                       go_simp
                       try first
                         | with_reducible rfl
                         | (exact hwq)
                         | (go_at_call 12; (with_reducible refine (H1.out _ hwq).mono ?_); rintro e wA ⟨rfl, hbA⟩; refine ⟨?_, hwq.trans (hbA.mono hwq.size)⟩; with_reducible rfl)
                         | (go_at_call 13; (with_reducible refine (H2.out _ hwq).mono ?_); rintro e wA ⟨rfl, hbA⟩; refine ⟨?_, hwq.trans (hbA.mono hwq.size)⟩; with_reducible rfl)
                         | (go_at_call 14; (with_reducible refine (H3.out _ hwq).mono ?_); rintro e wA ⟨rfl, hbA⟩; refine ⟨?_, hwq.trans (hbA.mono hwq.size)⟩; with_reducible rfl)
                         | (go_at_call 15; (with_reducible refine (H4.out _ hwq).mono ?_); rintro e wA ⟨rfl, hbA⟩; refine ⟨?_, hwq.trans (hbA.mono hwq.size)⟩; with_reducible rfl)
                         | (go_at_call 16; (with_reducible refine (H5.out _ hwq).mono ?_); rintro e wA ⟨rfl, hbA⟩; refine ⟨?_, hwq.trans (hbA.mono hwq.size)⟩; with_reducible rfl))
                    go_simp
                    go_big_quiet_on))
            refine wpQuiet_nil ?_
            intro w9 hb9
            have HFZ := Lib.hid (HFW.out w9 hb9)
            go_wp2_with fail
            go_ret
            exact ⟨rfl, HFZ.out⟩
        · have t1 : decide (1 ≤ kind) = true := decide_eq_true (by omega)
          have t2 : decide (kind ≤ 11) = false := decide_eq_false (by omega)
          have HWO : Hid (wordOf kind = []) := by show _ = _; unfold wordOf; rw [if_neg (by omega)]
          rw [HWO.out, show strB [] = ⟨#[]⟩ from rfl] at H5
          have hb8' : Below wd.heap.size wd wd := Below.refl _ _
          clear hk hkd H8
          go_upto_region 9 with fail
          clear t1 t2
          obtain ⟨x0, x1, x2, x3, x4, x5, x6, x7, y0, y1, y2, y3, y4, y5, y6, y7, u0, u1, u2, u3, u4, u5, u6, u7, v0, v1, v2, v3, v4, v5, v6, v7⟩ := HS6.out wd hb8'
          have HR6 := Lib.hid (H6.out wd hb8')
          have HBL : Hid (Below wd.heap.size wd wd) := hb8'
          cases hR : R with
          | true =>
            subst hR
            rw [if_pos rfl] at HLR
            have H2' := H2.out
            rw [HLR.out] at H2'
            clear H2
            have H2 := Lib.hid H2'
            clear H2'
            have qL : ((strB LA).toList == (strB LA).toList) = true := beq_self_eq_true _
            go_wp2_with fail
            refine HR6.out.mono ?_
            rintro e w6 ⟨rfl, hb6⟩
            have hbm := HBL.out.trans (hb6.mono HBL.out.size)
            have HBM := Lib.hid hbm
            clear HR6 x0 x1 x2 x3 x4 x5 x6 x7 y0 y1 y2 y3 y4 y5 y6 y7 u0 u1 u2 u3 u4 u5 u6 u7 v0 v1 v2 v3 v4 v5 v6 v7 hb6
            obtain ⟨x0, x1, x2, x3, x4, x5, x6, x7, y0, y1, y2, y3, y4, y5, y6, y7, u0, u1, u2, u3, u4, u5, u6, u7, v0, v1, v2, v3, v4, v5, v6, v7⟩ := HS6.out w6 hbm
            clear hbm
            go_wp2_with fail
            refine (H7.out (by simp) w6 HBM.out).mono ?_
            rintro e w7 ⟨rfl, hb7⟩
            have hbL := HBM.out.trans (hb7.mono HBM.out.size)
            clear x0 x1 x2 x3 x4 x5 x6 x7 y0 y1 y2 y3 y4 y5 y6 y7 u0 u1 u2 u3 u4 u5 u6 u7 v0 v1 v2 v3 v4 v5 v6 v7 hb7
            go_upto_region 12 with fail
            refine wp_region_quiet_in (C := fun W => Below wd.heap.size wd W) (by kernel_rfl) (by kernel_rfl) (by exact hbL.drew) ?_
            repeat
              (first
                 | go_big_quiet_skip
                 | (go_big_quiet_want
                    refine quiet_intro ?_ (fun wq hwq => ?_) ?_
                    rotate_left
                    focus
                      (obtain ⟨x0, x1, x2, x3, x4, x5, x6, x7, y0, y1, y2, y3, y4, y5, y6, y7, u0, u1, u2, u3, u4, u5, u6, u7, v0, v1, v2, v3, v4, v5, v6, v7⟩ := HS6.out _ hwq
                       go_simp
                       try first
                         | with_reducible rfl
                         | (exact hwq)
                         | (go_at_call 12; (with_reducible refine (H1.out _ hwq).mono ?_); rintro e wA ⟨rfl, hbA⟩; refine ⟨?_, hwq.trans (hbA.mono hwq.size)⟩; with_reducible rfl)
                         | (go_at_call 13; (with_reducible refine (H2.out _ hwq).mono ?_); rintro e wA ⟨rfl, hbA⟩; refine ⟨?_, hwq.trans (hbA.mono hwq.size)⟩; with_reducible rfl)
                         | (go_at_call 14; (with_reducible refine (H3.out _ hwq).mono ?_); rintro e wA ⟨rfl, hbA⟩; refine ⟨?_, hwq.trans (hbA.mono hwq.size)⟩; with_reducible rfl)
                         | (go_at_call 15; (with_reducible refine (H4.out _ hwq).mono ?_); rintro e wA ⟨rfl, hbA⟩; refine ⟨?_, hwq.trans (hbA.mono hwq.size)⟩; with_reducible rfl)
                         | (go_at_call 16; (with_reducible refine (H5.out _ hwq).mono ?_); rintro e wA ⟨rfl, hbA⟩; refine ⟨?_, hwq.trans (hbA.mono hwq.size)⟩; with_reducible rfl))
                    go_simp
                    go_big_quiet_on))
            refine wpQuiet_nil ?_
            intro w9 hb9
            have HFZ := Lib.hid (HFW.out w9 hb9)
            go_wp2_with fail
            go_ret
            exact ⟨rfl, HFZ.out⟩
          | false =>
            subst hR
            rw [if_neg (by decide)] at HLR
            have H2' := H2.out
            rw [HLR.out] at H2'
            rw [show strB [] = ⟨#[]⟩ from rfl] at H2'
            clear H2
            have H2 := Lib.hid H2'
            clear H2'
            go_wp2_with fail
            refine HR6.out.mono ?_
            rintro e w6 ⟨rfl, hb6⟩
            have hbL := HBL.out.trans (hb6.mono HBL.out.size)
            clear HR6 x0 x1 x2 x3 x4 x5 x6 x7 y0 y1 y2 y3 y4 y5 y6 y7 u0 u1 u2 u3 u4 u5 u6 u7 v0 v1 v2 v3 v4 v5 v6 v7 hb6
            go_upto_region 12 with fail
            refine wp_region_quiet_in (C := fun W => Below wd.heap.size wd W) (by kernel_rfl) (by kernel_rfl) (by exact hbL.drew) ?_
            repeat
              (first
                 | go_big_quiet_skip
                 | (go_big_quiet_want
                    refine quiet_intro ?_ (fun wq hwq => ?_) ?_
                    rotate_left
                    focus
                      (obtain ⟨x0, x1, x2, x3, x4, x5, x6, x7, y0, y1, y2, y3, y4, y5, y6, y7, u0, u1, u2, u3, u4, u5, u6, u7, v0, v1, v2, v3, v4, v5, v6, v7⟩ := HS6.out _ hwq
                       go_simp
                       try first
                         | with_reducible rfl
                         | (exact hwq)
                         | (go_at_call 12; (with_reducible refine (H1.out _ hwq).mono ?_); rintro e wA ⟨rfl, hbA⟩; refine ⟨?_, hwq.trans (hbA.mono hwq.size)⟩; with_reducible rfl)
                         | (go_at_call 13; (with_reducible refine (H2.out _ hwq).mono ?_); rintro e wA ⟨rfl, hbA⟩; refine ⟨?_, hwq.trans (hbA.mono hwq.size)⟩; with_reducible rfl)
                         | (go_at_call 14; (with_reducible refine (H3.out _ hwq).mono ?_); rintro e wA ⟨rfl, hbA⟩; refine ⟨?_, hwq.trans (hbA.mono hwq.size)⟩; with_reducible rfl)
                         | (go_at_call 15; (with_reducible refine (H4.out _ hwq).mono ?_); rintro e wA ⟨rfl, hbA⟩; refine ⟨?_, hwq.trans (hbA.mono hwq.size)⟩; with_reducible rfl)
                         | (go_at_call 16; (with_reducible refine (H5.out _ hwq).mono ?_); rintro e wA ⟨rfl, hbA⟩; refine ⟨?_, hwq.trans (hbA.mono hwq.size)⟩; with_reducible rfl))
                    go_simp
                    go_big_quiet_on))
            refine wpQuiet_nil ?_
            intro w9 hb9
            have HFZ := Lib.hid (HFW.out w9 hb9)
            go_wp2_with fail
            go_ret
            exact ⟨rfl, HFZ.out⟩
end Go.Proofs.YtbcpciegdmminaaGreatDoor