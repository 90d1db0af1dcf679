/- Scripts, the document's: which acts are right. -/
import Derived.Test.YtbcpciegdmminaaGreatDoorSrC
namespace Go.Proofs.YtbcpciegdmminaaGreatDoor
open Go Go.RowKit
set_option linter.unusedVariables false
/-- an act of the document's: its cells, and what its rows hold -/
def rCells (k a b c n : Int) (bs : Bs) (vk vt : Value) : Array Value := #[.int .i64 k, .int .i64 a, .int .i64 b, .int .i64 c, .int .i64 n, .string (strB bs), vk, vt]
def rtC (t : Int × Bs) : List Value := [.int .i64 t.1, .string (strB t.2)]
theorem rtC_len (t : Int × Bs) : (rtC t).length = 2 := rfl
theorem rtC_one (t : Int × Bs) : (rtC t).all Value.oneCell' = true := rfl
def RActI (w : World) (vk vt : Value) (keep : List Int) (torn : List (Int × Bs)) : Prop := RowL IV w vk keep ∧ RowS rtC w vt torn
theorem RActI.stays {w w' : World} {vk vt : Value} {keep : List Int} {torn : List (Int × Bs)} (h : RActI w vk vt keep torn) (hb : Below w.heap.size w w') : RActI w' vk vt keep torn := ⟨Row.stays h.1 hb, RowS.stays h.2 hb⟩
def hasL : List Nat := [0, 0, 0, 1, 3, 2, 1, 0, 1, 0, 0, 1]
def hasK (k : Int) : Nat := hasL.getD k.toNat 0
def badN (k : Int) (i : Nat) (n : Int) : Bool := decide ((hasK k ≤ i ∧ n ≠ 0) ∨ (i < hasK k ∧ (n < 0 ∨ 999999999 < n) ∧ (k ≠ 8 ∨ n ≠ -1)))
def okM (k n : Int) : Bool := if k = 4 then decide (0 ≤ n ∧ n ≤ 2) else n == 0
theorem numb_ok {k : Int} (a b c n : Int) (hk : 1 ≤ k ∧ k ≤ 11) : numb k a b c n = (!badN k 0 a && !badN k 1 b && !badN k 2 c && okM k n) := by
  rcases (show k = 1 ∨ k = 2 ∨ k = 3 ∨ k = 4 ∨ k = 5 ∨ k = 6 ∨ k = 7 ∨ k = 8 ∨ k = 9 ∨ k = 10 ∨ k = 11 by omega) with rfl | rfl | rfl | rfl | rfl | rfl | rfl | rfl | rfl | rfl | rfl
  all_goals
    apply Bool.eq_iff_iff.2
    unfold numb numbered zero badN okM hasK hasL inN
    simp
    try omega
theorem right_eq (k a b c n : Int) (bs : Bs) (keep : List Int) (torn : List (Int × Bs)) : rightA ⟨k, a, b, c, n, bs, keep, torn⟩ = (decide (1 ≤ k ∧ k ≤ 11) && decide (bs.length ≤ 4096 ∧ keep.length ≤ 200 ∧ torn.length ≤ 200) && !badN k 0 a && !badN k 1 b && !badN k 2 c && okM k n && (k == 1 || bs.isEmpty) && (k == 9 || keep.isEmpty && torn.isEmpty) && keep.all inN && torn.all tornOk) := by
  show (decide (1 ≤ k ∧ k ≤ 11) && numb k a b c n && (k == 1 || bs.isEmpty) && (k == 9 || keep.isEmpty && torn.isEmpty) && decide (bs.length ≤ 4096 ∧ keep.length ≤ 200 ∧ torn.length ≤ 200) && keep.all inN && torn.all tornOk) = _
  by_cases hk : 1 ≤ k ∧ k ≤ 11
  · rw [numb_ok a b c n hk]
    generalize decide (1 ≤ k ∧ k ≤ 11) = A1
    generalize decide (bs.length ≤ 4096 ∧ keep.length ≤ 200 ∧ torn.length ≤ 200) = A2
    generalize badN k 0 a = A3
    generalize badN k 1 b = A4
    generalize badN k 2 c = A5
    generalize okM k n = A6
    generalize (k == 1 || bs.isEmpty) = A7
    generalize (k == 9 || keep.isEmpty && torn.isEmpty) = A8
    generalize keep.all inN = A9
    generalize torn.all tornOk = A10
    cases A1 <;> cases A2 <;> cases A3 <;> cases A4 <;> cases A5 <;> cases A6 <;> cases A7 <;> cases A8 <;> rfl
  · rw [decide_eq_false hk]; rfl
set_option maxRecDepth 100000 in
set_option maxHeartbeats 8000000 in
theorem rright_any {w : World} (k a b c n : Int) (bs : Bs) {vk vt : Value} {keep : List Int} {torn : List (Int × Bs)} (hA : RActI w vk vt keep torn) :
    Calls Tryz.prog 10 #[.agg (rCells k a b c n bs vk vt)] w fun e w' => e = .returned (.bool (rightA ⟨k, a, b, c, n, bs, keep, torn⟩)) ∧ Below w.heap.size w w' := by
  obtain ⟨R, hR⟩ : ∃ R, R = rightA ⟨k, a, b, c, n, bs, keep, torn⟩ := ⟨_, rfl⟩
  rw [← hR]
  have hR2 := hR.trans (right_eq k a b c n bs keep torn)
  have hbe : bs.isEmpty = decide (bs.length = 0) := by cases bs <;> rfl
  have hke : (keep.isEmpty && torn.isEmpty) = decide (keep.length + torn.length = 0) := by cases keep <;> cases torn <;> simp
  rw [hbe, hke] at hR2
  have HR := Lib.hid hR2
  obtain ⟨h2, h3⟩ := hA
  obtain ⟨ak, ck, rfl, -, -⟩ := h2.shape
  obtain ⟨at', ct, rfl, -, -⟩ := h3.shape rtC_len
  have hsz : (strB bs).size = bs.length := strB_size bs
  obtain ⟨W0, hW0⟩ : ∃ W0, W0 = w.alloc (.cells (rCells k a b c n bs (.slice ak keep.length ck) (.slice at' torn.length ct)) 31) := ⟨_, rfl⟩
  obtain ⟨g, hg⟩ : ∃ g, g = w.heap.size := ⟨_, rfl⟩
  have hb : Below w.heap.size w W0 := by rw [hW0]; exact (Below.refl _ _).alloc (Nat.le_refl _) _
  have hc : CellsAt W0 g 31 (rCells k a b c n bs (.slice ak keep.length ck) (.slice at' torn.length ct)) := by rw [hW0, hg]; exact CellsAt.new w _ _
  have HC : Hid (∀ W, Below W0.heap.size W0 W → W.cell? ⟨g, 0, none⟩ = some (.int .i64 k) ∧ W.cell? ⟨g, 1, none⟩ = some (.int .i64 a) ∧ W.cell? ⟨g, 2, none⟩ = some (.int .i64 b) ∧ W.cell? ⟨g, 3, none⟩ = some (.int .i64 c) ∧ W.cell? ⟨g, 4, none⟩ = some (.int .i64 n) ∧ W.cell? ⟨g, 5, none⟩ = some (.string (strB bs)) ∧ W.cell? ⟨g, 6, none⟩ = some (.slice ak keep.length ck) ∧ W.cell? ⟨g, 7, none⟩ = some (.slice at' torn.length ct)) := fun W h =>
    ⟨(hc.stays h).cell 0 rfl, (hc.stays h).cell 1 rfl, (hc.stays h).cell 2 rfl, (hc.stays h).cell 3 rfl, (hc.stays h).cell 4 rfl, (hc.stays h).cell 5 rfl, (hc.stays h).cell 6 rfl, (hc.stays h).cell 7 rfl⟩
  have HK : Hid (∀ W, Below W0.heap.size W0 W → RowL IV W (.slice ak keep.length ck) keep) := fun W h => Row.stays (Row.stays h2 hb) h
  have HT : Hid (∀ W, Below W0.heap.size W0 W → RowS rtC W (.slice at' torn.length ct) torn) := fun W h => (RowS.stays h3 hb).stays h
  obtain ⟨c0, c1, c2, c3, c4, c5, c6, c7⟩ := HC.out W0 (Below.refl _ _)
  have HW := Lib.hid hW0
  have HG := Lib.hid hg
  have HB := Lib.hid hb
  clear hR hR2 hbe hke hW0 hg hb hc h2 h3
  go_enter Tryz.func10, Tryz.ntmps10
  go_upto_region 1 with fail
  rw [← HW.out, ← HG.out]
  clear HW HG
  by_cases g1 : k < 1
  · have q1 : decide (k < 1) = true := decide_eq_true g1
    have hz : decide (1 ≤ k ∧ k ≤ 11) = false := decide_eq_false (by omega)
    have HZ : Hid (R = false) := by show _ = _; rw [HR.out, hz]; simp
    clear HR hz
    go_wp2_with fail
    go_ret
    exact ⟨congrArg (fun z => Ending.returned (Value.bool z)) HZ.out.symm, HB.out⟩
  · have q1 : decide (k < 1) = false := decide_eq_false g1
    by_cases g2 : 11 < k
    · have q2 : decide (11 < k) = true := decide_eq_true g2
      have hz : decide (1 ≤ k ∧ k ≤ 11) = false := decide_eq_false (by omega)
      have HZ : Hid (R = false) := by show _ = _; rw [HR.out, hz]; simp
      clear HR hz
      go_wp2_with fail
      go_ret
      exact ⟨congrArg (fun z => Ending.returned (Value.bool z)) HZ.out.symm, HB.out⟩
    · have q2 : decide (11 < k) = false := decide_eq_false g2
      by_cases l0 : 4096 < bs.length
      · have p0 : decide ((4096 : Int) < (bs.length : Int)) = true := decide_eq_true (by omega)
        have hz : decide (bs.length ≤ 4096 ∧ keep.length ≤ 200 ∧ torn.length ≤ 200) = false := decide_eq_false (by omega)
        have HZ : Hid (R = false) := by show _ = _; rw [HR.out, hz]; simp
        clear HR hz
        go_wp2_with fail
        go_ret
        exact ⟨congrArg (fun z => Ending.returned (Value.bool z)) HZ.out.symm, HB.out⟩
      · have p0 : decide ((4096 : Int) < (bs.length : Int)) = false := decide_eq_false (by omega)
        by_cases l1 : 200 < keep.length
        · have p1 : decide ((200 : Int) < (keep.length : Int)) = true := decide_eq_true (by omega)
          have hz : decide (bs.length ≤ 4096 ∧ keep.length ≤ 200 ∧ torn.length ≤ 200) = false := decide_eq_false (by omega)
          have HZ : Hid (R = false) := by show _ = _; rw [HR.out, hz]; simp
          clear HR hz
          go_wp2_with fail
          go_ret
          exact ⟨congrArg (fun z => Ending.returned (Value.bool z)) HZ.out.symm, HB.out⟩
        · have p1 : decide ((200 : Int) < (keep.length : Int)) = false := decide_eq_false (by omega)
          by_cases l2 : 200 < torn.length
          · have p2 : decide ((200 : Int) < (torn.length : Int)) = true := decide_eq_true (by omega)
            have hz : decide (bs.length ≤ 4096 ∧ keep.length ≤ 200 ∧ torn.length ≤ 200) = false := decide_eq_false (by omega)
            have HZ : Hid (R = false) := by show _ = _; rw [HR.out, hz]; simp
            clear HR hz
            go_wp2_with fail
            go_ret
            exact ⟨congrArg (fun z => Ending.returned (Value.bool z)) HZ.out.symm, HB.out⟩
          · have p2 : decide ((200 : Int) < (torn.length : Int)) = false := decide_eq_false (by omega)
            obtain ⟨T, hT⟩ : ∃ T, T = hasK k := ⟨_, rfl⟩
            have hz0 : decide (1 ≤ k ∧ k ≤ 11) = true := decide_eq_true ⟨by omega, by omega⟩
            have hz1 : decide (bs.length ≤ 4096 ∧ keep.length ≤ 200 ∧ torn.length ≤ 200) = true := decide_eq_true ⟨by omega, by omega, by omega⟩
            have HR2 : Hid (R = (!badN k 0 a && !badN k 1 b && !badN k 2 c && okM k n && (k == 1 || decide (bs.length = 0)) && (k == 9 || decide (keep.length + torn.length = 0)) && keep.all inN && torn.all tornOk)) := by
              show _ = _
              rw [HR.out, hz0, hz1, Bool.true_and, Bool.true_and]
            clear HR hz0 hz1
            have kt : k.toNat < 12 := by omega
            have kz : ((k.toNat : Nat) : Int) = k := by omega
            have k0 : 0 ≤ k := by omega
            have k1 : k < 12 := by omega
            have hgl : g < W0.heap.size := World.block_lt_of_cell? W0 _ c0
            have htab : (W0.alloc (.cells #[.int .i64 0, .int .i64 0, .int .i64 0, .int .i64 1, .int .i64 3, .int .i64 2, .int .i64 1, .int .i64 0, .int .i64 1, .int .i64 0, .int .i64 0, .int .i64 1] 3)).cell? ⟨W0.heap.size, k.toNat, none⟩ = some (.int .i64 (T : Int)) := by
              rw [cell_of_row _ W0.heap.size k.toNat _ _ _ (heap_alloc_new W0 _), hT]
              unfold hasK
              obtain ⟨q, hq⟩ : ∃ q, q = k.toNat := ⟨_, rfl⟩
              rw [← hq]
              rw [← hq] at kt
              clear hq kz
              match q, kt with
              | 0, _ => rfl
              | 1, _ => rfl
              | 2, _ => rfl
              | 3, _ => rfl
              | 4, _ => rfl
              | 5, _ => rfl
              | 6, _ => rfl
              | 7, _ => rfl
              | 8, _ => rfl
              | 9, _ => rfl
              | 10, _ => rfl
              | 11, _ => rfl
              | q + 12, h => omega
            have hTl : T ≤ 3 := by
              rw [hT]
              unfold hasK
              have hall : ∀ x ∈ hasL, x ≤ 3 := by decide
              have hl : k.toNat < hasL.length := kt
              rw [List.getD_eq_getElem?_getD, List.getElem?_eq_getElem hl]
              exact hall _ (List.getElem_mem hl)
            have HBAD : Hid (∀ i m, badN k i m = decide ((T ≤ i ∧ m ≠ 0) ∨ (i < T ∧ (m < 0 ∨ 999999999 < m) ∧ (k ≠ 8 ∨ m ≠ -1)))) := fun i m => by rw [hT]; rfl
            clear hT
            go_upto_region 4 with fail
            have hb1 : Below W0.heap.size W0 (W0.alloc (.cells #[.int .i64 0, .int .i64 0, .int .i64 0, .int .i64 1, .int .i64 3, .int .i64 2, .int .i64 1, .int .i64 0, .int .i64 1, .int .i64 0, .int .i64 0, .int .i64 1] 3)) := (Below.refl _ _).alloc (Nat.le_refl _) _
            clear htab c0 c1 c2 c3 c4 c5 c6 c7
            generalize W0.alloc (.cells #[.int .i64 0, .int .i64 0, .int .i64 0, .int .i64 1, .int .i64 3, .int .i64 2, .int .i64 1, .int .i64 0, .int .i64 1, .int .i64 0, .int .i64 0, .int .i64 1] 3) = W1 at hb1 ⊢
            obtain ⟨c0, c1, c2, c3, c4, c5, c6, c7⟩ := HC.out W1 hb1
            go_upto_region 5 with fail
            have hce : CellsAt (W1.alloc (.cells #[.int .i64 a, .int .i64 b, .int .i64 c] 3)) W1.heap.size 3 #[.int .i64 a, .int .i64 b, .int .i64 c] := CellsAt.new W1 _ _
            have hb2 : Below W0.heap.size W0 (W1.alloc (.cells #[.int .i64 a, .int .i64 b, .int .i64 c] 3)) := hb1.alloc hb1.size _
            obtain ⟨e, he⟩ : ∃ e, e = W1.heap.size := ⟨_, rfl⟩
            rw [← he] at hce
            rw [← he]
            clear c0 c1 c2 c3 c4 c5 c6 c7
            generalize W1.alloc (.cells #[.int .i64 a, .int .i64 b, .int .i64 c] 3) = W2 at hce hb2 ⊢
            obtain ⟨c0, c1, c2, c3, c4, c5, c6, c7⟩ := HC.out W2 hb2
            have HCE : Hid (∀ i, i < 3 → ∃ m : Int, W2.cell? ⟨e, i, none⟩ = some (.int .i64 m) ∧ (badN k i m = true → R = false)) := fun i hi => by
              rcases (show i = 0 ∨ i = 1 ∨ i = 2 by omega) with rfl | rfl | rfl
              · exact ⟨a, hce.cell 0 rfl, fun h => by rw [HR2.out, h]; simp⟩
              · exact ⟨b, hce.cell 1 rfl, fun h => by rw [HR2.out, h]; simp⟩
              · exact ⟨c, hce.cell 2 rfl, fun h => by rw [HR2.out, h]; simp⟩
            have HAL : Hid ((∀ i, i < 3 → ∃ m : Int, W2.cell? ⟨e, i, none⟩ = some (.int .i64 m) ∧ badN k i m = false) → R = (okM k n && (k == 1 || decide (bs.length = 0)) && (k == 9 || decide (keep.length + torn.length = 0)) && keep.all inN && torn.all tornOk)) := fun h => by
              obtain ⟨m0, h0, z0⟩ := h 0 (by omega)
              obtain ⟨m1, h1, z1⟩ := h 1 (by omega)
              obtain ⟨m2, h2, z2⟩ := h 2 (by omega)
              rw [hce.cell 0 (v := .int .i64 a) rfl] at h0
              rw [hce.cell 1 (v := .int .i64 b) rfl] at h1
              rw [hce.cell 2 (v := .int .i64 c) rfl] at h2
              cases h0
              cases h1
              cases h2
              rw [HR2.out, z0, z1, z2]
              rfl
            have HSM : Hid (keep.length ≤ 200 ∧ torn.length ≤ 200) := ⟨by omega, by omega⟩
            have HB2 := Lib.hid (HB.out.trans (hb2.mono HB.out.size))
            have HB02 := Lib.hid hb2
            clear hb1 hb2 he hce HR2 g1 g2 l0 l1 l2
            go_wp2_with fail
            go_loopw [49] (fun x wr => ∃ i : Nat, i ≤ 3 ∧ x = .int .i64 i ∧ Hid (∀ j, j < i → ∃ m : Int, W2.cell? ⟨e, j, none⟩ = some (.int .i64 m) ∧ badN k j m = false) ∧ wr = W2) (fun x _ => 3 - (intOf x).toNat)
            case atStart => exact ⟨0, by omega, rfl, fun j hj => absurd hj (Nat.not_lt_zero _), rfl⟩
            case round =>
              obtain ⟨i, hi, rfl, HJ, rfl⟩ := hrel
              by_cases hi3 : i < 3
              · obtain ⟨m, hm, hbad⟩ := HCE.out i hi3
                have hbd := HBAD.out i m
                have i0 : (0 : Int) ≤ (i : Int) := by omega
                have i1 : (i : Int) < 3 := by omega
                have HJ2 : Hid (badN k i m = false → ∀ j, j < i + 1 → ∃ m : Int, wr.cell? ⟨e, j, none⟩ = some (.int .i64 m) ∧ badN k j m = false) := fun hz j hj => by
                  by_cases h : j = i
                  · subst h; exact ⟨m, hm, hz⟩
                  · exact HJ.out j (by omega)
                have HBD := Lib.hid hbad
                have HBE := Lib.hid hbd
                clear hbad hbd HJ
                by_cases s0 : T ≤ i
                · by_cases s1 : m = 0
                  · subst s1
                    have r0 : decide ((T : Int) ≤ (i : Int)) = true := decide_eq_true (by omega)
                    have r0n : decide (T ≤ i) = true := decide_eq_true (by omega)
                    have r1 : decide ((i : Int) < (T : Int)) = false := decide_eq_false (by omega)
                    have r1n : decide (i < T) = false := decide_eq_false (by omega)
                    have HZ := Lib.hid (HJ2.out (by rw [HBE.out]; exact decide_eq_false (by omega)))
                    clear HBD HBE HJ2 s0
                    go_wp2_with fail
                    go_roundw
                    case rel => exact ⟨i + 1, by omega, by go_num, HZ.out, trivial⟩
                    case measure => simp only [intOf]; omega
                  · have s1b : (m != 0) = true := by simpa using s1
                    have r0 : decide ((T : Int) ≤ (i : Int)) = true := decide_eq_true (by omega)
                    have r0n : decide (T ≤ i) = true := decide_eq_true (by omega)
                    have r1 : decide ((i : Int) < (T : Int)) = false := decide_eq_false (by omega)
                    have r1n : decide (i < T) = false := decide_eq_false (by omega)
                    have HZ : Hid (R = false) := HBD.out (by rw [HBE.out]; exact decide_eq_true (by omega))
                    clear HBD HBE HJ2 HAL s0 s1
                    go_wp2_with fail
                    go_ret
                    exact ⟨congrArg (fun z => Ending.returned (Value.bool z)) HZ.out.symm, HB2.out⟩
                · by_cases s2 : m < 0
                  · by_cases s8 : k = 8
                    · by_cases s9 : m = -1
                      · have r0 : decide ((T : Int) ≤ (i : Int)) = false := decide_eq_false (by omega)
                        have r0n : decide (T ≤ i) = false := decide_eq_false (by omega)
                        have r1 : decide ((i : Int) < (T : Int)) = true := decide_eq_true (by omega)
                        have r1n : decide (i < T) = true := decide_eq_true (by omega)
                        have r2 : decide ((m : Int) < 0) = true := decide_eq_true (by omega)
                        have e8 : (k != 8) = false := by simp [s8]
                        have e9 : (m != -1) = false := by simp [s9]
                        have HZ := Lib.hid (HJ2.out (by rw [HBE.out]; exact decide_eq_false (by omega)))
                        clear HBD HBE HJ2 s0 s2 s8 s9
                        go_wp2_with fail
                        go_roundw
                        case rel => exact ⟨i + 1, by omega, by go_num, HZ.out, trivial⟩
                        case measure => simp only [intOf]; omega
                      · have r0 : decide ((T : Int) ≤ (i : Int)) = false := decide_eq_false (by omega)
                        have r0n : decide (T ≤ i) = false := decide_eq_false (by omega)
                        have r1 : decide ((i : Int) < (T : Int)) = true := decide_eq_true (by omega)
                        have r1n : decide (i < T) = true := decide_eq_true (by omega)
                        have r2 : decide ((m : Int) < 0) = true := decide_eq_true (by omega)
                        have e8 : (k != 8) = false := by simp [s8]
                        have e9 : (m != -1) = true := by simpa using s9
                        have HZ : Hid (R = false) := HBD.out (by rw [HBE.out]; exact decide_eq_true (by omega))
                        clear HBD HBE HJ2 HAL s0 s2 s8 s9
                        go_wp2_with fail
                        go_ret
                        exact ⟨congrArg (fun z => Ending.returned (Value.bool z)) HZ.out.symm, HB2.out⟩
                    · have r0 : decide ((T : Int) ≤ (i : Int)) = false := decide_eq_false (by omega)
                      have r0n : decide (T ≤ i) = false := decide_eq_false (by omega)
                      have r1 : decide ((i : Int) < (T : Int)) = true := decide_eq_true (by omega)
                      have r1n : decide (i < T) = true := decide_eq_true (by omega)
                      have r2 : decide ((m : Int) < 0) = true := decide_eq_true (by omega)
                      have e8 : (k != 8) = true := by simpa using s8
                      have HZ : Hid (R = false) := HBD.out (by rw [HBE.out]; exact decide_eq_true (by omega))
                      clear HBD HBE HJ2 HAL s0 s2 s8
                      go_wp2_with fail
                      go_ret
                      exact ⟨congrArg (fun z => Ending.returned (Value.bool z)) HZ.out.symm, HB2.out⟩
                  · by_cases s3 : 999999999 < m
                    · by_cases s8 : k = 8
                      · by_cases s9 : m = -1
                        · have r0 : decide ((T : Int) ≤ (i : Int)) = false := decide_eq_false (by omega)
                          have r0n : decide (T ≤ i) = false := decide_eq_false (by omega)
                          have r1 : decide ((i : Int) < (T : Int)) = true := decide_eq_true (by omega)
                          have r1n : decide (i < T) = true := decide_eq_true (by omega)
                          have r2 : decide ((m : Int) < 0) = false := decide_eq_false (by omega)
                          have r3 : decide ((999999999 : Int) < m) = true := decide_eq_true (by omega)
                          have e8 : (k != 8) = false := by simp [s8]
                          have e9 : (m != -1) = false := by simp [s9]
                          have HZ := Lib.hid (HJ2.out (by rw [HBE.out]; exact decide_eq_false (by omega)))
                          clear HBD HBE HJ2 s0 s2 s3 s8 s9
                          go_wp2_with fail
                          go_roundw
                          case rel => exact ⟨i + 1, by omega, by go_num, HZ.out, trivial⟩
                          case measure => simp only [intOf]; omega
                        · have r0 : decide ((T : Int) ≤ (i : Int)) = false := decide_eq_false (by omega)
                          have r0n : decide (T ≤ i) = false := decide_eq_false (by omega)
                          have r1 : decide ((i : Int) < (T : Int)) = true := decide_eq_true (by omega)
                          have r1n : decide (i < T) = true := decide_eq_true (by omega)
                          have r2 : decide ((m : Int) < 0) = false := decide_eq_false (by omega)
                          have r3 : decide ((999999999 : Int) < m) = true := decide_eq_true (by omega)
                          have e8 : (k != 8) = false := by simp [s8]
                          have e9 : (m != -1) = true := by simpa using s9
                          have HZ : Hid (R = false) := HBD.out (by rw [HBE.out]; exact decide_eq_true (by omega))
                          clear HBD HBE HJ2 HAL s0 s2 s3 s8 s9
                          go_wp2_with fail
                          go_ret
                          exact ⟨congrArg (fun z => Ending.returned (Value.bool z)) HZ.out.symm, HB2.out⟩
                      · have r0 : decide ((T : Int) ≤ (i : Int)) = false := decide_eq_false (by omega)
                        have r0n : decide (T ≤ i) = false := decide_eq_false (by omega)
                        have r1 : decide ((i : Int) < (T : Int)) = true := decide_eq_true (by omega)
                        have r1n : decide (i < T) = true := decide_eq_true (by omega)
                        have r2 : decide ((m : Int) < 0) = false := decide_eq_false (by omega)
                        have r3 : decide ((999999999 : Int) < m) = true := decide_eq_true (by omega)
                        have e8 : (k != 8) = true := by simpa using s8
                        have HZ : Hid (R = false) := HBD.out (by rw [HBE.out]; exact decide_eq_true (by omega))
                        clear HBD HBE HJ2 HAL s0 s2 s3 s8
                        go_wp2_with fail
                        go_ret
                        exact ⟨congrArg (fun z => Ending.returned (Value.bool z)) HZ.out.symm, HB2.out⟩
                    · have r0 : decide ((T : Int) ≤ (i : Int)) = false := decide_eq_false (by omega)
                      have r0n : decide (T ≤ i) = false := decide_eq_false (by omega)
                      have r1 : decide ((i : Int) < (T : Int)) = true := decide_eq_true (by omega)
                      have r1n : decide (i < T) = true := decide_eq_true (by omega)
                      have r2 : decide ((m : Int) < 0) = false := decide_eq_false (by omega)
                      have r3 : decide ((999999999 : Int) < m) = false := decide_eq_false (by omega)
                      have HZ := Lib.hid (HJ2.out (by rw [HBE.out]; exact decide_eq_false (by omega)))
                      clear HBD HBE HJ2 s0 s2 s3
                      go_wp2_with fail
                      go_roundw
                      case rel => exact ⟨i + 1, by omega, by go_num, HZ.out, trivial⟩
                      case measure => simp only [intOf]; omega
              · obtain rfl : i = 3 := by omega
                have HZ := Lib.hid (HAL.out HJ.out)
                clear HAL HJ HCE HBAD
                obtain ⟨W3, rfl⟩ : ∃ W3 : World, W3 = wr := ⟨_, rfl⟩
                by_cases f4 : k = 4
                · subst f4
                  by_cases n0 : n < 0
                  · have w0 : decide (n < 0) = true := decide_eq_true n0
                    have okm : okM 4 n = false := by unfold okM; rw [if_pos rfl]; exact decide_eq_false (by omega)
                    have HY : Hid (R = false) := by show _ = _; rw [HZ.out, okm]; simp
                    clear HZ
                    try clear okm n0
                    go_wp2_with fail
                    go_ret
                    exact ⟨congrArg (fun z => Ending.returned (Value.bool z)) HY.out.symm, HB2.out⟩
                  · have w0 : decide (n < 0) = false := decide_eq_false n0
                    by_cases n2 : 2 < n
                    · have w2 : decide (2 < n) = true := decide_eq_true n2
                      have okm : okM 4 n = false := by unfold okM; rw [if_pos rfl]; exact decide_eq_false (by omega)
                      have HY : Hid (R = false) := by show _ = _; rw [HZ.out, okm]; simp
                      clear HZ
                      try clear okm n0 n2
                      go_wp2_with fail
                      go_ret
                      exact ⟨congrArg (fun z => Ending.returned (Value.bool z)) HY.out.symm, HB2.out⟩
                    · have w2 : decide (2 < n) = false := decide_eq_false n2
                      have okm : okM 4 n = true := by unfold okM; rw [if_pos rfl]; exact decide_eq_true (by omega)
                      by_cases b0 : bs.length = 0
                      · have p5 : decide ((0 : Int) < (bs.length : Int)) = false := decide_eq_false (by omega)
                        have p5n : decide (0 < bs.length) = false := decide_eq_false (by omega)
                        have okb : ((4 : Int) == 1 || decide (bs.length = 0)) = true := by rw [decide_eq_true b0]; rfl
                        by_cases k0 : keep.length + torn.length = 0
                        · have p6 : decide ((0 : Int) < (keep.length : Int) + (torn.length : Int)) = false := decide_eq_false (by omega)
                          have p6n : decide (0 < keep.length + torn.length) = false := decide_eq_false (by omega)
                          have hadd : IntKind.i64.wrap ((keep.length : Int) + (torn.length : Int)) = (keep.length : Int) + (torn.length : Int) := by rw [IntKind.wrap_i64]; have := HSM.out; omega
                          have okt : ((4 : Int) == 9 || decide (keep.length + torn.length = 0)) = true := by rw [decide_eq_true k0]; rfl
                          have HQ : Hid (R = (keep.all inN && torn.all tornOk)) := by show _ = _; rw [HZ.out, okm, okb, okt, Bool.true_and, Bool.true_and, Bool.true_and]
                          have HQ0 : Hid (R = ((keep.drop 0).all inN && torn.all tornOk)) := HQ.out
                          clear HZ okm okb okt HQ
                          try clear n0 n2 b0 k0
                          have hkl := HSM.out.1
                          have htl := HSM.out.2
                          go_wp2_with fail
                          go_loopw [136] (fun x wr => ∃ i : Nat, i ≤ keep.length ∧ x = .int .i64 i ∧ Hid (R = ((keep.drop i).all inN && torn.all tornOk)) ∧ wr = W3) (fun x _ => keep.length - (intOf x).toNat)
                          case atStart => exact ⟨0, Nat.zero_le _, rfl, HQ0.out, rfl⟩
                          case round =>
                            obtain ⟨i, hi, rfl, HI, rfl⟩ := hrel
                            by_cases h1 : i < keep.length
                            · obtain ⟨x, hx⟩ : ∃ x, keep[i]? = some x := ⟨_, List.getElem?_eq_getElem h1⟩
                              obtain ⟨b', o, rfl, cx⟩ := rowCell (HK.out wr HB02.out) hx
                              replace cx : wr.cell? ⟨b', o + i, none⟩ = some (.int .i64 x) := cx
                              have hI := HI.out
                              rw [all_drop inN hx] at hI
                              clear HI hx
                              by_cases u1 : x < 0
                              · have v1 : decide (x < 0) = true := decide_eq_true u1
                                have HY : Hid (R = false) := by show _ = _; rw [hI, show inN x = false from decide_eq_false (by omega)]; simp
                                clear hI u1
                                go_wp2_with fail
                                go_ret
                                exact ⟨congrArg (fun z => Ending.returned (Value.bool z)) HY.out.symm, HB2.out⟩
                              · have v1 : decide (x < 0) = false := decide_eq_false u1
                                by_cases u2 : 999999999 < x
                                · have v2 : decide (999999999 < x) = true := decide_eq_true u2
                                  have HY : Hid (R = false) := by show _ = _; rw [hI, show inN x = false from decide_eq_false (by omega)]; simp
                                  clear hI u1 u2
                                  go_wp2_with fail
                                  go_ret
                                  exact ⟨congrArg (fun z => Ending.returned (Value.bool z)) HY.out.symm, HB2.out⟩
                                · have v2 : decide (999999999 < x) = false := decide_eq_false u2
                                  have HY : Hid (R = ((keep.drop (i + 1)).all inN && torn.all tornOk)) := by show _ = _; rw [hI, show inN x = true from decide_eq_true (by omega), Bool.true_and]
                                  clear hI u1 u2
                                  go_wp2_with fail
                                  go_roundw
                                  case rel => exact ⟨i + 1, h1, by go_num, HY.out, trivial⟩
                                  case measure => simp only [intOf]; omega
                            · have HT0 : Hid (R = (torn.drop 0).all tornOk) := by show _ = _; rw [HI.out, List.drop_of_length_le (by omega)]; rfl
                              have hi2 : i = keep.length := by omega
                              subst hi2
                              clear HI
                              obtain ⟨W4, rfl⟩ : ∃ W4 : World, W4 = wr := ⟨_, rfl⟩
                              go_wp2_with fail
                              go_loopw [150] (fun x wr => ∃ i : Nat, i ≤ torn.length ∧ x = .int .i64 i ∧ Hid (R = (torn.drop i).all tornOk) ∧ Below W4.heap.size W4 wr) (fun x _ => torn.length - (intOf x).toNat)
                              case atStart => exact ⟨0, Nat.zero_le _, rfl, HT0.out, Below.refl _ _⟩
                              case round =>
                                obtain ⟨i, hi, rfl, HI, hbe⟩ := hrel
                                have hbw := HB2.out.trans (hbe.mono HB2.out.size)
                                by_cases h1 : i < torn.length
                                · obtain ⟨⟨z, zs⟩, hx⟩ : ∃ x, torn[i]? = some x := ⟨_, List.getElem?_eq_getElem h1⟩
                                  obtain ⟨aq, cq, hv, -, hcl⟩ := (HT.out wr (HB02.out.trans (hbe.mono HB02.out.size))).shape rtC_len
                                  cases hv
                                  obtain ⟨b', o, rfl, hcx⟩ := hcl i _ hx
                                  have x0 := hcx 0 _ rfl
                                  have x1 := hcx 1 _ rfl
                                  have hbb : b' < wr.heap.size := World.block_lt_of_cell? wr _ x0
                                  replace x0 : wr.cell? ⟨b', o + i * 2, none⟩ = some (.int .i64 z) := x0
                                  replace x1 : wr.cell? ⟨b', o + i * 2 + 1, none⟩ = some (.string (strB zs)) := x1
                                  have hzs : (strB zs).size = zs.length := strB_size zs
                                  have hI := HI.out
                                  rw [all_drop tornOk hx] at hI
                                  have HBW := Lib.hid hbw
                                  clear HI hx hcx hcl hbw
                                  by_cases u1 : z < 0
                                  · have v1 : decide (z < 0) = true := decide_eq_true u1
                                    have HY : Hid (R = false) := by show _ = _; rw [hI, show tornOk (z, zs) = false from by unfold tornOk; rw [show inN (z, zs).1 = false from decide_eq_false (fun h => by have := h.1; simp only at this; omega)]; rfl]; rfl
                                    clear hI u1
                                    go_wp2_with fail
                                    go_ret
                                    exact ⟨congrArg (fun z => Ending.returned (Value.bool z)) HY.out.symm, HBW.out.alloc HBW.out.size _⟩
                                  · have v1 : decide (z < 0) = false := decide_eq_false u1
                                    by_cases u2 : 999999999 < z
                                    · have v2 : decide (999999999 < z) = true := decide_eq_true u2
                                      have HY : Hid (R = false) := by show _ = _; rw [hI, show tornOk (z, zs) = false from by unfold tornOk; rw [show inN (z, zs).1 = false from decide_eq_false (fun h => by have := h.2; simp only at this; omega)]; rfl]; rfl
                                      clear hI u1 u2
                                      go_wp2_with fail
                                      go_ret
                                      exact ⟨congrArg (fun z => Ending.returned (Value.bool z)) HY.out.symm, HBW.out.alloc HBW.out.size _⟩
                                    · have v2 : decide (999999999 < z) = false := decide_eq_false u2
                                      have hin : inN (z, zs).1 = true := decide_eq_true (by simp only; omega)
                                      by_cases u3 : 4096 < zs.length
                                      · have v3 : decide ((4096 : Int) < (zs.length : Int)) = true := decide_eq_true (by omega)
                                        have HY : Hid (R = false) := by show _ = _; rw [hI, show tornOk (z, zs) = false from by unfold tornOk; rw [hin, decide_eq_false (by simp only; omega)]; rfl]; rfl
                                        clear hI u1 u2 u3 hin
                                        go_wp2_with fail
                                        go_ret
                                        exact ⟨congrArg (fun z => Ending.returned (Value.bool z)) HY.out.symm, HBW.out.alloc HBW.out.size _⟩
                                      · have v3 : decide ((4096 : Int) < (zs.length : Int)) = false := decide_eq_false (by omega)
                                        have HY : Hid (R = (torn.drop (i + 1)).all tornOk) := by show _ = _; rw [hI, show tornOk (z, zs) = true from by unfold tornOk; rw [hin, decide_eq_true (by simp only; omega)]; rfl, Bool.true_and]
                                        clear hI u1 u2 u3 hin
                                        go_wp2_with fail
                                        go_roundw
                                        case rel => exact ⟨i + 1, h1, by go_num, HY.out, hbe.alloc hbe.size _⟩
                                        case measure => simp only [intOf]; omega
                                · have HY : Hid (R = true) := by show _ = _; rw [HI.out, List.drop_of_length_le (by omega)]; rfl
                                  clear HI
                                  go_wp2_with fail
                                  go_ret
                                  exact ⟨congrArg (fun z => Ending.returned (Value.bool z)) HY.out.symm, hbw⟩
                        · have p6 : decide ((0 : Int) < (keep.length : Int) + (torn.length : Int)) = true := decide_eq_true (by omega)
                          have p6n : decide (0 < keep.length + torn.length) = true := decide_eq_true (by omega)
                          have hadd : IntKind.i64.wrap ((keep.length : Int) + (torn.length : Int)) = (keep.length : Int) + (torn.length : Int) := by rw [IntKind.wrap_i64]; have := HSM.out; omega
                          have okt : ((4 : Int) == 9 || decide (keep.length + torn.length = 0)) = false := by rw [decide_eq_false k0]; rfl
                          have HY : Hid (R = false) := by show _ = _; rw [HZ.out, okt]; simp
                          clear HZ
                          try clear okm okb okt n0 n2 b0 k0
                          go_wp2_with fail
                          go_ret
                          exact ⟨congrArg (fun z => Ending.returned (Value.bool z)) HY.out.symm, HB2.out⟩
                      · have p5 : decide ((0 : Int) < (bs.length : Int)) = true := decide_eq_true (by omega)
                        have p5n : decide (0 < bs.length) = true := decide_eq_true (by omega)
                        have okb : ((4 : Int) == 1 || decide (bs.length = 0)) = false := by rw [decide_eq_false b0]; rfl
                        have HY : Hid (R = false) := by show _ = _; rw [HZ.out, okb]; simp
                        clear HZ
                        try clear okm okb n0 n2 b0
                        go_wp2_with fail
                        go_ret
                        exact ⟨congrArg (fun z => Ending.returned (Value.bool z)) HY.out.symm, HB2.out⟩
                · have e4 : (k == 4) = false := by simpa using f4
                  have e4n : (k != 4) = true := by simpa using f4
                  by_cases n0 : n = 0
                  · have okm : okM k n = true := by unfold okM; rw [if_neg f4, n0]; rfl
                    subst n0
                    by_cases f1 : k = 1
                    · subst f1
                      have okb : ((1 : Int) == 1 || decide (bs.length = 0)) = true := rfl
                      by_cases k0 : keep.length + torn.length = 0
                      · have p6 : decide ((0 : Int) < (keep.length : Int) + (torn.length : Int)) = false := decide_eq_false (by omega)
                        have p6n : decide (0 < keep.length + torn.length) = false := decide_eq_false (by omega)
                        have hadd : IntKind.i64.wrap ((keep.length : Int) + (torn.length : Int)) = (keep.length : Int) + (torn.length : Int) := by rw [IntKind.wrap_i64]; have := HSM.out; omega
                        have okt : ((1 : Int) == 9 || decide (keep.length + torn.length = 0)) = true := by rw [decide_eq_true k0]; rfl
                        have HQ : Hid (R = (keep.all inN && torn.all tornOk)) := by show _ = _; rw [HZ.out, okm, okb, okt, Bool.true_and, Bool.true_and, Bool.true_and]
                        have HQ0 : Hid (R = ((keep.drop 0).all inN && torn.all tornOk)) := HQ.out
                        clear HZ okm okb okt HQ
                        try clear f4 k0
                        have hkl := HSM.out.1
                        have htl := HSM.out.2
                        go_wp2_with fail
                        go_loopw [136] (fun x wr => ∃ i : Nat, i ≤ keep.length ∧ x = .int .i64 i ∧ Hid (R = ((keep.drop i).all inN && torn.all tornOk)) ∧ wr = W3) (fun x _ => keep.length - (intOf x).toNat)
                        case atStart => exact ⟨0, Nat.zero_le _, rfl, HQ0.out, rfl⟩
                        case round =>
                          obtain ⟨i, hi, rfl, HI, rfl⟩ := hrel
                          by_cases h1 : i < keep.length
                          · obtain ⟨x, hx⟩ : ∃ x, keep[i]? = some x := ⟨_, List.getElem?_eq_getElem h1⟩
                            obtain ⟨b', o, rfl, cx⟩ := rowCell (HK.out wr HB02.out) hx
                            replace cx : wr.cell? ⟨b', o + i, none⟩ = some (.int .i64 x) := cx
                            have hI := HI.out
                            rw [all_drop inN hx] at hI
                            clear HI hx
                            by_cases u1 : x < 0
                            · have v1 : decide (x < 0) = true := decide_eq_true u1
                              have HY : Hid (R = false) := by show _ = _; rw [hI, show inN x = false from decide_eq_false (by omega)]; simp
                              clear hI u1
                              go_wp2_with fail
                              go_ret
                              exact ⟨congrArg (fun z => Ending.returned (Value.bool z)) HY.out.symm, HB2.out⟩
                            · have v1 : decide (x < 0) = false := decide_eq_false u1
                              by_cases u2 : 999999999 < x
                              · have v2 : decide (999999999 < x) = true := decide_eq_true u2
                                have HY : Hid (R = false) := by show _ = _; rw [hI, show inN x = false from decide_eq_false (by omega)]; simp
                                clear hI u1 u2
                                go_wp2_with fail
                                go_ret
                                exact ⟨congrArg (fun z => Ending.returned (Value.bool z)) HY.out.symm, HB2.out⟩
                              · have v2 : decide (999999999 < x) = false := decide_eq_false u2
                                have HY : Hid (R = ((keep.drop (i + 1)).all inN && torn.all tornOk)) := by show _ = _; rw [hI, show inN x = true from decide_eq_true (by omega), Bool.true_and]
                                clear hI u1 u2
                                go_wp2_with fail
                                go_roundw
                                case rel => exact ⟨i + 1, h1, by go_num, HY.out, trivial⟩
                                case measure => simp only [intOf]; omega
                          · have HT0 : Hid (R = (torn.drop 0).all tornOk) := by show _ = _; rw [HI.out, List.drop_of_length_le (by omega)]; rfl
                            have hi2 : i = keep.length := by omega
                            subst hi2
                            clear HI
                            obtain ⟨W4, rfl⟩ : ∃ W4 : World, W4 = wr := ⟨_, rfl⟩
                            go_wp2_with fail
                            go_loopw [150] (fun x wr => ∃ i : Nat, i ≤ torn.length ∧ x = .int .i64 i ∧ Hid (R = (torn.drop i).all tornOk) ∧ Below W4.heap.size W4 wr) (fun x _ => torn.length - (intOf x).toNat)
                            case atStart => exact ⟨0, Nat.zero_le _, rfl, HT0.out, Below.refl _ _⟩
                            case round =>
                              obtain ⟨i, hi, rfl, HI, hbe⟩ := hrel
                              have hbw := HB2.out.trans (hbe.mono HB2.out.size)
                              by_cases h1 : i < torn.length
                              · obtain ⟨⟨z, zs⟩, hx⟩ : ∃ x, torn[i]? = some x := ⟨_, List.getElem?_eq_getElem h1⟩
                                obtain ⟨aq, cq, hv, -, hcl⟩ := (HT.out wr (HB02.out.trans (hbe.mono HB02.out.size))).shape rtC_len
                                cases hv
                                obtain ⟨b', o, rfl, hcx⟩ := hcl i _ hx
                                have x0 := hcx 0 _ rfl
                                have x1 := hcx 1 _ rfl
                                have hbb : b' < wr.heap.size := World.block_lt_of_cell? wr _ x0
                                replace x0 : wr.cell? ⟨b', o + i * 2, none⟩ = some (.int .i64 z) := x0
                                replace x1 : wr.cell? ⟨b', o + i * 2 + 1, none⟩ = some (.string (strB zs)) := x1
                                have hzs : (strB zs).size = zs.length := strB_size zs
                                have hI := HI.out
                                rw [all_drop tornOk hx] at hI
                                have HBW := Lib.hid hbw
                                clear HI hx hcx hcl hbw
                                by_cases u1 : z < 0
                                · have v1 : decide (z < 0) = true := decide_eq_true u1
                                  have HY : Hid (R = false) := by show _ = _; rw [hI, show tornOk (z, zs) = false from by unfold tornOk; rw [show inN (z, zs).1 = false from decide_eq_false (fun h => by have := h.1; simp only at this; omega)]; rfl]; rfl
                                  clear hI u1
                                  go_wp2_with fail
                                  go_ret
                                  exact ⟨congrArg (fun z => Ending.returned (Value.bool z)) HY.out.symm, HBW.out.alloc HBW.out.size _⟩
                                · have v1 : decide (z < 0) = false := decide_eq_false u1
                                  by_cases u2 : 999999999 < z
                                  · have v2 : decide (999999999 < z) = true := decide_eq_true u2
                                    have HY : Hid (R = false) := by show _ = _; rw [hI, show tornOk (z, zs) = false from by unfold tornOk; rw [show inN (z, zs).1 = false from decide_eq_false (fun h => by have := h.2; simp only at this; omega)]; rfl]; rfl
                                    clear hI u1 u2
                                    go_wp2_with fail
                                    go_ret
                                    exact ⟨congrArg (fun z => Ending.returned (Value.bool z)) HY.out.symm, HBW.out.alloc HBW.out.size _⟩
                                  · have v2 : decide (999999999 < z) = false := decide_eq_false u2
                                    have hin : inN (z, zs).1 = true := decide_eq_true (by simp only; omega)
                                    by_cases u3 : 4096 < zs.length
                                    · have v3 : decide ((4096 : Int) < (zs.length : Int)) = true := decide_eq_true (by omega)
                                      have HY : Hid (R = false) := by show _ = _; rw [hI, show tornOk (z, zs) = false from by unfold tornOk; rw [hin, decide_eq_false (by simp only; omega)]; rfl]; rfl
                                      clear hI u1 u2 u3 hin
                                      go_wp2_with fail
                                      go_ret
                                      exact ⟨congrArg (fun z => Ending.returned (Value.bool z)) HY.out.symm, HBW.out.alloc HBW.out.size _⟩
                                    · have v3 : decide ((4096 : Int) < (zs.length : Int)) = false := decide_eq_false (by omega)
                                      have HY : Hid (R = (torn.drop (i + 1)).all tornOk) := by show _ = _; rw [hI, show tornOk (z, zs) = true from by unfold tornOk; rw [hin, decide_eq_true (by simp only; omega)]; rfl, Bool.true_and]
                                      clear hI u1 u2 u3 hin
                                      go_wp2_with fail
                                      go_roundw
                                      case rel => exact ⟨i + 1, h1, by go_num, HY.out, hbe.alloc hbe.size _⟩
                                      case measure => simp only [intOf]; omega
                              · have HY : Hid (R = true) := by show _ = _; rw [HI.out, List.drop_of_length_le (by omega)]; rfl
                                clear HI
                                go_wp2_with fail
                                go_ret
                                exact ⟨congrArg (fun z => Ending.returned (Value.bool z)) HY.out.symm, hbw⟩
                      · have p6 : decide ((0 : Int) < (keep.length : Int) + (torn.length : Int)) = true := decide_eq_true (by omega)
                        have p6n : decide (0 < keep.length + torn.length) = true := decide_eq_true (by omega)
                        have hadd : IntKind.i64.wrap ((keep.length : Int) + (torn.length : Int)) = (keep.length : Int) + (torn.length : Int) := by rw [IntKind.wrap_i64]; have := HSM.out; omega
                        have okt : ((1 : Int) == 9 || decide (keep.length + torn.length = 0)) = false := by rw [decide_eq_false k0]; rfl
                        have HY : Hid (R = false) := by show _ = _; rw [HZ.out, okt]; simp
                        clear HZ
                        try clear okm okb okt f4 k0
                        go_wp2_with fail
                        go_ret
                        exact ⟨congrArg (fun z => Ending.returned (Value.bool z)) HY.out.symm, HB2.out⟩
                    · have e1 : (k == 1) = false := by simpa using f1
                      have e1n : (k != 1) = true := by simpa using f1
                      by_cases b0 : bs.length = 0
                      · have p5 : decide ((0 : Int) < (bs.length : Int)) = false := decide_eq_false (by omega)
                        have p5n : decide (0 < bs.length) = false := decide_eq_false (by omega)
                        have okb : (k == 1 || decide (bs.length = 0)) = true := by rw [decide_eq_true b0, Bool.or_true]
                        by_cases f9 : k = 9
                        · subst f9
                          have okt : ((9 : Int) == 9 || decide (keep.length + torn.length = 0)) = true := rfl
                          have HQ : Hid (R = (keep.all inN && torn.all tornOk)) := by show _ = _; rw [HZ.out, okm, okb, okt, Bool.true_and, Bool.true_and, Bool.true_and]
                          have HQ0 : Hid (R = ((keep.drop 0).all inN && torn.all tornOk)) := HQ.out
                          clear HZ okm okb okt HQ
                          try clear f4 f1 b0
                          have hkl := HSM.out.1
                          have htl := HSM.out.2
                          go_wp2_with fail
                          go_loopw [136] (fun x wr => ∃ i : Nat, i ≤ keep.length ∧ x = .int .i64 i ∧ Hid (R = ((keep.drop i).all inN && torn.all tornOk)) ∧ wr = W3) (fun x _ => keep.length - (intOf x).toNat)
                          case atStart => exact ⟨0, Nat.zero_le _, rfl, HQ0.out, rfl⟩
                          case round =>
                            obtain ⟨i, hi, rfl, HI, rfl⟩ := hrel
                            by_cases h1 : i < keep.length
                            · obtain ⟨x, hx⟩ : ∃ x, keep[i]? = some x := ⟨_, List.getElem?_eq_getElem h1⟩
                              obtain ⟨b', o, rfl, cx⟩ := rowCell (HK.out wr HB02.out) hx
                              replace cx : wr.cell? ⟨b', o + i, none⟩ = some (.int .i64 x) := cx
                              have hI := HI.out
                              rw [all_drop inN hx] at hI
                              clear HI hx
                              by_cases u1 : x < 0
                              · have v1 : decide (x < 0) = true := decide_eq_true u1
                                have HY : Hid (R = false) := by show _ = _; rw [hI, show inN x = false from decide_eq_false (by omega)]; simp
                                clear hI u1
                                go_wp2_with fail
                                go_ret
                                exact ⟨congrArg (fun z => Ending.returned (Value.bool z)) HY.out.symm, HB2.out⟩
                              · have v1 : decide (x < 0) = false := decide_eq_false u1
                                by_cases u2 : 999999999 < x
                                · have v2 : decide (999999999 < x) = true := decide_eq_true u2
                                  have HY : Hid (R = false) := by show _ = _; rw [hI, show inN x = false from decide_eq_false (by omega)]; simp
                                  clear hI u1 u2
                                  go_wp2_with fail
                                  go_ret
                                  exact ⟨congrArg (fun z => Ending.returned (Value.bool z)) HY.out.symm, HB2.out⟩
                                · have v2 : decide (999999999 < x) = false := decide_eq_false u2
                                  have HY : Hid (R = ((keep.drop (i + 1)).all inN && torn.all tornOk)) := by show _ = _; rw [hI, show inN x = true from decide_eq_true (by omega), Bool.true_and]
                                  clear hI u1 u2
                                  go_wp2_with fail
                                  go_roundw
                                  case rel => exact ⟨i + 1, h1, by go_num, HY.out, trivial⟩
                                  case measure => simp only [intOf]; omega
                            · have HT0 : Hid (R = (torn.drop 0).all tornOk) := by show _ = _; rw [HI.out, List.drop_of_length_le (by omega)]; rfl
                              have hi2 : i = keep.length := by omega
                              subst hi2
                              clear HI
                              obtain ⟨W4, rfl⟩ : ∃ W4 : World, W4 = wr := ⟨_, rfl⟩
                              go_wp2_with fail
                              go_loopw [150] (fun x wr => ∃ i : Nat, i ≤ torn.length ∧ x = .int .i64 i ∧ Hid (R = (torn.drop i).all tornOk) ∧ Below W4.heap.size W4 wr) (fun x _ => torn.length - (intOf x).toNat)
                              case atStart => exact ⟨0, Nat.zero_le _, rfl, HT0.out, Below.refl _ _⟩
                              case round =>
                                obtain ⟨i, hi, rfl, HI, hbe⟩ := hrel
                                have hbw := HB2.out.trans (hbe.mono HB2.out.size)
                                by_cases h1 : i < torn.length
                                · obtain ⟨⟨z, zs⟩, hx⟩ : ∃ x, torn[i]? = some x := ⟨_, List.getElem?_eq_getElem h1⟩
                                  obtain ⟨aq, cq, hv, -, hcl⟩ := (HT.out wr (HB02.out.trans (hbe.mono HB02.out.size))).shape rtC_len
                                  cases hv
                                  obtain ⟨b', o, rfl, hcx⟩ := hcl i _ hx
                                  have x0 := hcx 0 _ rfl
                                  have x1 := hcx 1 _ rfl
                                  have hbb : b' < wr.heap.size := World.block_lt_of_cell? wr _ x0
                                  replace x0 : wr.cell? ⟨b', o + i * 2, none⟩ = some (.int .i64 z) := x0
                                  replace x1 : wr.cell? ⟨b', o + i * 2 + 1, none⟩ = some (.string (strB zs)) := x1
                                  have hzs : (strB zs).size = zs.length := strB_size zs
                                  have hI := HI.out
                                  rw [all_drop tornOk hx] at hI
                                  have HBW := Lib.hid hbw
                                  clear HI hx hcx hcl hbw
                                  by_cases u1 : z < 0
                                  · have v1 : decide (z < 0) = true := decide_eq_true u1
                                    have HY : Hid (R = false) := by show _ = _; rw [hI, show tornOk (z, zs) = false from by unfold tornOk; rw [show inN (z, zs).1 = false from decide_eq_false (fun h => by have := h.1; simp only at this; omega)]; rfl]; rfl
                                    clear hI u1
                                    go_wp2_with fail
                                    go_ret
                                    exact ⟨congrArg (fun z => Ending.returned (Value.bool z)) HY.out.symm, HBW.out.alloc HBW.out.size _⟩
                                  · have v1 : decide (z < 0) = false := decide_eq_false u1
                                    by_cases u2 : 999999999 < z
                                    · have v2 : decide (999999999 < z) = true := decide_eq_true u2
                                      have HY : Hid (R = false) := by show _ = _; rw [hI, show tornOk (z, zs) = false from by unfold tornOk; rw [show inN (z, zs).1 = false from decide_eq_false (fun h => by have := h.2; simp only at this; omega)]; rfl]; rfl
                                      clear hI u1 u2
                                      go_wp2_with fail
                                      go_ret
                                      exact ⟨congrArg (fun z => Ending.returned (Value.bool z)) HY.out.symm, HBW.out.alloc HBW.out.size _⟩
                                    · have v2 : decide (999999999 < z) = false := decide_eq_false u2
                                      have hin : inN (z, zs).1 = true := decide_eq_true (by simp only; omega)
                                      by_cases u3 : 4096 < zs.length
                                      · have v3 : decide ((4096 : Int) < (zs.length : Int)) = true := decide_eq_true (by omega)
                                        have HY : Hid (R = false) := by show _ = _; rw [hI, show tornOk (z, zs) = false from by unfold tornOk; rw [hin, decide_eq_false (by simp only; omega)]; rfl]; rfl
                                        clear hI u1 u2 u3 hin
                                        go_wp2_with fail
                                        go_ret
                                        exact ⟨congrArg (fun z => Ending.returned (Value.bool z)) HY.out.symm, HBW.out.alloc HBW.out.size _⟩
                                      · have v3 : decide ((4096 : Int) < (zs.length : Int)) = false := decide_eq_false (by omega)
                                        have HY : Hid (R = (torn.drop (i + 1)).all tornOk) := by show _ = _; rw [hI, show tornOk (z, zs) = true from by unfold tornOk; rw [hin, decide_eq_true (by simp only; omega)]; rfl, Bool.true_and]
                                        clear hI u1 u2 u3 hin
                                        go_wp2_with fail
                                        go_roundw
                                        case rel => exact ⟨i + 1, h1, by go_num, HY.out, hbe.alloc hbe.size _⟩
                                        case measure => simp only [intOf]; omega
                                · have HY : Hid (R = true) := by show _ = _; rw [HI.out, List.drop_of_length_le (by omega)]; rfl
                                  clear HI
                                  go_wp2_with fail
                                  go_ret
                                  exact ⟨congrArg (fun z => Ending.returned (Value.bool z)) HY.out.symm, hbw⟩
                        · have e9 : (k == 9) = false := by simpa using f9
                          have e9n : (k != 9) = true := by simpa using f9
                          by_cases k0 : keep.length + torn.length = 0
                          · have p6 : decide ((0 : Int) < (keep.length : Int) + (torn.length : Int)) = false := decide_eq_false (by omega)
                            have p6n : decide (0 < keep.length + torn.length) = false := decide_eq_false (by omega)
                            have hadd : IntKind.i64.wrap ((keep.length : Int) + (torn.length : Int)) = (keep.length : Int) + (torn.length : Int) := by rw [IntKind.wrap_i64]; have := HSM.out; omega
                            have okt : (k == 9 || decide (keep.length + torn.length = 0)) = true := by rw [decide_eq_true k0, Bool.or_true]
                            have HQ : Hid (R = (keep.all inN && torn.all tornOk)) := by show _ = _; rw [HZ.out, okm, okb, okt, Bool.true_and, Bool.true_and, Bool.true_and]
                            have HQ0 : Hid (R = ((keep.drop 0).all inN && torn.all tornOk)) := HQ.out
                            clear HZ okm okb okt HQ
                            try clear f4 f1 f9 b0 k0
                            have hkl := HSM.out.1
                            have htl := HSM.out.2
                            go_wp2_with fail
                            go_loopw [136] (fun x wr => ∃ i : Nat, i ≤ keep.length ∧ x = .int .i64 i ∧ Hid (R = ((keep.drop i).all inN && torn.all tornOk)) ∧ wr = W3) (fun x _ => keep.length - (intOf x).toNat)
                            case atStart => exact ⟨0, Nat.zero_le _, rfl, HQ0.out, rfl⟩
                            case round =>
                              obtain ⟨i, hi, rfl, HI, rfl⟩ := hrel
                              by_cases h1 : i < keep.length
                              · obtain ⟨x, hx⟩ : ∃ x, keep[i]? = some x := ⟨_, List.getElem?_eq_getElem h1⟩
                                obtain ⟨b', o, rfl, cx⟩ := rowCell (HK.out wr HB02.out) hx
                                replace cx : wr.cell? ⟨b', o + i, none⟩ = some (.int .i64 x) := cx
                                have hI := HI.out
                                rw [all_drop inN hx] at hI
                                clear HI hx
                                by_cases u1 : x < 0
                                · have v1 : decide (x < 0) = true := decide_eq_true u1
                                  have HY : Hid (R = false) := by show _ = _; rw [hI, show inN x = false from decide_eq_false (by omega)]; simp
                                  clear hI u1
                                  go_wp2_with fail
                                  go_ret
                                  exact ⟨congrArg (fun z => Ending.returned (Value.bool z)) HY.out.symm, HB2.out⟩
                                · have v1 : decide (x < 0) = false := decide_eq_false u1
                                  by_cases u2 : 999999999 < x
                                  · have v2 : decide (999999999 < x) = true := decide_eq_true u2
                                    have HY : Hid (R = false) := by show _ = _; rw [hI, show inN x = false from decide_eq_false (by omega)]; simp
                                    clear hI u1 u2
                                    go_wp2_with fail
                                    go_ret
                                    exact ⟨congrArg (fun z => Ending.returned (Value.bool z)) HY.out.symm, HB2.out⟩
                                  · have v2 : decide (999999999 < x) = false := decide_eq_false u2
                                    have HY : Hid (R = ((keep.drop (i + 1)).all inN && torn.all tornOk)) := by show _ = _; rw [hI, show inN x = true from decide_eq_true (by omega), Bool.true_and]
                                    clear hI u1 u2
                                    go_wp2_with fail
                                    go_roundw
                                    case rel => exact ⟨i + 1, h1, by go_num, HY.out, trivial⟩
                                    case measure => simp only [intOf]; omega
                              · have HT0 : Hid (R = (torn.drop 0).all tornOk) := by show _ = _; rw [HI.out, List.drop_of_length_le (by omega)]; rfl
                                have hi2 : i = keep.length := by omega
                                subst hi2
                                clear HI
                                obtain ⟨W4, rfl⟩ : ∃ W4 : World, W4 = wr := ⟨_, rfl⟩
                                go_wp2_with fail
                                go_loopw [150] (fun x wr => ∃ i : Nat, i ≤ torn.length ∧ x = .int .i64 i ∧ Hid (R = (torn.drop i).all tornOk) ∧ Below W4.heap.size W4 wr) (fun x _ => torn.length - (intOf x).toNat)
                                case atStart => exact ⟨0, Nat.zero_le _, rfl, HT0.out, Below.refl _ _⟩
                                case round =>
                                  obtain ⟨i, hi, rfl, HI, hbe⟩ := hrel
                                  have hbw := HB2.out.trans (hbe.mono HB2.out.size)
                                  by_cases h1 : i < torn.length
                                  · obtain ⟨⟨z, zs⟩, hx⟩ : ∃ x, torn[i]? = some x := ⟨_, List.getElem?_eq_getElem h1⟩
                                    obtain ⟨aq, cq, hv, -, hcl⟩ := (HT.out wr (HB02.out.trans (hbe.mono HB02.out.size))).shape rtC_len
                                    cases hv
                                    obtain ⟨b', o, rfl, hcx⟩ := hcl i _ hx
                                    have x0 := hcx 0 _ rfl
                                    have x1 := hcx 1 _ rfl
                                    have hbb : b' < wr.heap.size := World.block_lt_of_cell? wr _ x0
                                    replace x0 : wr.cell? ⟨b', o + i * 2, none⟩ = some (.int .i64 z) := x0
                                    replace x1 : wr.cell? ⟨b', o + i * 2 + 1, none⟩ = some (.string (strB zs)) := x1
                                    have hzs : (strB zs).size = zs.length := strB_size zs
                                    have hI := HI.out
                                    rw [all_drop tornOk hx] at hI
                                    have HBW := Lib.hid hbw
                                    clear HI hx hcx hcl hbw
                                    by_cases u1 : z < 0
                                    · have v1 : decide (z < 0) = true := decide_eq_true u1
                                      have HY : Hid (R = false) := by show _ = _; rw [hI, show tornOk (z, zs) = false from by unfold tornOk; rw [show inN (z, zs).1 = false from decide_eq_false (fun h => by have := h.1; simp only at this; omega)]; rfl]; rfl
                                      clear hI u1
                                      go_wp2_with fail
                                      go_ret
                                      exact ⟨congrArg (fun z => Ending.returned (Value.bool z)) HY.out.symm, HBW.out.alloc HBW.out.size _⟩
                                    · have v1 : decide (z < 0) = false := decide_eq_false u1
                                      by_cases u2 : 999999999 < z
                                      · have v2 : decide (999999999 < z) = true := decide_eq_true u2
                                        have HY : Hid (R = false) := by show _ = _; rw [hI, show tornOk (z, zs) = false from by unfold tornOk; rw [show inN (z, zs).1 = false from decide_eq_false (fun h => by have := h.2; simp only at this; omega)]; rfl]; rfl
                                        clear hI u1 u2
                                        go_wp2_with fail
                                        go_ret
                                        exact ⟨congrArg (fun z => Ending.returned (Value.bool z)) HY.out.symm, HBW.out.alloc HBW.out.size _⟩
                                      · have v2 : decide (999999999 < z) = false := decide_eq_false u2
                                        have hin : inN (z, zs).1 = true := decide_eq_true (by simp only; omega)
                                        by_cases u3 : 4096 < zs.length
                                        · have v3 : decide ((4096 : Int) < (zs.length : Int)) = true := decide_eq_true (by omega)
                                          have HY : Hid (R = false) := by show _ = _; rw [hI, show tornOk (z, zs) = false from by unfold tornOk; rw [hin, decide_eq_false (by simp only; omega)]; rfl]; rfl
                                          clear hI u1 u2 u3 hin
                                          go_wp2_with fail
                                          go_ret
                                          exact ⟨congrArg (fun z => Ending.returned (Value.bool z)) HY.out.symm, HBW.out.alloc HBW.out.size _⟩
                                        · have v3 : decide ((4096 : Int) < (zs.length : Int)) = false := decide_eq_false (by omega)
                                          have HY : Hid (R = (torn.drop (i + 1)).all tornOk) := by show _ = _; rw [hI, show tornOk (z, zs) = true from by unfold tornOk; rw [hin, decide_eq_true (by simp only; omega)]; rfl, Bool.true_and]
                                          clear hI u1 u2 u3 hin
                                          go_wp2_with fail
                                          go_roundw
                                          case rel => exact ⟨i + 1, h1, by go_num, HY.out, hbe.alloc hbe.size _⟩
                                          case measure => simp only [intOf]; omega
                                  · have HY : Hid (R = true) := by show _ = _; rw [HI.out, List.drop_of_length_le (by omega)]; rfl
                                    clear HI
                                    go_wp2_with fail
                                    go_ret
                                    exact ⟨congrArg (fun z => Ending.returned (Value.bool z)) HY.out.symm, hbw⟩
                          · have p6 : decide ((0 : Int) < (keep.length : Int) + (torn.length : Int)) = true := decide_eq_true (by omega)
                            have p6n : decide (0 < keep.length + torn.length) = true := decide_eq_true (by omega)
                            have hadd : IntKind.i64.wrap ((keep.length : Int) + (torn.length : Int)) = (keep.length : Int) + (torn.length : Int) := by rw [IntKind.wrap_i64]; have := HSM.out; omega
                            have okt : (k == 9 || decide (keep.length + torn.length = 0)) = false := by rw [decide_eq_false k0, e9]; rfl
                            have HY : Hid (R = false) := by show _ = _; rw [HZ.out, okt]; simp
                            clear HZ
                            try clear okm okb okt f4 f1 f9 b0 k0
                            go_wp2_with fail
                            go_ret
                            exact ⟨congrArg (fun z => Ending.returned (Value.bool z)) HY.out.symm, HB2.out⟩
                      · have p5 : decide ((0 : Int) < (bs.length : Int)) = true := decide_eq_true (by omega)
                        have p5n : decide (0 < bs.length) = true := decide_eq_true (by omega)
                        have okb : (k == 1 || decide (bs.length = 0)) = false := by rw [decide_eq_false b0, e1]; rfl
                        have HY : Hid (R = false) := by show _ = _; rw [HZ.out, okb]; simp
                        clear HZ
                        try clear okm okb f4 f1 b0
                        go_wp2_with fail
                        go_ret
                        exact ⟨congrArg (fun z => Ending.returned (Value.bool z)) HY.out.symm, HB2.out⟩
                  · have w0 : (n != 0) = true := by simpa using n0
                    have okm : okM k n = false := by unfold okM; rw [if_neg f4]; simpa using n0
                    have HY : Hid (R = false) := by show _ = _; rw [HZ.out, okm]; simp
                    clear HZ
                    try clear okm f4 n0
                    go_wp2_with fail
                    go_ret
                    exact ⟨congrArg (fun z => Ending.returned (Value.bool z)) HY.out.symm, HB2.out⟩
end Go.Proofs.YtbcpciegdmminaaGreatDoor
