/- Paths: the parser's step. -/
import Derived.Test.YtcjflglpkpkflaaGreatDoorPaC
namespace Go.Proofs.YtcjflglpkpkflaaGreatDoor
open Go Go.RowKit
set_option linter.unusedVariables false
theorem sizeSt : (Tryz.prog.info? 62).map (·.size) = some 10 := by kernel_rfl
/-- a step whose key has no rows, by its cells -/
def stepA (k n t kk : Int) (nn : Nat) (tt : Bs) : Array Value := #[.int .i64 k, .int .i64 n, .int .i64 t, .int .i64 kk, .int .u64 (nn : Int), .string (strB tt), .slice none 0 0, .string (strB []), .slice none 0 0, .slice none 0 0]
theorem stepA_size (k n t kk : Int) (nn : Nat) (tt : Bs) : (stepA k n t kk nn tt).size = 10 := rfl
theorem stepA_one (k n t kk : Int) (nn : Nat) (tt : Bs) : (stepA k n t kk nn tt).all (·.oneCell') = true := by simp [stepA, Value.oneCell']
def stepOk (o : Option (PS × Bs)) (k n t kk : Int) (nn : Nat) (tt l' : Bs) (b' b : Bool) : Prop := match o with | some (s, r) => s = ⟨k, n, t, leafV kk nn tt⟩ ∧ r = l' ∧ b' = b | none => b' = true
/-- what step answers -/
def StepP (o : Option (PS × Bs)) (b : Bool) (g L : Nat) (w : World) (e : Ending) (w' : World) : Prop :=
  ∃ (k n t kk : Int) (nn : Nat) (tt l' : Bs) (b' : Bool), e = .returned (.agg (stepA k n t kk nn tt)) ∧ ((0 ≤ k ∧ k ≤ 6) ∧ (0 ≤ n ∧ n ≤ 1073741824) ∧ (0 ≤ t ∧ t ≤ 1073741824)) ∧ ((0 ≤ kk ∧ kk ≤ 2) ∧ nn < 18446744073709551616 ∧ tt.length ≤ L) ∧ PC w' g l' b' ∧ l'.length ≤ L ∧ Grew [g] w w' ∧ stepOk o k n t kk nn tt l' b' b
/-- a step with a number -/
theorem step_num {l r : Bs} {c : UInt8} {K : Int} {u : Nat} {b' b : Bool} (hs : stepP l = match smallP r with | some (u, r2) => some (⟨K, u, 0, V0⟩, r2) | none => none) (ho : numOk (smallP r) u b' b (r.dropWhile isDg)) : stepOk (stepP l) K u 0 0 0 [] (r.dropWhile isDg) b' b := by
  rw [hs]
  cases hp : smallP r with
  | none => rw [hp] at ho; exact ho
  | some p =>
    obtain ⟨n, r'⟩ := p
    rw [hp] at ho
    obtain ⟨rfl, h2, h3⟩ := ho
    exact ⟨rfl, h3, h2⟩
theorem step_key {l r : Bs} {k : Int} {n : Nat} {t l' : Bs} {b' b : Bool} (hs : stepP l = match keyP r with
    | none => none
    | some (v, r2) => match takeS 125 r2 with
      | some r3 => some (⟨2, 0, 0, v⟩, r3)
      | none => none) (ho : keyOk (keyP r) k n t l' b' b) : stepOk (stepP l) 2 0 0 k n t ((takeS 125 l').getD l') ((takeS 125 l').isNone || b') b := by
  rw [hs]
  cases hp : keyP r with
  | none =>
    rw [hp] at ho
    show ((takeS 125 l').isNone || b') = true
    rw [show b' = true from ho, Bool.or_true]
  | some p =>
    obtain ⟨v, r2⟩ := p
    rw [hp] at ho
    obtain ⟨rfl, rfl, rfl⟩ := ho
    simp only
    cases takeS 125 r2 with
    | none => rfl
    | some q => exact ⟨rfl, rfl, rfl⟩
theorem step_idx {l : Bs} {u : Nat} {b2 b : Bool} {l1 r : Bs} (h1 : l1 = (takeS 91 l).getD l) (hs : stepP l = match takeS 91 l with
    | none => none
    | some r => match smallP r with
      | none => none
      | some (u, r2) => match takeS 58 r2 with
        | none => match takeS 93 r2 with
          | some r3 => some (⟨3, u, 0, V0⟩, r3)
          | none => none
        | some r3 => match smallP r3 with
          | none => none
          | some (m, r4) => match takeS 93 r4 with
            | some r5 => some (⟨5, u, m, V0⟩, r5)
            | none => none) (ho : numOk (smallP l1) u b2 ((takeS 91 l).isNone || b) r) (h58 : takeS 58 r = none) : stepOk (stepP l) 3 u 0 0 0 [] ((takeS 93 r).getD r) ((takeS 93 r).isNone || b2) b := by
  rw [hs]
  cases h91 : takeS 91 l with
  | none =>
    rw [h91] at ho
    show ((takeS 93 r).isNone || b2) = true
    have : b2 = true := by
      revert ho
      cases smallP l1 with
      | none => exact fun h => h
      | some p => rintro ⟨-, h, -⟩; rw [h]; rfl
    rw [this, Bool.or_true]
  | some q =>
    rw [h91] at ho h1
    obtain rfl : l1 = q := h1
    simp only
    cases hp : smallP l1 with
    | none =>
      rw [hp] at ho
      show ((takeS 93 r).isNone || b2) = true
      rw [show b2 = true from ho, Bool.or_true]
    | some p =>
      obtain ⟨u', r2⟩ := p
      rw [hp] at ho
      obtain ⟨rfl, h2, rfl⟩ := ho
      replace h2 : b2 = b := h2
      subst h2
      simp only
      rw [h58]
      simp only
      cases takeS 93 r2 with
      | none => rfl
      | some q => exact ⟨rfl, rfl, rfl⟩
theorem step_span {l : Bs} {u m : Nat} {b2 b3 b : Bool} {l1 r r3 r4 : Bs} (h1 : l1 = (takeS 91 l).getD l) (hs : stepP l = match takeS 91 l with
    | none => none
    | some r => match smallP r with
      | none => none
      | some (u, r2) => match takeS 58 r2 with
        | none => match takeS 93 r2 with
          | some r3 => some (⟨3, u, 0, V0⟩, r3)
          | none => none
        | some r3 => match smallP r3 with
          | none => none
          | some (m, r4) => match takeS 93 r4 with
            | some r5 => some (⟨5, u, m, V0⟩, r5)
            | none => none) (ho : numOk (smallP l1) u b2 ((takeS 91 l).isNone || b) r) (h58 : takeS 58 r = some r3) (ho2 : numOk (smallP r3) m b3 b2 r4) : stepOk (stepP l) 5 u m 0 0 [] ((takeS 93 r4).getD r4) ((takeS 93 r4).isNone || b3) b := by
  rw [hs]
  have hb3 : b2 = true → b3 = true := fun h => by
    revert ho2
    cases smallP r3 with
    | none => exact fun h => h
    | some p => rintro ⟨-, h2, -⟩; rw [h2, h]
  cases h91 : takeS 91 l with
  | none =>
    rw [h91] at ho
    show ((takeS 93 r4).isNone || b3) = true
    have : b2 = true := by
      revert ho
      cases smallP l1 with
      | none => exact fun h => h
      | some p => rintro ⟨-, h, -⟩; rw [h]; rfl
    rw [hb3 this, Bool.or_true]
  | some q =>
    rw [h91] at ho h1
    obtain rfl : l1 = q := h1
    simp only
    cases hp : smallP l1 with
    | none =>
      rw [hp] at ho
      show ((takeS 93 r4).isNone || b3) = true
      rw [hb3 ho, Bool.or_true]
    | some p =>
      obtain ⟨u', r2⟩ := p
      rw [hp] at ho
      obtain ⟨rfl, h2, rfl⟩ := ho
      replace h2 : b2 = b := h2
      subst h2
      simp only
      rw [h58]
      simp only
      cases hp2 : smallP r3 with
      | none =>
        rw [hp2] at ho2
        show ((takeS 93 r4).isNone || b3) = true
        rw [show b3 = true from ho2, Bool.or_true]
      | some p =>
        obtain ⟨m', r5⟩ := p
        rw [hp2] at ho2
        obtain ⟨rfl, rfl, rfl⟩ := ho2
        simp only
        cases takeS 93 r5 with
        | none => rfl
        | some q => exact ⟨rfl, rfl, rfl⟩
set_option maxRecDepth 100000 in
set_option maxHeartbeats 8000000 in
theorem step_any {w : World} {g : Nat} {l : Bs} {b : Bool} (hE : ErrsN w) (h : PC w g l b) (hl : l.length ≤ 1000000) :
    Calls Tryz.prog 27 #[.pointer (some ⟨g, 0, none⟩)] w (StepP (stepP l) b g l.length w) := by
  obtain ⟨W0, hW0⟩ : ∃ W0, W0 = w.alloc (.cells #[.int .i64 0, .int .i64 0, .int .i64 0, .int .i64 0, .int .u64 0, .string ⟨#[]⟩, .slice none 0 0, .string ⟨#[]⟩, .slice none 0 0, .slice none 0 0] 62) := ⟨_, rfl⟩
  obtain ⟨gr, hgr⟩ : ∃ gr, gr = w.heap.size := ⟨_, rfl⟩
  have hb0 : Below w.heap.size w W0 := by rw [hW0]; exact (Below.refl _ _).alloc (Nat.le_refl _) _
  have hg0 : Grew [g] w W0 := Grew.ofBelow hb0
  have hcr : CellsAt W0 gr 62 (stepA 0 0 0 0 0 []) := by rw [hW0, hgr]; exact CellsAt.new w _ _
  have h0 : PC W0 g l b := CellsAt.stays h hb0
  have hlt := CellsAt.lt h
  have hne : gr ∉ [g] := by simp; omega
  have hE0 : ErrsN W0 := hE.stays hb0
  have HST : Hid (∀ w', Grew [g] W0 w' → CellsAt w' gr 62 (stepA 0 0 0 0 0 []) ∧ Grew [g] w w' ∧ ErrsN w') := fun w' hg => ⟨hcr.grew hg hne, hg0.trans hg, hE0.grew h0 hg⟩
  have HWR : Hid (∀ w1 w2, Grew [g] w w1 → w1.grownBy w2 (some gr) → ∀ {l' b'}, PC w1 g l' b' → Grew [g] w w2 ∧ PC w2 g l' b') := fun w1 w2 h1 h2 l' b' h3 =>
    ⟨h1.grown h2 (fun i hi => by cases hi; right; omega), CellsAt.grown h3 h2 (fun e => by cases e; omega)⟩
  have HT46 := Lib.hid (take_any h0 46)
  have HW := Lib.hid hW0
  have HGR := Lib.hid hgr
  have HSP : Hid (stepP l = match takeS 46 l with
    | some r => match smallP r with
      | some (u, r2) => some (⟨1, u, 0, V0⟩, r2)
      | none => none
    | none => match takeS 126 l with
      | some r => some (⟨4, 0, 0, V0⟩, r)
      | none => match takeS 124 l with
        | some r => match smallP r with
          | some (u, r2) => some (⟨6, u, 0, V0⟩, r2)
          | none => none
        | none => match takeS 123 l with
          | some r => match keyP r with
            | none => none
            | some (v, r2) => match takeS 125 r2 with
              | some r3 => some (⟨2, 0, 0, v⟩, r3)
              | none => none
          | none => match takeS 91 l with
            | none => none
            | some r => match smallP r with
              | none => none
              | some (u, r2) => match takeS 58 r2 with
                | none => match takeS 93 r2 with
                  | some r3 => some (⟨3, u, 0, V0⟩, r3)
                  | none => none
                | some r3 => match smallP r3 with
                  | none => none
                  | some (m, r4) => match takeS 93 r4 with
                    | some r5 => some (⟨5, u, m, V0⟩, r5)
                    | none => none) := rfl
  have HL := Lib.hid hl
  clear h hE hl hW0 hgr hb0 hg0 hcr h0 hlt hne hE0
  cases h46 : takeS 46 l with
  | some r =>
    rw [h46] at HT46 HSP
    have hr : r.length ≤ l.length := by rw [takeS_some h46]; simp
    have HR := Lib.hid (Nat.le_trans (drop_le (p := isDg) r) hr)
    have HNum : Hid (∀ w1, ErrsN w1 → PC w1 g r b → Calls Tryz.prog 50 #[.pointer (some ⟨g, 0, none⟩)] w1 (SmallP (smallP r) b g (r.dropWhile isDg) w1)) := fun w1 h1 h2 => small_any h1 h2 (Nat.le_trans hr HL.out)
    have HK : Hid (∀ (u : Nat) b', numOk (smallP r) u b' b (r.dropWhile isDg) → stepOk (stepP l) 1 u 0 0 0 [] (r.dropWhile isDg) b' b) := fun u b' ho => step_num (c := 46) HSP.out ho
    clear HSP h46 hr HL
    generalize stepP l = SP at HK ⊢
    generalize l.length = L at HR ⊢
    go_enter Tryz.func27, Tryz.ntmps27
    go_upto_region 1 with fail
    rw [← HW.out, ← HGR.out]
    clear HW HGR
    go_wp2_with fail
    refine HT46.out.mono ?_
    rintro e w1 ⟨rfl, hc1, hg1⟩
    obtain ⟨-, -, k3⟩ := HST.out w1 hg1
    have HC := Lib.hid (HNum.out w1 k3 hc1)
    have HG1 := Lib.hid hg1
    clear HT46 HNum hc1 hg1 k3
    go_wp2_with fail
    refine HC.out.mono ?_
    rintro e w2 ⟨u, b', rfl, hu, hc2, hg2, ho⟩
    have HOK := Lib.hid (HK.out u b' ho)
    have HU := Lib.hid hu
    obtain ⟨hcr2, hg2', -⟩ := HST.out w2 (HG1.out.trans hg2)
    have HC2 := Lib.hid hc2
    have HG2 := Lib.hid hg2'
    have hoA := stepA_one 1 u 0 0 0 []
    have hsA : (stepA 1 u 0 0 0 []).size = 10 := rfl
    clear HC HG1 hu hc2 hg2 hg2' ho HK
    go_wp2_with (refine wpList_storeW rfl 62 _ _ rfl gr (by rfl) (stepA 1 u 0 0 0 []) (by rfl) 62 _ hcr2 rfl (by rw [hsA]; exact sizeSt) hoA ?_; intro w4 hc4 hg4)
    obtain ⟨q1, q2⟩ := HWR.out w2 w4 HG2.out hg4 HC2.out
    exact bodyPost_ret (v := .agg (stepA 1 u 0 0 0 [])) (results_cell_row rfl _ w4 gr 62 (stepA 1 u 0 0 0 []) (0, 0) _ rfl hc4 Tryz.underlying62 rfl (by rw [hsA]; exact sizeSt)) rfl
      ⟨1, u, 0, 0, 0, [], _, b', rfl, ⟨by decide, ⟨by omega, by have := HU.out; omega⟩, by decide⟩, ⟨by decide, by decide, Nat.zero_le _⟩, q2, HR.out, q1, HOK.out⟩
  | none =>
    rw [h46] at HT46 HSP
    simp only at HSP
    go_enter Tryz.func27, Tryz.ntmps27
    go_upto_region 1 with fail
    rw [← HW.out, ← HGR.out]
    clear HW HGR
    go_wp2_with fail
    refine HT46.out.mono ?_
    rintro e w1 ⟨rfl, hc1, hg1⟩
    clear HT46 h46
    replace hc1 : PC w1 g l b := hc1
    have HT := Lib.hid (take_any hc1 126)
    have HG := Lib.hid hg1
    clear hc1 hg1
    cases h126 : takeS 126 l with
    | some r =>
      rw [h126] at HT HSP
      have HR : Hid (r.length ≤ l.length) := by show _ ≤ _; rw [takeS_some h126]; simp
      have HOK : Hid (stepOk (stepP l) 4 0 0 0 0 [] r b b) := by show stepOk (stepP l) 4 0 0 0 0 [] r b b; rw [HSP.out]; exact ⟨rfl, rfl, rfl⟩
      clear HSP h126 HL
      go_wp2_with fail
      refine HT.out.mono ?_
      rintro e w2 ⟨rfl, hc2, hg2⟩
      replace hc2 : PC w2 g r b := hc2
      obtain ⟨hcr2, hg2', -⟩ := HST.out w2 (HG.out.trans hg2)
      have HC2 := Lib.hid hc2
      have HG2 := Lib.hid hg2'
      have hoA := stepA_one 4 0 0 0 0 []
      have hsA : (stepA 4 0 0 0 0 []).size = 10 := rfl
      clear HT HG hc2 hg2 hg2'
      go_wp2_with (refine wpList_storeW rfl 62 _ _ rfl gr (by rfl) (stepA 4 0 0 0 0 []) (by rfl) 62 _ hcr2 rfl (by rw [hsA]; exact sizeSt) hoA ?_; intro w9 hc9 hg9)
      obtain ⟨q1, q2⟩ := HWR.out w2 w9 HG2.out hg9 HC2.out
      exact bodyPost_ret (v := .agg (stepA 4 0 0 0 0 [])) (results_cell_row rfl _ w9 gr 62 (stepA 4 0 0 0 0 []) (0, 0) _ rfl hc9 Tryz.underlying62 rfl (by rw [hsA]; exact sizeSt)) rfl
        ⟨4, 0, 0, 0, 0, [], r, b, rfl, ⟨by decide, by decide, by decide⟩, ⟨by decide, by decide, Nat.zero_le _⟩, q2, HR.out, q1, HOK.out⟩
    | none =>
      rw [h126] at HT HSP
      simp only at HSP
      clear h126
      go_wp2_with fail
      refine HT.out.mono ?_
      rintro e w2 ⟨rfl, hc2, hg2⟩
      replace hc2 : PC w2 g l b := hc2
      have HT2 := Lib.hid (take_any hc2 124)
      have HG2 := Lib.hid (HG.out.trans hg2)
      clear hc2 hg2 HT HG
      cases h124 : takeS 124 l with
      | some r =>
        rw [h124] at HT2 HSP
        have hr : r.length ≤ l.length := by rw [takeS_some h124]; simp
        have HR := Lib.hid (Nat.le_trans (drop_le (p := isDg) r) hr)
        have HNum : Hid (∀ w1, ErrsN w1 → PC w1 g r b → Calls Tryz.prog 50 #[.pointer (some ⟨g, 0, none⟩)] w1 (SmallP (smallP r) b g (r.dropWhile isDg) w1)) := fun w1 h1 h2 => small_any h1 h2 (Nat.le_trans hr HL.out)
        have HK : Hid (∀ (u : Nat) b', numOk (smallP r) u b' b (r.dropWhile isDg) → stepOk (stepP l) 6 u 0 0 0 [] (r.dropWhile isDg) b' b) := fun u b' ho => step_num (c := 124) HSP.out ho
        clear HSP h124 hr HL
        go_wp2_with fail
        refine HT2.out.mono ?_
        rintro e w3 ⟨rfl, hc3, hg3⟩
        obtain ⟨-, -, k3⟩ := HST.out w3 (HG2.out.trans hg3)
        have HC := Lib.hid (HNum.out w3 k3 hc3)
        have HG3 := Lib.hid (HG2.out.trans hg3)
        clear HT2 HNum hc3 hg3 k3 HG2
        go_wp2_with fail
        refine HC.out.mono ?_
        rintro e w4 ⟨u, b', rfl, hu, hc4, hg4, ho⟩
        have HOK := Lib.hid (HK.out u b' ho)
        have HU := Lib.hid hu
        obtain ⟨hcr4, hg4', -⟩ := HST.out w4 (HG3.out.trans hg4)
        have HC4 := Lib.hid hc4
        have HG4 := Lib.hid hg4'
        have hoA := stepA_one 6 u 0 0 0 []
        have hsA : (stepA 6 u 0 0 0 []).size = 10 := rfl
        clear HC HG3 hu hc4 hg4 hg4' ho HK
        go_wp2_with (refine wpList_storeW rfl 62 _ _ rfl gr (by rfl) (stepA 6 u 0 0 0 []) (by rfl) 62 _ hcr4 rfl (by rw [hsA]; exact sizeSt) hoA ?_; intro w9 hc9 hg9)
        obtain ⟨q1, q2⟩ := HWR.out w4 w9 HG4.out hg9 HC4.out
        exact bodyPost_ret (v := .agg (stepA 6 u 0 0 0 [])) (results_cell_row rfl _ w9 gr 62 (stepA 6 u 0 0 0 []) (0, 0) _ rfl hc9 Tryz.underlying62 rfl (by rw [hsA]; exact sizeSt)) rfl
          ⟨6, u, 0, 0, 0, [], _, b', rfl, ⟨by decide, ⟨by omega, by have := HU.out; omega⟩, by decide⟩, ⟨by decide, by decide, Nat.zero_le _⟩, q2, HR.out, q1, HOK.out⟩
      | none =>
        rw [h124] at HT2 HSP
        simp only at HSP
        clear h124
        go_wp2_with fail
        refine HT2.out.mono ?_
        rintro e w3 ⟨rfl, hc3, hg3⟩
        replace hc3 : PC w3 g l b := hc3
        have HT3 := Lib.hid (take_any hc3 123)
        have HG3 := Lib.hid (HG2.out.trans hg3)
        clear hc3 hg3 HT2 HG2
        cases h123 : takeS 123 l with
        | some r =>
          rw [h123] at HT3 HSP
          have hr : r.length ≤ l.length := by rw [takeS_some h123]; simp
          have HR := Lib.hid hr
          have HKey : Hid (∀ w1, ErrsN w1 → PC w1 g r b → Calls Tryz.prog 51 #[.pointer (some ⟨g, 0, none⟩)] w1 (KeyP (keyP r) b g r.length w1)) := fun w1 h1 h2 => key_any h1 h2 (Nat.le_trans hr HL.out)
          have HK : Hid (∀ k n t l' b', keyOk (keyP r) k n t l' b' b → stepOk (stepP l) 2 0 0 k n t ((takeS 125 l').getD l') ((takeS 125 l').isNone || b') b) := fun k n t l' b' ho => step_key HSP.out ho
          clear HSP h123 hr HL
          go_wp2_with fail
          refine HT3.out.mono ?_
          rintro e w4 ⟨rfl, hc4, hg4⟩
          obtain ⟨-, -, k3⟩ := HST.out w4 (HG3.out.trans hg4)
          have HC := Lib.hid (HKey.out w4 k3 hc4)
          have HG4 := Lib.hid (HG3.out.trans hg4)
          clear HT3 HKey hc4 hg4 k3 HG3
          go_wp2_with fail
          refine HC.out.mono ?_
          rintro e w5 ⟨k, n, t, l', b', he, hk, hn, ht, hc5, hl', hg5, ho⟩
          replace he : e = .returned (.agg #[.int .i64 k, .int .u64 (n : Int), .string (strB t), .slice none 0 0, .string (strB []), .slice none 0 0, .slice none 0 0]) := he
          subst he
          have HOK := Lib.hid (HK.out k n t l' b' ho)
          have HB : Hid ((0 ≤ k ∧ k ≤ 2) ∧ n < 18446744073709551616 ∧ t.length ≤ l.length) := ⟨hk, hn, Nat.le_trans ht HR.out⟩
          have HLL : Hid (((takeS 125 l').getD l').length ≤ l.length) := Nat.le_trans (takeS_len 125 l') (Nat.le_trans hl' HR.out)
          have HMu : Hid (∀ o : Obj, Calls Tryz.prog 52 #[.pointer (some ⟨g, 0, none⟩), .string ⟨#[125]⟩] (w5.alloc o) fun e w' => e = .returned (.tuple #[]) ∧ PC w' g ((takeS 125 l').getD l') ((takeS 125 l').isNone || b') ∧ Grew [g] (w5.alloc o) w') := fun o => must_any (CellsAt.stays hc5 ((Below.refl _ _).alloc (Nat.le_refl _) o)) 125
          have hgx : w5.heap.size ∉ [g] := by have := CellsAt.lt hc5; simp; omega
          have HGX := Lib.hid hgx
          have HG5 := Lib.hid (HG4.out.trans hg5)
          clear HC HG4 HK hk hn ht hc5 hl' hg5 ho hgx
          go_wp2_with fail
          refine (HMu.out _).mono ?_
          rintro e w6 ⟨rfl, hc6, hg6⟩
          have hcx : CellsAt w6 w5.heap.size 62 (stepA 2 0 0 k n t) := CellsAt.grew (CellsAt.new w5 (stepA 2 0 0 k n t) 62) hg6 HGX.out
          obtain ⟨hcr6, hg6', -⟩ := HST.out w6 ((HG5.out.alloc _).trans hg6)
          have HC6 := Lib.hid hc6
          have HG6 := Lib.hid hg6'
          have hoA := stepA_one 2 0 0 k n t
          have hsA : (stepA 2 0 0 k n t).size = 10 := rfl
          obtain ⟨gx, hgx⟩ : ∃ gx, gx = w5.heap.size := ⟨_, rfl⟩
          rw [← hgx] at hcx ⊢
          clear HMu HG5 HGX hc6 hg6 hg6' hgx
          go_wp2_with (first
            | (refine wpList_loadW rfl 62 _ rfl gx (by rfl) 62 _ hcx _ Tryz.underlying62 rfl (by rw [hsA]; exact sizeSt) ?_)
            | (refine wpList_storeW rfl 62 _ _ rfl gr (by rfl) (stepA 2 0 0 k n t) (by rfl) 62 _ hcr6 rfl (by rw [hsA]; exact sizeSt) hoA ?_; intro w9 hc9 hg9))
          obtain ⟨q1, q2⟩ := HWR.out w6 w9 HG6.out hg9 HC6.out
          exact bodyPost_ret (v := .agg (stepA 2 0 0 k n t)) (results_cell_row rfl _ w9 gr 62 (stepA 2 0 0 k n t) (0, 0) _ rfl hc9 Tryz.underlying62 rfl (by rw [hsA]; exact sizeSt)) rfl
            ⟨2, 0, 0, k, n, t, _, _, rfl, ⟨by decide, by decide, by decide⟩, HB.out, q2, HLL.out, q1, HOK.out⟩
        | none =>
          rw [h123] at HT3 HSP
          simp only at HSP
          clear h123
          go_wp2_with fail
          refine HT3.out.mono ?_
          rintro e w4 ⟨rfl, hc4, hg4⟩
          replace hc4 : PC w4 g l b := hc4
          have HM := Lib.hid (must_any hc4 91)
          have HG4 := Lib.hid (HG3.out.trans hg4)
          clear hc4 hg4 HT3 HG3
          obtain ⟨l1, hl1⟩ : ∃ l1, l1 = (takeS 91 l).getD l := ⟨_, rfl⟩
          have hll := takeS_len 91 l
          rw [← hl1] at HM hll
          have HLL1 := Lib.hid hll
          have HL1 := Lib.hid hl1
          have HNum : Hid (∀ w1, ErrsN w1 → PC w1 g l1 ((takeS 91 l).isNone || b) → Calls Tryz.prog 50 #[.pointer (some ⟨g, 0, none⟩)] w1 (SmallP (smallP l1) ((takeS 91 l).isNone || b) g (l1.dropWhile isDg) w1)) := fun w1 h1 h2 => small_any h1 h2 (Nat.le_trans hll HL.out)
          clear hl1 hll
          go_wp2_with fail
          refine HM.out.mono ?_
          rintro e w5 ⟨rfl, hc5, hg5⟩
          obtain ⟨-, -, k3⟩ := HST.out w5 (HG4.out.trans hg5)
          have HC := Lib.hid (HNum.out w5 k3 hc5)
          have HG5 := Lib.hid (HG4.out.trans hg5)
          clear HM HNum hc5 hg5 k3 HG4
          go_wp2_with fail
          refine HC.out.mono ?_
          rintro e w6 ⟨u, b2, rfl, hu, hc6, hg6, ho⟩
          have hdr := drop_le (p := isDg) l1
          obtain ⟨r, hr⟩ : ∃ r, r = l1.dropWhile isDg := ⟨_, rfl⟩
          rw [← hr] at hc6 ho hdr
          have HRL : Hid (r.length ≤ l.length) := Nat.le_trans hdr HLL1.out
          have HTk : Hid (∀ o : Obj, Calls Tryz.prog 49 #[.pointer (some ⟨g, 0, none⟩), .string ⟨#[58]⟩] (w6.alloc o) fun e w' => e = .returned (.bool (takeS 58 r).isSome) ∧ PC w' g ((takeS 58 r).getD r) b2 ∧ Grew [g] (w6.alloc o) w') := fun o => take_any (CellsAt.stays hc6 ((Below.refl _ _).alloc (Nat.le_refl _) o)) 58
          have hgx : w6.heap.size ∉ [g] := by have := CellsAt.lt hc6; simp; omega
          have HGX := Lib.hid hgx
          have HG6 := Lib.hid (HG5.out.trans hg6)
          have HU := Lib.hid hu
          have HO := Lib.hid ho
          clear HC HG5 hu hc6 hg6 ho hgx hr hdr HLL1
          cases h58 : takeS 58 r with
          | none =>
            rw [h58] at HTk
            have HOK := Lib.hid (step_idx HL1.out HSP.out HO.out h58)
            clear HSP HL1 HO h58 HL
            go_wp2_with fail
            refine (HTk.out _).mono ?_
            rintro e w7 ⟨rfl, hc7, hg7⟩
            replace hc7 : PC w7 g r b2 := hc7
            have hcx : CellsAt w7 w6.heap.size 62 (stepA 3 u 0 0 0 []) := CellsAt.grew (CellsAt.new w6 (stepA 3 u 0 0 0 []) 62) hg7 HGX.out
            have HG7 := Lib.hid ((HG6.out.alloc _).trans hg7)
            have HM := Lib.hid (must_any hc7 93)
            have hrl := takeS_len 93 r
            have HRL2 : Hid (((takeS 93 r).getD r).length ≤ l.length) := Nat.le_trans hrl HRL.out
            obtain ⟨gx, hgx⟩ : ∃ gx, gx = w6.heap.size := ⟨_, rfl⟩
            rw [← hgx] at hcx HGX ⊢
            have HCX := Lib.hid hcx
            clear HTk HG6 hc7 hg7 hgx hcx hrl HRL
            go_wp2_with fail
            refine HM.out.mono ?_
            rintro e w8 ⟨rfl, hc8, hg8⟩
            have hcx := CellsAt.grew HCX.out hg8 HGX.out
            obtain ⟨hcr8, hg8', -⟩ := HST.out w8 (HG7.out.trans hg8)
            have HC8 := Lib.hid hc8
            have HG8 := Lib.hid hg8'
            have hoA := stepA_one 3 u 0 0 0 []
            have hsA : (stepA 3 u 0 0 0 []).size = 10 := rfl
            clear HM HCX HG7 hc8 hg8 hg8'
            go_wp2_with (first
              | (refine wpList_loadW rfl 62 _ rfl gx (by rfl) 62 _ hcx _ Tryz.underlying62 rfl (by rw [hsA]; exact sizeSt) ?_)
              | (refine wpList_storeW rfl 62 _ _ rfl gr (by rfl) (stepA 3 u 0 0 0 []) (by rfl) 62 _ hcr8 rfl (by rw [hsA]; exact sizeSt) hoA ?_; intro w9 hc9 hg9))
            obtain ⟨q1, q2⟩ := HWR.out w8 w9 HG8.out hg9 HC8.out
            exact bodyPost_ret (v := .agg (stepA 3 u 0 0 0 [])) (results_cell_row rfl _ w9 gr 62 (stepA 3 u 0 0 0 []) (0, 0) _ rfl hc9 Tryz.underlying62 rfl (by rw [hsA]; exact sizeSt)) rfl
              ⟨3, u, 0, 0, 0, [], _, _, rfl, ⟨by decide, ⟨by omega, by have := HU.out; omega⟩, by decide⟩, ⟨by decide, by decide, Nat.zero_le _⟩, q2, HRL2.out, q1, HOK.out⟩
          | some r3 =>
            rw [h58] at HTk
            have hr3 : r3.length ≤ l.length := by have := HRL.out; rw [takeS_some h58] at this; simp at this; omega
            have HNum : Hid (∀ w1, ErrsN w1 → PC w1 g r3 b2 → Calls Tryz.prog 50 #[.pointer (some ⟨g, 0, none⟩)] w1 (SmallP (smallP r3) b2 g (r3.dropWhile isDg) w1)) := fun w1 h1 h2 => small_any h1 h2 (Nat.le_trans hr3 HL.out)
            have HR4 : Hid ((r3.dropWhile isDg).length ≤ l.length) := Nat.le_trans (drop_le (p := isDg) r3) hr3
            have HOK : Hid (∀ m b3, numOk (smallP r3) m b3 b2 (r3.dropWhile isDg) → stepOk (stepP l) 5 u m 0 0 [] ((takeS 93 (r3.dropWhile isDg)).getD (r3.dropWhile isDg)) ((takeS 93 (r3.dropWhile isDg)).isNone || b3) b) := fun m b3 h => step_span HL1.out HSP.out HO.out h58 h
            clear HSP HL1 HO h58 HL hr3 HRL
            generalize r3.dropWhile isDg = r4 at HNum HR4 HOK
            go_wp2_with fail
            refine (HTk.out _).mono ?_
            rintro e w7 ⟨rfl, hc7, hg7⟩
            replace hc7 : PC w7 g r3 b2 := hc7
            have hcx : CellsAt w7 w6.heap.size 62 (stepA 3 u 0 0 0 []) := CellsAt.grew (CellsAt.new w6 (stepA 3 u 0 0 0 []) 62) hg7 HGX.out
            obtain ⟨-, -, k3⟩ := HST.out w7 ((HG6.out.alloc _).trans hg7)
            have HG7 := Lib.hid ((HG6.out.alloc _).trans hg7)
            have HC := Lib.hid (HNum.out w7 k3 hc7)
            have HSZ : Hid (W0.heap.size ≤ w6.heap.size) := HG6.out.size
            obtain ⟨gx, hgx⟩ : ∃ gx, gx = w6.heap.size := ⟨_, rfl⟩
            rw [← hgx] at hcx HGX HSZ ⊢
            have HCX := Lib.hid hcx
            clear HTk HG6 hc7 hg7 hgx hcx k3 HNum
            go_wp2_with fail
            refine HC.out.mono ?_
            rintro e w8 ⟨m, b3, rfl, hm, hc8, hg8, ho⟩
            have hcx := CellsAt.grew HCX.out hg8 HGX.out
            have x0 := hcx.cell 0 (v := .int .i64 3) rfl
            have x2 := hcx.cell 2 (v := .int .i64 0) rfl
            have y0 := hcx.free 0
            have y2 := hcx.free 2
            have HCX8 : Hid (CellsAt ((w8.setCell ⟨gx, 0, none⟩ (.int .i64 5)).setCell ⟨gx, 2, none⟩ (.int .i64 m)) gx 62 (stepA 5 u m 0 0 [])) := (hcx.set 0 (.int .i64 5)).set 2 (.int .i64 m)
            have hgg : g ≠ gx := fun e => HGX.out (by rw [e]; simp)
            have HC8 : Hid (PC ((w8.setCell ⟨gx, 0, none⟩ (.int .i64 5)).setCell ⟨gx, 2, none⟩ (.int .i64 m)) g r4 b3) := CellsAt.other (CellsAt.other hc8 ⟨gx, 0, none⟩ hgg _) ⟨gx, 2, none⟩ hgg _
            have HG8 : Hid (Grew [g] W0 ((w8.setCell ⟨gx, 0, none⟩ (.int .i64 5)).setCell ⟨gx, 2, none⟩ (.int .i64 m))) := ((HG7.out.trans hg8).setCell (p := ⟨gx, 0, none⟩) (.inr HSZ.out) _).setCell (p := ⟨gx, 2, none⟩) (.inr HSZ.out) _
            have HOK2 := Lib.hid (HOK.out m b3 ho)
            have HM2 := Lib.hid hm
            clear HC HG7 HCX hc8 hg8 ho hcx hgg HOK hm
            go_wp2_with fail
            generalize (w8.setCell ⟨gx, 0, none⟩ (.int .i64 5)).setCell ⟨gx, 2, none⟩ (.int .i64 m) = wb at HCX8 HC8 HG8 ⊢
            have HM := Lib.hid (must_any HC8.out 93)
            have hrl := takeS_len 93 r4
            have HRL2 : Hid (((takeS 93 r4).getD r4).length ≤ l.length) := Nat.le_trans hrl HR4.out
            clear HC8 x0 x2 y0 y2 hrl HR4
            refine HM.out.mono ?_
            rintro e wc ⟨rfl, hcc, hgc⟩
            have hcx := CellsAt.grew HCX8.out hgc HGX.out
            obtain ⟨hcrc, hgc', -⟩ := HST.out wc (HG8.out.trans hgc)
            have HCC := Lib.hid hcc
            have HGC := Lib.hid hgc'
            have hoA := stepA_one 5 u m 0 0 []
            have hsA : (stepA 5 u m 0 0 []).size = 10 := rfl
            clear HM HCX8 HG8 hcc hgc hgc'
            go_wp2_with (first
              | (refine wpList_loadW rfl 62 _ rfl gx (by rfl) 62 _ hcx _ Tryz.underlying62 rfl (by rw [hsA]; exact sizeSt) ?_)
              | (refine wpList_storeW rfl 62 _ _ rfl gr (by rfl) (stepA 5 u m 0 0 []) (by rfl) 62 _ hcrc rfl (by rw [hsA]; exact sizeSt) hoA ?_; intro w9 hc9 hg9))
            obtain ⟨q1, q2⟩ := HWR.out wc w9 HGC.out hg9 HCC.out
            exact bodyPost_ret (v := .agg (stepA 5 u m 0 0 [])) (results_cell_row rfl _ w9 gr 62 (stepA 5 u m 0 0 []) (0, 0) _ rfl hc9 Tryz.underlying62 rfl (by rw [hsA]; exact sizeSt)) rfl
              ⟨5, u, m, 0, 0, [], _, _, rfl, ⟨by decide, ⟨by omega, by have := HU.out; omega⟩, ⟨by omega, by have := HM2.out; omega⟩⟩, ⟨by decide, by decide, Nat.zero_le _⟩, q2, HRL2.out, q1, HOK2.out⟩

end Go.Proofs.YtcjflglpkpkflaaGreatDoor
