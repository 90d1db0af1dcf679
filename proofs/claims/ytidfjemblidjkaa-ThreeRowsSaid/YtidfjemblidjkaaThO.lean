/- The walks of the reference's kept, and of the law's same. -/
import Derived.Test.YtidfjemblidjkaaThB
import Derived.Test.YtidfjemblidjkaaThN
import Derived.Test.YtidfjemblidjkaaThK
namespace Go.Proofs.Ytidfjemblidjkaa
open Go Go.RowKit
set_option linter.unusedVariables false
set_option maxRecDepth 100000 in
set_option maxHeartbeats 8000000 in
theorem kept_any (va vb : Value) (a b : List Int) (w : World) (hra : RowZ w va a) (hrb : RowZ w vb b) (hla : a.length ≤ 100) (hlb : b.length ≤ 100) :
    Calls Try.prog 46 #[va, vb] w fun e w' => ∃ v', e = .returned v' ∧ OwnL 3 IV w.heap.size w' v' (felV a b) ∧ Below w.heap.size w w' := by
  have hbA : Below w.heap.size w (w.alloc (.cells #[] 3)) := (Below.refl _ _).alloc (Nat.le_refl _) _
  have HA := Lib.hid (steps_any va vb a b _ (hra.stays hbA) (hrb.stays hbA) (by omega) (by omega))
  have hm : OwnL 3 IV w.heap.size (w.alloc (.cells #[] 3)) (.slice (some ⟨w.heap.size, 0, none⟩) 0 0) [] := OwnL.made w
  have hdl := dist_le _ a b (Nat.le_refl _)
  have hsl := stepsV_len a b
  have he : stepsV a b = stepsT a b := by unfold stepsV; rw [if_neg (by omega)]
  have hk := (wayP_T _ a b (Nat.le_refl _)).2.2
  rw [← he] at hk
  obtain ⟨ss, hss⟩ : ∃ ss, ss = stepsV a b := ⟨_, rfl⟩
  have HF : Hid (fel ss 0 = felV a b) := by show _ = _; rw [hss]; rfl
  rw [← hss] at HA hk hsl
  have hsl2 : ss.length ≤ 200 := by omega
  have HKD : Hid (∀ s ∈ ss, s = 1 ∨ s = 2 ∨ s = 3) := fun s h => by have := hk s h; omega
  clear hra hrb hdl hsl he hk hss
  go_enter Try.func46, Try.ntmps46
  go_wp2_with fail
  refine HA.out.mono ?_
  rintro e w1 ⟨v12, rfl, o12, hb1⟩
  have hm1 := hm.stays hb1
  have hbe1 := hbA.trans (hb1.mono hbA.size)
  have hbase : w.heap.size + 1 = (w.alloc (.cells #[] 3)).heap.size := by simp
  have HIN : Hid (∀ W, w1.grownBy W (some w.heap.size) → RowZ W v12 ss) := fun W h => Row.grown o12.row h (fun k hk e => by have := (o12.lt k hk).1; cases e; omega)
  have hs1 : w.heap.size < w1.heap.size := by have := hb1.size; omega
  obtain ⟨a0, c0, rfl, -, -⟩ := o12.row.shape
  clear HA hm hbA hb1 o12 hbase
  go_wp2_with fail
  obtain ⟨B, hB⟩ : ∃ B, B = w.heap.size := ⟨_, rfl⟩
  rw [← hB] at HIN hs1 ⊢
  have hvm : OwnL 3 IV B w1 (.slice (some ⟨B, 0, none⟩) 0 0) [] := by rw [hB]; exact hm1
  have hbB : Below B w w1 := by rw [hB]; exact hbe1
  have hBw : w.heap.size ≤ B := by omega
  have hBv : ∀ k, (Value.slice (some ⟨B, 0, none⟩) 0 0).ownBlock = some k → k = B ∨ w1.heap.size ≤ k := fun k hk => by simp [Value.ownBlock] at hk; omega
  have HBW : Hid (∀ W, Below B w W → Below w.heap.size w W) := fun W h => by rw [← hB]; exact h
  generalize Value.slice (some ⟨B, 0, none⟩) 0 0 = vm at hvm hBv ⊢
  clear hm1 hbe1 hB
  go_loopw [5, 6, 14] (fun x p i wr => ∃ (m P : Nat) (L : List Int), m ≤ ss.length ∧ i = .int .i64 m ∧ p = .int .i64 P ∧ P ≤ m ∧ L.length ≤ m ∧ OwnL 3 IV B wr x L ∧ Hid (L ++ fel (ss.drop m) P = felV a b) ∧ w1.grownBy wr (some B) ∧ Hid (∀ k, x.ownBlock = some k → k = B ∨ w1.heap.size ≤ k) ∧ Below B w wr) (fun _ _ i _ => ss.length - (intOf i).toNat)
  case atStart => exact ⟨0, 0, [], Nat.zero_le _, rfl, rfl, Nat.le_refl _, Nat.le_refl _, hvm, by show _ = _; simpa using HF.out, grownBy_refl _ _, hBv, hbB⟩
  case round =>
    obtain ⟨m, P, L, hm, rfl, rfl, hPm, hLm, how, HL, hgr, HNS, hbe⟩ := hrel
    clear hvm hbB hBv
    have hsz := hbe.size
    have hgs := hgr.size
    by_cases h1 : m < ss.length
    · obtain ⟨s, hq⟩ : ∃ s, ss[m]? = some s := ⟨_, List.getElem?_eq_getElem h1⟩
      have hkd := HKD.out s (List.mem_of_getElem? hq)
      have HL1 : Hid (L ++ fel (s :: ss.drop (m + 1)) P = felV a b) := by show _ = _; rw [← HL.out, drop_some hq]
      obtain ⟨a', c', hv, -, hin⟩ := (HIN.out wr hgr).gen.shape
      cases hv
      obtain ⟨gb, ob, rfl, d0⟩ := hin m s hq
      replace d0 : wr.cell? ⟨gb, ob + m, none⟩ = some (.int .i64 s) := d0
      have hBr : B ≤ wr.heap.size := by omega
      clear hin hq HL
      rcases hkd with rfl | rfl | rfl
      · have HL3 : Hid ((L ++ [(P : Int)]) ++ fel (ss.drop (m + 1)) ((P + 1 : Nat) : Int) = felV a b) := by show _ = _; rw [← HL1.out, fel_1]; simp
        clear HL1
        go_wp2_with (at_builtin; go_must (refine wpList_pushL IV_one Try.underlying22 infoZ rfl (by decide) how (P : Int) (by omega) hBr rfl _ _ rfl (by rfl) _ _ _ (by rfl) (by rfl) ?_))
        intro v2 w2 o2 g2 n2
        have hb2 := OwnL.below how hbe g2 hBr
        have hg2 := grownBy_step hgr g2 (fun i hi => by rcases HNS.out i hi with h | h; exact .inl (by rw [h]); exact .inr h)
        have HNS2 : Hid (∀ k, v2.ownBlock = some k → k = B ∨ w1.heap.size ≤ k) := fun k hk => by
          rcases n2 k hk with h | h
          · exact HNS.out k h
          · exact .inr (by omega)
        clear g2 n2 how hbe hgr HNS d0
        go_wp2_with fail
        go_roundw
        case rel => exact ⟨m + 1, P + 1, _, h1, by go_num, by go_num, by omega, by simp; omega, o2, HL3, hg2, HNS2, hb2⟩
        case measure => simp only [intOf]; omega
      · have HL3 : Hid ((L ++ [(-1 : Int)]) ++ fel (ss.drop (m + 1)) P = felV a b) := by show _ = _; rw [← HL1.out, fel_2]; simp
        clear HL1
        go_wp2_with (at_builtin; go_must (refine wpList_pushL IV_one Try.underlying22 infoZ rfl (by decide) how (-1) (by omega) hBr rfl _ _ rfl (by rfl) _ _ _ (by rfl) (by rfl) ?_))
        intro v2 w2 o2 g2 n2
        have hb2 := OwnL.below how hbe g2 hBr
        have hg2 := grownBy_step hgr g2 (fun i hi => by rcases HNS.out i hi with h | h; exact .inl (by rw [h]); exact .inr h)
        have HNS2 : Hid (∀ k, v2.ownBlock = some k → k = B ∨ w1.heap.size ≤ k) := fun k hk => by
          rcases n2 k hk with h | h
          · exact HNS.out k h
          · exact .inr (by omega)
        clear g2 n2 how hbe hgr HNS d0
        go_wp2_with fail
        go_roundw
        case rel => exact ⟨m + 1, P, _, h1, by go_num, rfl, by omega, by simp; omega, o2, HL3, hg2, HNS2, hb2⟩
        case measure => simp only [intOf]; omega
      · have HL3 : Hid (L ++ fel (ss.drop (m + 1)) ((P + 1 : Nat) : Int) = felV a b) := by show _ = _; rw [← HL1.out, fel_3]; rfl
        clear HL1
        go_wp2_with fail
        go_roundw
        case rel => exact ⟨m + 1, P + 1, L, h1, by go_num, by go_num, by omega, by omega, how, HL3, hgr, HNS, hbe⟩
        case measure => simp only [intOf]; omega
    · obtain rfl : ss.length = m := by omega
      have HL2 : Hid (L = felV a b) := by
        show _ = _
        have := HL.out
        rw [List.drop_length] at this
        simpa [fel] using this
      go_wp2_with fail
      go_ret
      exact ⟨_, rfl, by rw [← HL2.out]; exact how.mono hBw, HBW.out _ hbe⟩
end Go.Proofs.Ytidfjemblidjkaa
