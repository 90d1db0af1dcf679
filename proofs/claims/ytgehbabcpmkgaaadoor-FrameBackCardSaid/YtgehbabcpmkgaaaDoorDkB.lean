/- frame.load, frame.header, frame.Read, walked. -/
import Derived.Test.YtgehbabcpmkgaaaDoorDkW
import Derived.Test.YtgehbabcpmkgaaaDoorDkG
namespace Go.Proofs.YtgehbabcpmkgaaaDoor
open Go Go.RowKit
set_option linter.unusedVariables false
set_option maxRecDepth 100000 in
set_option maxHeartbeats 1000000 in
theorem load_any (ea : Nat → Addr) {w : World} {g gd gm : Nat} {d : Dm} (hk : Dk w g gd gm d) (hf : d.fuse ≠ 0) {a : Int} (n : Nat) (ha : 0 ≤ a) (hn : a + n ≤ d.dur.length) (hE : ∀ W, Below w.heap.size w W → ErrsFew ea W) :
    Calls Tryd.prog 107 #[.pointer (some ⟨g, 0, none⟩), .int .i64 a, .int .i64 n] w fun e' w' => ∃ v', e' = .returned (.tuple #[v', .nilIface]) ∧ OwnB w.heap.size w' v' (loadV d a n) ∧ Below w.heap.size w w' := by
  have HK : Hid (∀ w', Below w.heap.size w w' → Dk w' g gd gm d) := fun w' hb => hk.stays hb
  have HE := Lib.hid hE
  have HO := Lib.hid hk.ok
  have HF := Lib.hid hf
  have hsz := hk.ok.size
  clear hk hE hf
  go_enter Tryd.func107, Tryd.ntmps107
  go_wp2_with fail
  go_loopw [13, 8] (fun i v wr => ∃ k : Nat, k ≤ n ∧ i = .int .i64 k ∧ OwnB w.heap.size wr v (loadV d a k) ∧ Below w.heap.size w wr) (fun i _ _ => n - (intOf i).toNat)
  case atStart => exact ⟨0, Nat.zero_le _, rfl, OwnB.nil _ _, Below.refl _ _⟩
  case round =>
    obtain ⟨k, hkn, rfl, ho, hbe⟩ := hrel
    by_cases hlt : k < n
    · have hk1 := HK.out wr hbe
      have hE1 := HE.out wr hbe
      have hhas : d.has (a + k) := ⟨by omega, by omega⟩
      have hrk : readK d (a + k) = 0 := readK_of hhas HF.out
      have hR := read_any ea hk1 (x := a + k) (by omega) (by omega) hE1.e1 hE1.e17
      have hrv : readV d (a + k) = getV d (a + k) := by unfold readV; rw [if_pos hrk]
      rw [hrk, hrv, EV_zero] at hR
      have HR := Lib.hid hR
      have hl1 := loadV_len HO.out a k
      have hl2 := HO.out.get (a + k)
      obtain ⟨X, hX⟩ : ∃ X, X = loadV d a k := ⟨_, rfl⟩
      obtain ⟨Y, hY⟩ : ∃ Y, Y = getV d (a + k) := ⟨_, rfl⟩
      have HXY : Hid (loadV d a (k + 1) = X ++ Y) := by show _ = _; rw [hX, hY]; rfl
      rw [← hX] at ho hl1
      rw [← hY] at HR hl2
      have hXb : X.length ≤ 100000 := by omega
      have hYb : Y.length ≤ 64 := by omega
      clear hk1 hE1 hhas hrk hR hrv hX hY hl1 hl2
      go_wp2_with fail
      refine HR.out.mono ?_
      rintro e w3 ⟨v3, rfl, ho3, hb3⟩
      have ho' := ho.stays hb3
      have hbe3 := hbe.trans (hb3.mono hbe.size)
      have hr3 := ho3.row
      clear HR ho ho3 hb3
      go_wp2_with (at_builtin; go_must (refine wpList_appendB ho' hr3 (by omega) hbe3.size rfl _ _ rfl (by rfl) (by rfl) ?_))
      intro v4 w4 ho4 hg4 hn4 hnil
      have hbe4 := OwnB.below ho' hbe3 hg4 hbe3.size
      rw [← HXY.out] at ho4
      clear ho' hg4 hn4 hnil hr3 hbe3
      go_wp2_with fail
      go_roundw
      case rel => exact ⟨k + 1, by omega, by go_num, ho4, hbe4⟩
      case measure => simp [intOf]; omega
    · obtain rfl : k = n := by omega
      go_wp2_with fail
      go_ret2
      exact ⟨_, rfl, ho, hbe⟩
set_option maxRecDepth 100000 in
theorem header_any (ea : Nat → Addr) (v : Value) (X : List UInt8) (w : World) (hr : RowB w v X) (hX : X.length = 64) (hE : ∀ W, Below w.heap.size w W → ErrsFew ea W) :
    Calls Tryd.prog 108 #[v] w fun e w' => e = .returned (.tuple #[.int .u32 (num4 X 0), .int .u32 (num4 X 4), .nilIface]) ∧ Below w.heap.size w w' := by
  have HN := Lib.hid (newReader_any v X w hr (by omega))
  have HVB := Lib.hid (row_apart hr (g := w.heap.size) (by omega))
  have HE := Lib.hid hE
  have HX := Lib.hid hX
  have hn0 := num4_le X 0
  have hn4 := num4_le X 4
  obtain ⟨m0, hm0⟩ : ∃ m, m = num4 X 0 := ⟨_, rfl⟩
  obtain ⟨m4, hm4⟩ : ∃ m, m = num4 X 4 := ⟨_, rfl⟩
  have HM0 := Lib.hid hm0
  have HM4 := Lib.hid hm4
  rw [← hm0] at hn0 ⊢
  rw [← hm4] at hn4 ⊢
  clear hr hE hX hm0 hm4
  go_enter Tryd.func108, Tryd.ntmps108
  go_wp2_with fail
  refine HN.out.mono ?_
  rintro e w1 ⟨rfl, hrd1, hb1⟩
  have hE1 := HE.out w1 hb1
  obtain ⟨ha, hb, hc⟩ := num4_read X 0 (by rw [HX.out]; omega)
  obtain ⟨g, hg⟩ : ∃ g, g = w.heap.size := ⟨_, rfl⟩
  have hgl : w.heap.size ≤ g := by omega
  rw [← hg] at hrd1 ⊢
  have hF := fixed32_any ea g v X (4 * 0) w1 hrd1 hE1.e1 hE1.e2
  rw [ha, hb, hc, EV_zero] at hF
  rw [show 4 * 0 = 0 from rfl, ← HM0.out] at hF
  have HF := Lib.hid hF
  clear HN hrd1 hE1 ha hb hc hF hg
  go_wp2_with fail
  refine HF.out.mono ?_
  rintro e w2 ⟨rfl, hrd2, hg2⟩
  have hbe2 := hb1.grown hg2 hb1.size (fun k hk => by cases hk; exact hgl)
  have hE2 := HE.out w2 hbe2
  obtain ⟨ha, hb, hc⟩ := num4_read X 1 (by rw [HX.out]; omega)
  have hF := fixed32_any ea g v X (4 * 1) w2 hrd2 hE2.e1 hE2.e2
  rw [ha, hb, hc, EV_zero, show 4 * 1 = 4 from rfl, ← HM4.out] at hF
  have HF2 := Lib.hid hF
  clear HF hrd2 hE2 hb1 hg2 ha hb hc hF
  go_wp2_with fail
  refine HF2.out.mono ?_
  rintro e w3 ⟨rfl, hrd3, hg3⟩
  have hbe3 := hbe2.grown hg3 hbe2.size (fun k hk => by cases hk; exact hgl)
  clear HF2 hrd3 hg3
  go_wp2_with fail
  go_ret3
  exact ⟨rfl, hbe3⟩
end Go.Proofs.YtgehbabcpmkgaaaDoor
