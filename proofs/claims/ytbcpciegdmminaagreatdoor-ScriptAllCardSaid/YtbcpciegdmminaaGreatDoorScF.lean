/- Scripts: a word's number. -/
import Derived.Test.YtbcpciegdmminaaGreatDoorScE
import Derived.Test.YtbcpciegdmminaaGreatDoorShelfS
import Derived.Lib.ParseIntBMem
namespace Go.Proofs.YtbcpciegdmminaaGreatDoor
open Go Go.RowKit
set_option linter.unusedVariables false
theorem grown_none {w W : World} {row : Option Nat} (h : Below w.heap.size w W) : w.grownBy W row := ⟨h.os, h.tape, h.output, h.size, fun i hi _ => h.block i hi⟩
set_option maxRecDepth 100000 in
set_option maxHeartbeats 1000000 in
theorem number_any {w : World} {r : Nat} {vw : Value} {bad : Bool} {aS aR : Addr} (hS : ErrAt w 23 aS) (hR : ErrAt w 24 aR) (hc : CellsAt w r 73 #[vw, .bool bad]) (s : Bs) (hs : s.length ≤ 1000000) :
    Calls Tryz.prog 58 #[.pointer (some ⟨r, 0, none⟩), .string (strB s)] w fun e w' => e = .returned (.int .i64 ((numO s).getD 0)) ∧ CellsAt w' r 73 #[vw, .bool (bad || (numO s).isNone)] ∧ w.grownBy w' (some r) := by
  have hlib := parseN_lib s
  have hsz : (strB s).size = s.length := strB_size s
  have hdl : (strB s).data.toList = s := by simp [strB]
  have HX : Hid (∀ W, Below w.heap.size w W → W.cell? ⟨r, 1, none⟩ = some (.bool bad) ∧ W.frozen? ⟨r, 1, none⟩ = false ∧ CellsAt (W.setCell ⟨r, 1, none⟩ (.bool true)) r 73 #[vw, .bool true] ∧ w.grownBy (W.setCell ⟨r, 1, none⟩ (.bool true)) (some r) ∧ CellsAt W r 73 #[vw, .bool bad] ∧ w.grownBy W (some r)) := fun W hW =>
    ⟨(hc.stays hW).cell 1 rfl, (hc.stays hW).free 1, by simpa using (hc.stays hW).set 1 (.bool true), grownBy_setCell (grown_none hW) _ (.inl rfl) _, hc.stays hW, grown_none hW⟩
  have hbz : bad || true = true := Bool.or_true _
  clear hc
  by_cases hok : ∃ u, Lib.parseUintB 32 s = .ok u
  · obtain ⟨u, hp⟩ := hok
    have hu := Lib.parseUintB_le hp
    rw [hp] at hlib
    simp only at hlib
    have HP : Hid (∀ W, Calls Tryz.prog 74 #[.string (strB s), .int .i64 10, .int .i64 32] W fun e w' => e = .returned (.tuple #[.int .u64 u, .nilIface]) ∧ Below W.heap.size W w') := fun W =>
      (Any.strconv_ParseUint_10_at32_ok Tryz.laysPu14 (strB s) (by rw [hsz]; omega) u (by rw [hdl]; exact hp) W).mono fun e w' ⟨h1, h2⟩ => ⟨h1, by
        rcases h2 with rfl | rfl
        · exact Below.refl _ _
        · exact Lib.bytesWorld_below _ _ _⟩
    have hw1 : IntKind.i64.wrap (u : Int) = u := by rw [IntKind.wrap_i64]; omega
    by_cases h9 : 9 < s.length
    · have HN : Hid (numO s = none) := by
        show _ = _
        unfold numO
        rw [hlib, if_neg (fun h => by omega)]; exact Option.map_none _
      clear hlib hp hu hw1 hdl
      go_enter Tryz.func58, Tryz.ntmps58
      go_wp2_with fail
      refine (HP.out _).mono ?_
      rintro e w1 ⟨rfl, hb1⟩
      obtain ⟨c1, f1, k1, k2, -, -⟩ := HX.out w1 hb1
      have HK1 := Lib.hid k1
      have HK2 := Lib.hid k2
      clear k1 k2 hb1
      go_wp2_with fail
      go_ret
      exact ⟨by rw [HN.out]; rfl, by rw [HN.out]; simpa using HK1.out, HK2.out⟩
    · obtain ⟨b, t, hbt⟩ : ∃ b t, s = b :: t := by
        cases s with
        | nil => exact absurd hp (by simp [Lib.parseUintB])
        | cons b t => exact ⟨b, t, rfl⟩
      have HIX : Hid (∀ h, (strB s)[0]'h = b) := by subst hbt; exact fun _ => rfl
      have hhd : s.head? = some b := by rw [hbt]; rfl
      have H9 := Lib.hid h9
      have HW1 := Lib.hid hw1
      clear hbt
      by_cases h1 : 1 < s.length
      · have H1 := Lib.hid h1
        by_cases h48 : b = 48
        · have HN : Hid (numO s = none) := by
            show _ = _
            unfold numO
            rw [hlib, if_neg (fun h => by
              rcases h.2 with h | h
              · omega
              · exact h (by rw [hhd, h48]))]; exact Option.map_none _
          have HBI : Hid (((b.toNat : Nat) : Int) = 48) := by show _ = _; rw [h48]; decide
          clear hhd
          clear hlib hp hu hdl hw1 h9 h1 h48
          go_enter Tryz.func58, Tryz.ntmps58
          go_wp2_with fail
          refine (HP.out _).mono ?_
          rintro e w1 ⟨rfl, hb1⟩
          have hix := HIX.out
          have hbi := HBI.out
          have h1 := H1.out
          have h9 := H9.out
          obtain ⟨c1, f1, k1, k2, -, -⟩ := HX.out w1 hb1
          have HK1 := Lib.hid k1
          have HK2 := Lib.hid k2
          clear k1 k2 hb1
          go_wp2_with fail
          go_ret
          exact ⟨by rw [HN.out]; rfl, by rw [HN.out]; simpa using HK1.out, HK2.out⟩
        · have HN : Hid (numO s = some (u : Int)) := by
            show _ = _
            unfold numO
            rw [hlib, if_pos ⟨by omega, .inr (by rw [hhd]; simpa using h48)⟩]; rfl
          have HBI : Hid (((b.toNat : Nat) : Int) ≠ 48) := by
            show _ ≠ _
            intro h
            exact h48 (UInt8.toNat.inj (show b.toNat = 48 by omega))
          clear hhd
          clear hlib hp hu hdl hw1 h9 h1 h48
          go_enter Tryz.func58, Tryz.ntmps58
          go_wp2_with fail
          refine (HP.out _).mono ?_
          rintro e w1 ⟨rfl, hb1⟩
          have hix := HIX.out
          have hbi := HBI.out
          have hbj : (((b.toNat : Nat) : Int) == 48) = false := by simpa using hbi
          have h1 := H1.out
          have h9 := H9.out
          have hw1 := HW1.out
          obtain ⟨-, -, -, -, k1, k2⟩ := HX.out w1 hb1
          have HK1 := Lib.hid k1
          have HK2 := Lib.hid k2
          clear k1 k2 hb1
          go_wp2_with fail
          go_ret
          exact ⟨by rw [HN.out]; rfl, by rw [HN.out]; simpa using HK1.out, HK2.out⟩
      · have H1 := Lib.hid h1
        have HN : Hid (numO s = some (u : Int)) := by
          show _ = _
          unfold numO
          rw [hlib, if_pos ⟨by omega, .inl (by omega)⟩]; rfl
        clear hhd
        clear hlib hp hu hdl hw1 h9 h1
        go_enter Tryz.func58, Tryz.ntmps58
        go_wp2_with fail
        refine (HP.out _).mono ?_
        rintro e w1 ⟨rfl, hb1⟩
        have h1 := H1.out
        have h9 := H9.out
        have hw1 := HW1.out
        obtain ⟨-, -, -, -, k1, k2⟩ := HX.out w1 hb1
        have HK1 := Lib.hid k1
        have HK2 := Lib.hid k2
        clear k1 k2 hb1
        go_wp2_with fail
        go_ret
        exact ⟨by rw [HN.out]; rfl, by rw [HN.out]; simpa using HK1.out, HK2.out⟩
  · have hnone : parseN s = none := by
      rw [hlib]
      split
      · rename_i u hu; exact absurd ⟨u, hu⟩ hok
      · rfl
    have HN : Hid (numO s = none) := by show _ = _; unfold numO; rw [hnone]; rfl
    have HP : Hid (∀ W, Below w.heap.size w W → Calls Tryz.prog 74 #[.string (strB s), .int .i64 10, .int .i64 32] W fun e w' => ∃ (v : Int) (N : Nat), e = .returned (.tuple #[.int .u64 v, .iface 135 (.pointer (some ⟨N, 0, none⟩))]) ∧ Below W.heap.size W w') := fun W hW => by
      have h1 := hS.stays hW
      have h2 := hR.stays hW
      unfold ErrAt at h1 h2
      cases hp : Lib.parseUintB 32 s with
      | ok u => exact absurd ⟨u, hp⟩ hok
      | _ =>
        first
          | exact (Any.strconv_ParseUint_10_at32_syntax Tryz.laysPu14 (strB s) (by rw [hsz]; omega) (by rw [hdl]; exact hp) _ W h1 (.inr ⟨_, _, rfl⟩)).mono fun e w' ⟨N, h3, _, _, h4⟩ => ⟨_, N, h3, h4⟩
          | exact (Any.strconv_ParseUint_10_at32_range Tryz.laysPu14 (strB s) (by rw [hsz]; omega) (by rw [hdl]; exact hp) _ W h2 (.inr ⟨_, _, rfl⟩)).mono fun e w' ⟨N, h3, _, _, h4⟩ => ⟨_, N, h3, h4⟩
    clear hlib hok hdl hnone
    go_enter Tryz.func58, Tryz.ntmps58
    go_wp2_with fail
    refine (HP.out _ (Below.refl _ _)).mono ?_
    rintro e w1 ⟨v, N, rfl, hb1⟩
    obtain ⟨c1, f1, k1, k2, -, -⟩ := HX.out w1 hb1
    have HK1 := Lib.hid k1
    have HK2 := Lib.hid k2
    clear k1 k2 hb1
    go_wp2_with fail
    go_ret
    exact ⟨by rw [HN.out]; rfl, by rw [HN.out]; simpa using HK1.out, HK2.out⟩
end Go.Proofs.YtbcpciegdmminaaGreatDoor
