/- Scripts: the bytes of a word. -/
import Derived.Test.YtbcpciegdmminaaGreatDoorScG
import Derived.BigQuiet
import Derived.Deep.QuietTactic
import Derived.Deep.DeepCutAuto
namespace Go.Proofs.YtbcpciegdmminaaGreatDoor
open Go Go.RowKit
set_option linter.unusedVariables false
def hexS : Bs := [48, 49, 50, 51, 52, 53, 54, 55, 56, 57, 97, 98, 99, 100, 101, 102]
def idxI (o : Option Nat) : Int := match o with | some d => d | none => -1
theorem idx_hexAll : ((List.range 256).all fun n => Lib.indexByte hexS (UInt8.ofNat n) == idxI (unhexD (UInt8.ofNat n))) = true := by decide +kernel
theorem idx_hex (c : UInt8) : Lib.indexByte hexS c = idxI (unhexD c) := by
  have h := List.all_eq_true.1 idx_hexAll c.toNat (List.mem_range.2 c.toNat_lt)
  have e : UInt8.ofNat c.toNat = c := by apply UInt8.toNat.inj; rw [of_nat c.toNat_lt]
  rw [e] at h
  simpa using h
theorem idx_any (c : UInt8) (w : World) : Calls Tryz.prog 73 #[.string ⟨#[48, 49, 50, 51, 52, 53, 54, 55, 56, 57, 97, 98, 99, 100, 101, 102]⟩, .int .u8 ((c.toNat : Nat) : Int)] w fun e w' => e = .returned (.int .i64 (idxI (unhexD c))) ∧ w' = w := by
  have h := Any.strings_IndexByte Tryz.lays137 ⟨#[48, 49, 50, 51, 52, 53, 54, 55, 56, 57, 97, 98, 99, 100, 101, 102]⟩ ((c.toNat : Nat) : Int) w
  have e : ((c.toNat : Nat) : Int).toNat.toUInt8 = c := by
    rw [Int.toNat_natCast]
    exact UInt8.ofNat_toNat
  rw [e, show (⟨#[48, 49, 50, 51, 52, 53, 54, 55, 56, 57, 97, 98, 99, 100, 101, 102]⟩ : ByteArray).data.toList = hexS from rfl, idx_hex] at h
  exact h
theorem or16All : ((List.range 16).all fun a => (List.range 16).all fun b => bits .or .i64 (wrap64 (((a : Nat) : Int) * 16)) ((b : Nat) : Int) % 256 == ((a * 16 + b : Nat) : Int)) = true := by decide +kernel
theorem or16 {a b : Nat} (ha : a < 16) (hb : b < 16) : Value.int .u8 (bits .or .i64 (wrap64 ((a : Int) * 16)) (b : Int) % 256) = BV (UInt8.ofNat (a * 16 + b)) := by
  have h := List.all_eq_true.1 (List.all_eq_true.1 or16All a (List.mem_range.2 ha)) b (List.mem_range.2 hb)
  have h2 : bits .or .i64 (wrap64 ((a : Int) * 16)) (b : Int) % 256 = ((a * 16 + b : Nat) : Int) := by simpa using h
  rw [h2]
  unfold BV
  rw [of_nat (by omega)]
theorem below_drewS {b : Nat} {w w1 : World} {n : Nat} (h : Below b w w1) : Below b w (w1.drewN n) := ⟨h.os, h.tape, h.output, h.size, h.block⟩
theorem RD.stays {w w' : World} {r : Nat} {ws : List Bs} {bad : Bool} (h : RD w r ws bad) (hb : Below w.heap.size w w') : RD w' r ws bad := by
  obtain ⟨wa, wc, hc, hr, hne⟩ := h
  exact ⟨wa, wc, hc.stays hb, Row.stays hr hb, hne⟩
set_option maxRecDepth 100000 in
set_option maxHeartbeats 1000000 in
theorem bytes_any {w : World} {r : Nat} {ws : List Bs} {bad : Bool} (h : RD w r ws bad) (s : Bs) (hs : s.length ≤ 1000000) :
    Calls Tryz.prog 57 #[.pointer (some ⟨r, 0, none⟩), .string (strB s)] w fun e w' => ∃ v, e = .returned v ∧ OwnB w.heap.size w' v ((unB s).getD []) ∧ RD w' r ws (bad || (unB s).isNone) ∧ w.grownBy w' (some r) := by
  have HR : Hid (∀ W, Below w.heap.size w W → RD W r ws bad) := fun W hb => h.stays hb
  have hsz : (strB s).size = s.length := strB_size s
  clear h
  by_cases h45 : s = [45]
  · have HN : Hid (unB s = some []) := by show _ = _; unfold unB; rw [if_pos h45]
    have e3 : ((strB s).toList == [45]) = true := by rw [h45, strB_tl]; rfl
    clear h45
    go_enter Tryz.func57, Tryz.ntmps57
    go_wp2_with fail
    go_ret
    exact ⟨_, rfl, by rw [HN.out]; exact OwnB.nil _ _, by rw [HN.out]; simpa using HR.out w (Below.refl _ _), grownBy_refl _ _⟩
  · have e3 : ((strB s).toList == [45]) = false := by rw [strB_tl]; exact beq_eq_false_iff_ne.2 h45
    by_cases h0 : s = []
    · have HN : Hid (unB s = none) := by show _ = _; unfold unB; rw [if_neg h45, if_pos h0]
      have e4 : (strB s).toList.isEmpty = true := by rw [h0, strB_tl]; rfl
      obtain ⟨c1, f1⟩ := (HR.out w (Below.refl _ _)).cells
      clear h45 h0
      go_enter Tryz.func57, Tryz.ntmps57
      go_wp2_with fail
      go_ret
      exact ⟨_, rfl, by rw [HN.out]; exact OwnB.nil _ _, by rw [HN.out]; simpa using (HR.out w (Below.refl _ _)).bad true, grownBy_setCell (grownBy_refl _ _) _ (.inl rfl) _⟩
    · have e4 : (strB s).toList.isEmpty = false := by rw [strB_tl]; cases s with | nil => exact absurd rfl h0 | cons _ _ => rfl
      by_cases hodd : s.length % 2 = 1
      · have HN : Hid (unB s = none) := by
          show _ = _
          unfold unB
          rw [if_neg h45, if_neg h0]
          cases hu : unhex s with
          | none => rfl
          | some l =>
            have h1 := hexB_len l
            rw [hex_unhex s l hu] at h1
            omega
        have em : Int.tmod (s.length : Int) 2 = 1 := by rw [Int.tmod_eq_emod_of_nonneg (by omega)]; omega
        obtain ⟨c1, f1⟩ := (HR.out w (Below.refl _ _)).cells
        clear h45 h0 hodd
        go_enter Tryz.func57, Tryz.ntmps57
        go_wp2_with fail
        go_ret
        exact ⟨_, rfl, by rw [HN.out]; exact OwnB.nil _ _, by rw [HN.out]; simpa using (HR.out w (Below.refl _ _)).bad true, grownBy_setCell (grownBy_refl _ _) _ (.inl rfl) _⟩
      · have HU : Hid (unB s = unhex s) := by show _ = _; unfold unB; rw [if_neg h45, if_neg h0]
        have HEV : Hid (s.length % 2 = 0) := by show _ = _; omega
        have em : Int.tmod (s.length : Int) 2 = 0 := by rw [Int.tmod_eq_emod_of_nonneg (by omega)]; omega
        clear h45 h0 hodd
        go_enter Tryz.func57, Tryz.ntmps57
        go_wp2_with fail
        clear e3 e4 em
        go_loopw [5, 6] (fun v i wr => ∃ (n : Nat) (acc : Bs), i = .int .i64 n ∧ n ≤ s.length ∧ Hid (n % 2 = 0 ∧ acc.length ≤ n) ∧ Hid (unhex s = (unhex (s.drop n)).map fun l => acc ++ l) ∧ OwnB w.heap.size wr v acc ∧ Below w.heap.size w wr) (fun _ i _ => s.length - (intOf i).toNat)
        case atStart => exact ⟨0, [], rfl, Nat.zero_le _, ⟨rfl, Nat.le_refl _⟩, by show _ = _; simp, OwnB.nil _ _, Below.refl _ _⟩
        case round =>
          obtain ⟨n, acc, rfl, hn, HE, HI, how, hbe⟩ := hrel
          by_cases hlt : n < s.length
          · have hn1 : n + 1 < s.length := by have := HEV.out; have := HE.out.1; omega
            obtain ⟨x, hx⟩ : ∃ x, s[n]? = some x := ⟨_, List.getElem?_eq_getElem hlt⟩
            obtain ⟨y, hy⟩ : ∃ y, s[n + 1]? = some y := ⟨_, List.getElem?_eq_getElem hn1⟩
            have hdr : s.drop n = x :: y :: s.drop (n + 2) := by
              rw [List.drop_eq_getElem_cons hlt, List.drop_eq_getElem_cons hn1]
              rw [List.getElem?_eq_getElem hlt] at hx
              rw [List.getElem?_eq_getElem hn1] at hy
              rw [Option.some.inj hx, Option.some.inj hy]
            have hix : ∀ h, (strB s)[n]'h = x := fun h => by
              have e := List.getElem?_eq_getElem hlt
              rw [hx] at e
              exact (Option.some.inj e).symm
            have hiy : ∀ h, (strB s)[n + 1]'h = y := fun h => by
              have e := List.getElem?_eq_getElem hn1
              rw [hy] at e
              exact (Option.some.inj e).symm
            have z0 : (n : Int) < (s.length : Int) := by omega
            have z1 : (n : Int) + 1 < (s.length : Int) := by omega
            have z2 : 0 ≤ (n : Int) + 1 := by omega
            have z3 : ((n : Int) + 1).toNat = n + 1 := by omega
            have HX : Hid (∀ W, Calls Tryz.prog 73 #[.string ⟨#[48, 49, 50, 51, 52, 53, 54, 55, 56, 57, 97, 98, 99, 100, 101, 102]⟩, .int .u8 ((x.toNat : Nat) : Int)] W fun e w' => e = .returned (.int .i64 (idxI (unhexD x))) ∧ w' = W) := fun W => idx_any x W
            have HY : Hid (∀ W, Calls Tryz.prog 73 #[.string ⟨#[48, 49, 50, 51, 52, 53, 54, 55, 56, 57, 97, 98, 99, 100, 101, 102]⟩, .int .u8 ((y.toNat : Nat) : Int)] W fun e w' => e = .returned (.int .i64 (idxI (unhexD y))) ∧ w' = W) := fun W => idx_any y W
            have HI2 := HI.out
            rw [hdr, unhex] at HI2
            obtain ⟨ox, hox⟩ : ∃ o, o = unhexD x := ⟨_, rfl⟩
            obtain ⟨oy, hoy⟩ : ∃ o, o = unhexD y := ⟨_, rfl⟩
            rw [← hox] at HX HI2
            rw [← hoy] at HY HI2
            have HOX := Lib.hid hox
            have HOY := Lib.hid hoy
            have HI3 := Lib.hid HI2
            have HOW := Lib.hid how
            have HBE := Lib.hid hbe
            have HLT := Lib.hid hlt
            obtain ⟨c1, f1⟩ := (HR.out wr hbe).cells
            clear hx hy hdr HI2 hox hoy how HI hbe hlt hn
            obtain ⟨A, hA⟩ : ∃ A, A = idxI ox := ⟨_, rfl⟩
            obtain ⟨B, hB⟩ : ∃ B, B = idxI oy := ⟨_, rfl⟩
            rw [← hA] at HX
            rw [← hB] at HY
            have HA := Lib.hid hA
            have HB := Lib.hid hB
            clear hA hB
            go_wp2_with fail
            go_quiet ((go_at_call 73; first | exact Calls.quiet_of_same (HX.out _) | exact Calls.quiet_of_same (HY.out _)))
            have hbz : bad || true = true := Bool.or_true _
            clear HX HY
            cases ox with
            | none =>
              have d1 : A < 0 := by have := HA.out; unfold idxI at this; simp only at this; omega
              have HN : Hid (unB s = none) := by show _ = _; rw [HU.out, HI3.out]; rfl
              go_wp2_with fail
              go_ret
              exact ⟨_, rfl, by rw [HN.out]; exact OwnB.nil _ _, by rw [HN.out]; simpa using (HR.out _ (below_drewS HBE.out)).bad true, grownBy_setCell (grown_none (below_drewS HBE.out)) _ (.inl rfl) _⟩
            | some a =>
              have d1 : ¬ A < 0 := by have := HA.out; unfold idxI at this; simp only at this; omega
              cases oy with
              | none =>
                have d2 : B < 0 := by have := HB.out; unfold idxI at this; simp only at this; omega
                have HN : Hid (unB s = none) := by show _ = _; rw [HU.out, HI3.out]; rfl
                go_wp2_with fail
                go_ret
                exact ⟨_, rfl, by rw [HN.out]; exact OwnB.nil _ _, by rw [HN.out]; simpa using (HR.out _ (below_drewS HBE.out)).bad true, grownBy_setCell (grown_none (below_drewS HBE.out)) _ (.inl rfl) _⟩
              | some b =>
                have d2 : ¬ B < 0 := by have := HB.out; unfold idxI at this; simp only at this; omega
                obtain ⟨a16, -⟩ := unhexD_some HOX.out.symm
                obtain ⟨b16, -⟩ := unhexD_some HOY.out.symm
                have HU8 : Hid (Value.int .u8 (bits .or .i64 (wrap64 (A * 16)) B % 256) = BV (UInt8.ofNat (a * 16 + b))) := by
                  show _ = _
                  rw [HA.out, HB.out]
                  exact or16 a16 b16
                have HNX : Hid (unhex s = (unhex (s.drop (n + 2))).map fun l => (acc ++ [UInt8.ofNat (a * 16 + b)]) ++ l) := by
                  show _ = _
                  rw [HI3.out]
                  cases unhex (s.drop (n + 2)) with
                  | none => rfl
                  | some l => simp
                obtain ⟨q, hq⟩ : ∃ q, q = UInt8.ofNat (a * 16 + b) := ⟨_, rfl⟩
                rw [← hq] at HU8 HNX
                clear hq
                have hbd := HBE.out
                have hal := HE.out.2
                go_wp2_with (at_builtin; go_must (refine wpList_pushB (w := wr.drewN _) (own_stays HOW.out (below_drewS (Below.refl _ _))) q (by omega) (by simpa using hbd.size) rfl _ _ rfl (by rfl) _ _ _ (by rfl) HU8.out ?_))
                intro v2 w2 how3 hg3 hn3
                have hb2 : Below w.heap.size w w2 := OwnB.below (own_stays HOW.out (below_drewS (Below.refl _ _))) (below_drewS HBE.out) hg3 (by simpa using hbd.size)
                clear hg3 hn3
                go_wp2_with fail
                go_roundw
                case rel => exact ⟨n + 2, acc ++ [q], by go_num, by have := HLT.out; omega, ⟨by have := HE.out.1; omega, by simp; omega⟩, HNX.out, how3, hb2⟩
                case measure => simp only [intOf]; omega
          · obtain rfl : n = s.length := by omega
            have HN : Hid (unB s = some acc) := by
              show _ = _
              rw [HU.out, HI.out, List.drop_of_length_le (Nat.le_refl _)]
              simp [unhex]
            go_wp2_with fail
            go_ret
            exact ⟨_, rfl, by rw [HN.out]; exact how, by rw [HN.out]; simpa using HR.out _ hbe, grown_none hbe⟩
end Go.Proofs.YtbcpciegdmminaaGreatDoor
