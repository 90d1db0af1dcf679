/- Scripts, the document's: the kinds' words, figures, bytes told. -/
import Derived.Test.YtbcpciegdmminaaGreatDoorScZ
import Derived.BigQuiet
namespace Go.Proofs.YtbcpciegdmminaaGreatDoor
open Go Go.RowKit
set_option linter.unusedVariables false
set_option maxRecDepth 100000 in
theorem rwords_any (w : World) : Calls Tryz.prog 9 #[] w fun e w' => ∃ g, e = .returned (.slice (some ⟨g, 0, none⟩) 12 12) ∧ OwnL 9 SV w.heap.size w' (.slice (some ⟨g, 0, none⟩) 12 12) wordsL ∧ Below w.heap.size w w' := by
  go_enter Tryz.func9, Tryz.ntmps9
  go_wp2_with fail
  go_ret
  exact ⟨_, rfl, lit_own w (Nat.le_refl _) wordsL _ rfl (by decide), (Below.refl _ _).alloc (Nat.le_refl _) _⟩
theorem dec_step (u : Nat) (h : u ≠ 0) : ∃ P, Lib.decDigits u = P ++ [UInt8.ofNat (48 + u % 10)] ∧ (u / 10 = 0 → P = []) ∧ (u / 10 ≠ 0 → P = Lib.decDigits (u / 10)) := by
  by_cases h10 : u < 10
  · exact ⟨[], by rw [dec_small u h10, show u % 10 = u by omega]; rfl, fun _ => rfl, fun e => absurd (by omega) e⟩
  · exact ⟨Lib.decDigits (u / 10), dec_big u h10, fun e => absurd e (by omega), fun _ => rfl⟩
/-- the figures of what is left, ahead of what is told -/
def figT (u : Nat) (t : Bs) : Bs := if u = 0 then t else Lib.decDigits u ++ t
theorem figT_step (u : Nat) (t : Bs) (h : u ≠ 0) : figT (u / 10) (UInt8.ofNat (48 + u % 10) :: t) = figT u t := by
  obtain ⟨P, h1, h2, h3⟩ := dec_step u h
  unfold figT
  rw [if_neg h, h1]
  by_cases h0 : u / 10 = 0
  · rw [if_pos h0, h2 h0]; rfl
  · rw [if_neg h0, h3 h0]; simp
theorem figT_len (u : Nat) (t : Bs) (h : u ≤ 999999999) : (figT u t).length ≤ 9 + t.length := by
  unfold figT
  split
  · omega
  · have := dec_len 8 u (by omega)
    rw [List.length_append]; omega
set_option maxRecDepth 100000 in
set_option maxHeartbeats 1000000 in
theorem rfig_any (n : Int) (h : inN n = true) (w : World) : Calls Tryz.prog 23 #[.int .i64 n] w fun e w' => e = .returned (.string (strB (decI n))) ∧ Below w.heap.size w w' := by
  have hn : 0 ≤ n ∧ n ≤ 999999999 := by unfold inN at h; simpa using h
  obtain ⟨u, rfl⟩ : ∃ u : Nat, n = u := ⟨n.toNat, by omega⟩
  clear h
  by_cases h0 : u = 0
  · subst h0
    have HZ : Hid (decI ((0 : Nat) : Int) = [48]) := by show _ = _; unfold decI; rw [Int.toNat_natCast, dec_small 0 (by omega)]; rfl
    go_enter Tryz.func23, Tryz.ntmps23
    go_wp2_with fail
    go_ret
    exact ⟨congrArg (fun z => Ending.returned (Value.string (strB z))) HZ.out.symm, Below.refl _ _⟩
  · have HZ : Hid (figT u [] = decI (u : Int)) := by show _ = _; unfold figT decI; rw [if_neg h0, Int.toNat_natCast, List.append_nil]
    have t0 : ((u : Int) == 0) = false := by simpa using h0
    have t1 : decide ((u : Int) < 0) = false := decide_eq_false (by omega)
    clear h0
    go_enter Tryz.func23, Tryz.ntmps23
    go_wp2_with fail
    go_loopw [0, 3] (fun x s wr => ∃ (m : Nat) (t : Bs), x = .int .i64 m ∧ s = .string (strB t) ∧ m ≤ u ∧ t.length ≤ 100 ∧ Hid (figT m t = decI (u : Int)) ∧ Below w.heap.size w wr) (fun x _ _ => (intOf x).toNat)
    case atStart => exact ⟨u, [], rfl, rfl, Nat.le_refl _, by simp, HZ.out, Below.refl _ _⟩
    case round =>
      obtain ⟨m, t, rfl, rfl, hm, ht, HI, hbe⟩ := hrel
      have hlt : t.length ≤ 9 := by
        have h1 := HI.out
        have h2 : (decI (u : Int)).length ≤ 9 := decI_len (by unfold inN; exact decide_eq_true hn)
        rw [← h1] at h2
        unfold figT at h2
        split at h2
        · exact h2
        · rw [List.length_append] at h2; omega
      by_cases hm0 : m = 0
      · subst hm0
        have HD : Hid (t = decI (u : Int)) := by have := HI.out; unfold figT at this; rw [if_pos rfl] at this; exact this
        clear HI
        go_wp2_with fail
        go_ret
        exact ⟨congrArg (fun z => Ending.returned (Value.string (strB z))) HD.out, hbe⟩
      · have b0 : ((m : Int) != 0) = true := by simpa using hm0
        have b1 : Int.tmod (m : Int) 10 = ((m % 10 : Nat) : Int) := by rw [Int.tmod_eq_emod_of_nonneg (by omega)]; omega
        have b2 : Int.tdiv (m : Int) 10 = ((m / 10 : Nat) : Int) := by rw [Int.tdiv_eq_ediv_of_nonneg (by omega)]; omega
        have HI2 : Hid (figT (m / 10) (UInt8.ofNat (48 + m % 10) :: t) = decI (u : Int)) := by show _ = _; rw [figT_step m t hm0]; exact HI.out
        obtain ⟨d, hd⟩ : ∃ d : Nat, d = m % 10 := ⟨_, rfl⟩
        have hd9 : d ≤ 9 := by omega
        have b3 : decide (((d : Nat) : Int) < 0) = false := decide_eq_false (by omega)
        have b4 : IntKind.i64.wrap (48 + (d : Int)) = 48 + (d : Int) := by rw [IntKind.wrap_i64]; omega
        have b5 : IntKind.u8.wrap (48 + (d : Int)) = ((48 + d : Nat) : Int) := by rw [IntKind.wrap_u8]; omega
        rw [← hd] at b1 HI2
        obtain ⟨q, hq⟩ : ∃ q : UInt8, q = UInt8.ofNat (48 + d) := ⟨_, rfl⟩
        have hqn : ((48 + d : Nat) : Int) = ((q.toNat : Nat) : Int) := by rw [hq, dg_nat d (by omega)]
        rw [hqn] at b5
        rw [← hq] at HI2
        have hcv : (convert 22 9 (.slice (some ⟨wr.heap.size, 0, none⟩) 1 1)).run Tryz.prog (wr.alloc (.cells #[.int .u8 ((q.toNat : Nat) : Int)] 5)) = .ok (.string (strB [q])) (wr.alloc (.cells #[.int .u8 ((q.toNat : Nat) : Int)] 5)) := by
          have hown := World.ownsRow_lit (base := wr.heap.size) (e := 5) (size := 1) wr #[.int .u8 ((q.toNat : Nat) : Int)] 1 (Nat.le_refl _) (by unfold maxLen; omega) rfl
          exact convert_str (show RowB _ _ [q] from by
            have := Row.ofOwn hown
            rw [← BV_def] at this
            exact this)
        have hadd := str_add [q] t (by simp; omega) (wr.alloc (.cells #[.int .u8 ((q.toNat : Nat) : Int)] 5))
        rw [List.singleton_append] at hadd
        obtain ⟨m2, hm2⟩ : ∃ m2 : Nat, m2 = m / 10 := ⟨_, rfl⟩
        rw [← hm2] at b2 HI2
        have hml : m2 < m := by omega
        have HML := Lib.hid hml
        have HWR : Hid (wrap64 (m2 : Int) = m2) := by show _ = _; unfold wrap64; omega
        have HM2 : Hid (m2 ≤ u) := by show _ ≤ _; omega
        clear hd hq hqn hm2 HI hml hm0
        go_wp2_with fail
        go_roundw
        case rel => exact ⟨m2, q :: t, by rw [HWR.out], rfl, HM2.out, by simp; omega, HI2.out, hbe.alloc hbe.size _⟩
        case measure => have := HML.out; rw [HWR.out]; simp only [intOf]; omega
theorem hex_cut (d : Nat) (h : d < 16) : (⟨#[48, 49, 50, 51, 52, 53, 54, 55, 56, 57, 97, 98, 99, 100, 101, 102]⟩ : ByteArray).extract d (d + 1) = strB [hexd d] := by
  match d, h with
  | 0, _ => rfl
  | 1, _ => rfl
  | 2, _ => rfl
  | 3, _ => rfl
  | 4, _ => rfl
  | 5, _ => rfl
  | 6, _ => rfl
  | 7, _ => rfl
  | 8, _ => rfl
  | 9, _ => rfl
  | 10, _ => rfl
  | 11, _ => rfl
  | 12, _ => rfl
  | 13, _ => rfl
  | 14, _ => rfl
  | 15, _ => rfl
  | n + 16, h => omega
theorem hex_ext (d : Nat) (h : d < 16) (W : World) : (Instr.slice 9 (.string ⟨#[48, 49, 50, 51, 52, 53, 54, 55, 56, 57, 97, 98, 99, 100, 101, 102]⟩) (some (.int .i64 (d : Int))) (some (.int .i64 ((d : Int) + 1))) none).run Tryz.prog W = .ok (.string (strB [hexd d])) W := by
  have h1 := run_slice_string (P := Tryz.prog) W 9 (⟨#[48, 49, 50, 51, 52, 53, 54, 55, 56, 57, 97, 98, 99, 100, 101, 102]⟩ : ByteArray) .i64 .i64 (d : Int) ((d : Int) + 1) Tryz.underlying9 (by omega) (by omega) (by
    have : (ByteArray.size ⟨#[48, 49, 50, 51, 52, 53, 54, 55, 56, 57, 97, 98, 99, 100, 101, 102]⟩ : Nat) = 16 := rfl
    rw [this]; omega)
  rw [h1, show ((d : Int) + 1).toNat = d + 1 from by omega, Int.toNat_natCast, hex_cut d h]
set_option maxRecDepth 100000 in
set_option maxHeartbeats 1000000 in
theorem rhex_any (bs : Bs) (hl : bs.length ≤ 100000) (w : World) : Calls Tryz.prog 22 #[.string (strB bs)] w fun e w' => e = .returned (.string (strB (putB bs))) ∧ Below w.heap.size w w' := by
  have hsz : (strB bs).size = bs.length := strB_size bs
  by_cases h0 : bs = []
  · subst h0
    go_enter Tryz.func22, Tryz.ntmps22
    go_wp2_with fail
    go_ret
    exact ⟨rfl, Below.refl _ _⟩
  · have HP : Hid (hexB bs = putB bs) := by show _ = _; unfold putB; rw [if_neg h0]
    have hne : bs.length ≠ 0 := fun e => h0 (List.length_eq_zero_iff.1 e)
    have t0 : ((bs.length : Int) == 0) = false := by simpa using hne
    clear h0 hne
    go_enter Tryz.func22, Tryz.ntmps22
    go_wp2_with fail
    go_loopw [3, 4] (fun s i wr => ∃ m : Nat, m ≤ bs.length ∧ i = .int .i64 m ∧ s = .string (strB (hexB (bs.take m))) ∧ Below w.heap.size w wr) (fun _ i _ => bs.length - (intOf i).toNat)
    case atStart => exact ⟨0, Nat.zero_le _, rfl, rfl, Below.refl _ _⟩
    case round =>
      obtain ⟨m, hm, rfl, rfl, hbe⟩ := hrel
      by_cases h1 : m < bs.length
      · obtain ⟨x, hx⟩ : ∃ x, bs[m]? = some x := ⟨_, List.getElem?_eq_getElem h1⟩
        have hix : ∀ h, (strB bs)[m]'h = x := fun h => by
          have e := List.getElem?_eq_getElem h1
          rw [hx] at e
          exact (Option.some.inj e).symm
        have hT : hexB (bs.take (m + 1)) = hexB (bs.take m) ++ [hexd (x.toNat / 16), hexd (x.toNat % 16)] := by
          rw [List.take_add_one, hx, Option.toList_some, hexB_snoc]
        have hlen : (hexB (bs.take m)).length = 2 * m := by rw [hexB_len, List.length_take]; omega
        have hx8 := x.toNat_lt
        obtain ⟨d1, hd1⟩ : ∃ d1, d1 = x.toNat / 16 := ⟨_, rfl⟩
        obtain ⟨d2, hd2⟩ : ∃ d2, d2 = x.toNat % 16 := ⟨_, rfl⟩
        have a1 : d1 < 16 := by omega
        have a2 : d2 < 16 := by omega
        have b1 : Int.tdiv ((x.toNat : Nat) : Int) 16 = (d1 : Int) := by rw [Int.tdiv_eq_ediv_of_nonneg (by omega)]; omega
        have b2 : Int.tmod ((x.toNat : Nat) : Int) 16 = (d2 : Int) := by rw [Int.tmod_eq_emod_of_nonneg (by omega)]; omega
        have b3 : IntKind.i64.wrap ((x.toNat : Nat) : Int) = ((x.toNat : Nat) : Int) := by rw [IntKind.wrap_i64]; omega
        have b4 : IntKind.i64.wrap (d1 : Int) = (d1 : Int) := by rw [IntKind.wrap_i64]; omega
        have b5 : IntKind.i64.wrap ((d1 : Int) + 1) = (d1 : Int) + 1 := by rw [IntKind.wrap_i64]; omega
        have b6 : IntKind.i64.wrap ((d2 : Int) + 1) = (d2 : Int) + 1 := by rw [IntKind.wrap_i64]; omega
        have s1 : ∀ W, (Instr.slice 9 (.string ⟨#[48, 49, 50, 51, 52, 53, 54, 55, 56, 57, 97, 98, 99, 100, 101, 102]⟩) (some (.int .i64 (d1 : Int))) (some (.int .i64 ((d1 : Int) + 1))) none).run Tryz.prog W = .ok (.string (strB [hexd d1])) W := fun W => hex_ext d1 a1 W
        have s2 : ∀ W, (Instr.slice 9 (.string ⟨#[48, 49, 50, 51, 52, 53, 54, 55, 56, 57, 97, 98, 99, 100, 101, 102]⟩) (some (.int .i64 (d2 : Int))) (some (.int .i64 ((d2 : Int) + 1))) none).run Tryz.prog W = .ok (.string (strB [hexd d2])) W := fun W => hex_ext d2 a2 W
        have s3 : ∀ W, (Op.stringOp .add (strB [hexd d1]) (strB [hexd d2])).run Tryz.prog W = .ok (.string (strB [hexd d1, hexd d2])) W := fun W => str_add [hexd d1] [hexd d2] (by simp) W
        have s4 : ∀ W, (Op.stringOp .add (strB (hexB (bs.take m))) (strB [hexd d1, hexd d2])).run Tryz.prog W = .ok (.string (strB (hexB (bs.take (m + 1))))) W := fun W => by
          rw [str_add _ _ (by rw [hlen]; simp; omega) W, hT, hd1, hd2]
        obtain ⟨H1, hH1⟩ : ∃ H1, H1 = hexB (bs.take m) := ⟨_, rfl⟩
        obtain ⟨H2, hH2⟩ : ∃ H2, H2 = hexB (bs.take (m + 1)) := ⟨_, rfl⟩
        rw [← hH1, ← hH2] at s4
        rw [← hH1]
        have HH2 := Lib.hid hH2
        clear hx hT hlen hd1 hd2 hH1 hH2
        go_wp2_with fail
        go_quiet (fail)
        go_wp2_with fail
        go_quiet (fail)
        go_wp2_with fail
        go_roundw
        case rel => exact ⟨m + 1, h1, by go_num, by rw [HH2.out], below_drewS hbe⟩
        case measure => simp only [intOf]; omega
      · obtain rfl : m = bs.length := by omega
        rw [List.take_length]
        go_wp2_with fail
        go_ret
        exact ⟨congrArg (fun z => Ending.returned (Value.string (strB z))) HP.out, hbe⟩
end Go.Proofs.YtbcpciegdmminaaGreatDoor
