/- Scripts: a number's figures, bytes told, a torn sector told. -/
import Derived.Test.YtbcpciegdmminaaGreatDoorScS
import Derived.Test.YtbcpciegdmminaaGreatDoorBd
import Derived.Test.YtbcpciegdmminaaGreatDoorQin
import Derived.Lib.AppendIntMem
import Derived.BigQuiet
namespace Go.Proofs.YtbcpciegdmminaaGreatDoor
open Go Go.RowKit
set_option linter.unusedVariables false
/-- the table that Itoa reads -/
def PowAt (w : World) : Prop := Lib.TabIs Tryz.prog w "internal/strconv.uint64pow10" .u64 Lib.pow10Tab
theorem PowAt.stays {w w' : World} (h : PowAt w) (hb : Below w.heap.size w w') : PowAt w' := Lib.tabBelow_of_tabIs h w' hb
theorem itoa_dec {n : Int} (h : inN n = true) : Lib.itoa n = decI n := by
  unfold inN at h
  simp only [decide_eq_true_eq] at h
  obtain ⟨u, hu⟩ : ∃ u : Nat, n = u := ⟨n.toNat, by omega⟩
  rw [hu, Lib.itoa_nonneg, decI, Int.toNat_natCast]
theorem fig_any {w : World} (hp : PowAt w) {n : Int} (h : inN n = true) : Calls Tryz.prog 52 #[.int .i64 n] w fun e w' => e = .returned (.string (strB (decI n))) ∧ Below w.heap.size w w' := by
  have hn : 0 ≤ n ∧ n ≤ 999999999 := by unfold inN at h; simpa using h
  have HI : Hid (Calls Tryz.prog 69 #[.int .i64 n] w fun e w' => e = .returned (.string (strB (decI n))) ∧ Below w.heap.size w w') := by
    refine (Any.strconv_Itoa Tryz.laysM171 n (by omega) (by omega) w hp).mono ?_
    rintro e w' ⟨h1, k, os, h2⟩
    rw [itoa_dec h] at h1
    exact ⟨h1, by rw [h2]; exact Lib.below_grow _ _ (Nat.le_refl _) k os⟩
  clear h hp
  go_enter Tryz.func52, Tryz.ntmps52
  go_wp2_with fail
  refine HI.out.mono ?_
  rintro e w1 ⟨rfl, hb1⟩
  go_wp2_with fail
  go_ret
  exact ⟨rfl, hb1⟩
theorem hexB_snoc (l : Bs) (b : UInt8) : hexB (l ++ [b]) = hexB l ++ [hexd (b.toNat / 16), hexd (b.toNat % 16)] := by
  induction l with
  | nil => rfl
  | cons x l ih => rw [List.cons_append, hexB, ih, hexB]; rfl
theorem hex_at (d : Nat) (h : d < 16) (h' : d < ByteArray.size ⟨#[48, 49, 50, 51, 52, 53, 54, 55, 56, 57, 97, 98, 99, 100, 101, 102]⟩) : (⟨#[48, 49, 50, 51, 52, 53, 54, 55, 56, 57, 97, 98, 99, 100, 101, 102]⟩ : ByteArray)[d]'h' = hexd d := by
  match d, h with
  | 0, _ => rfl
  | 1, _ => rfl
  | 2, _ => rfl
  | 3, _ => rfl
  | 4, _ => rfl
  | 5, _ => rfl
  | 6, _ => rfl
  | 7, _ => rfl
  | 8, _ => rfl
  | 9, _ => rfl
  | 10, _ => rfl
  | 11, _ => rfl
  | 12, _ => rfl
  | 13, _ => rfl
  | 14, _ => rfl
  | 15, _ => rfl
  | n + 16, h => omega
set_option maxRecDepth 100000 in
set_option maxHeartbeats 1000000 in
theorem putB_any {w : World} {a : Option Addr} {c : Nat} {bs : Bs} (hr : RowB w (.slice a bs.length c) bs) (hl : bs.length ≤ 4096) : Calls Tryz.prog 51 #[.slice a bs.length c] w fun e w' => e = .returned (.string (strB (putB bs))) ∧ Below w.heap.size w w' := by
  by_cases h0 : bs = []
  · subst h0
    clear hr
    go_enter Tryz.func51, Tryz.ntmps51
    go_wp2_with fail
    go_ret
    exact ⟨rfl, Below.refl _ _⟩
  · have HP : Hid (putB bs = hexB bs) := by show _ = _; unfold putB; rw [if_neg h0]
    have hne : bs.length ≠ 0 := fun e => h0 (List.length_eq_zero_iff.1 e)
    have t0 : ((bs.length : Int) == 0) = false := by simpa using hne
    have HR : Hid (∀ W, Below w.heap.size w W → RowB W (.slice a bs.length c) bs) := fun W h => Row.stays hr h
    obtain ⟨W0, hW0⟩ : ∃ W0, W0 = w.alloc (.cells #[.pointer none, .slice none 0 0] 87) := ⟨_, rfl⟩
    obtain ⟨g, hg⟩ : ∃ g, g = w.heap.size := ⟨_, rfl⟩
    have hbd : Bd w.heap.size W0 g [] := by rw [hW0, hg]; exact bd_new w
    have hb0 : Below w.heap.size w W0 := by rw [hW0]; exact (Below.refl _ _).alloc (Nat.le_refl _) _
    have HW := Lib.hid hW0
    have HG := Lib.hid hg
    have HBD := Lib.hid hbd
    clear hr h0 hne hW0 hg hbd
    go_enter Tryz.func51, Tryz.ntmps51
    go_upto_region 4 with fail
    rw [← HW.out, ← HG.out]
    clear HW HG
    go_wp2_with fail
    go_loopw [11] (fun i wr => ∃ m : Nat, m ≤ bs.length ∧ i = .int .i64 m ∧ Hid (Bd w.heap.size wr g (hexB (bs.take m))) ∧ Below w.heap.size w wr) (fun i _ => bs.length - (intOf i).toNat)
    case atStart => exact ⟨0, Nat.zero_le _, rfl, HBD.out, hb0⟩
    case round =>
      obtain ⟨m, hm, rfl, HI, hbe⟩ := hrel
      by_cases h1 : m < bs.length
      · obtain ⟨x, hx⟩ : ∃ x, bs[m]? = some x := ⟨_, List.getElem?_eq_getElem h1⟩
        obtain ⟨b, o, rfl, c0⟩ := rowCell (HR.out wr hbe) hx
        replace c0 : wr.cell? ⟨b, o + m, none⟩ = some (.int .u8 ((x.toNat : Nat) : Int)) := by rw [← BV_def]; exact c0
        have hx8 := x.toNat_lt
        have hd1 : x.toNat / 16 < 16 := by omega
        have hd2 : x.toNat % 16 < 16 := by omega
        have HBY : Hid (∀ W bs d, Bd w.heap.size W g bs → bs.length ≤ 1000000 → w.heap.size ≤ W.heap.size → d < 16 → Calls Tryz.prog 68 #[.pointer (some ⟨g, 0, none⟩), .int .u8 ((hexd d).toNat : Nat)] W fun e w' => e = .returned .nilIface ∧ Bd w.heap.size w' g (bs ++ [hexd d]) ∧ Below w.heap.size W w') := fun W bs d h1 h2 h3 h4 => by
          rw [← BV_def]; exact bd_byte w.heap.size g bs (hexd d) W h1 h2 h3
        have hlen : (hexB (bs.take m)).length = 2 * m := by rw [hexB_len, List.length_take]; omega
        have HT : Hid (hexB (bs.take (m + 1)) = (hexB (bs.take m) ++ [hexd (x.toNat / 16)]) ++ [hexd (x.toNat % 16)]) := by
          show _ = _
          rw [List.take_add_one, hx, Option.toList_some, hexB_snoc, List.append_assoc]; rfl
        have HLN := Lib.hid hlen
        have HD1 := Lib.hid hd1
        have HD2 := Lib.hid hd2
        clear hx hlen hd1 hd2
        go_wp2_with fail
        rw [hex_at _ HD1.out]
        refine (HBY.out wr _ _ HI.out (by rw [HLN.out]; omega) hbe.size HD1.out).mono ?_
        rintro e w1 ⟨rfl, hd1, hb1⟩
        have hbe1 : Below w.heap.size w w1 := hbe.trans hb1
        have HI1 := Lib.hid hd1
        clear HI hd1 hb1 c0
        go_wp2_with fail
        rw [hex_at _ HD2.out]
        refine (HBY.out w1 _ _ HI1.out (by rw [List.length_append, HLN.out, List.length_singleton]; omega) hbe1.size HD2.out).mono ?_
        rintro e w2 ⟨rfl, hd2, hb2⟩
        have hbe2 : Below w.heap.size w w2 := hbe1.trans hb2
        have HI2 := Lib.hid hd2
        have HBE2 := Lib.hid hbe2
        clear HI1 hd2 hb2 hbe2
        go_wp2_with fail
        go_roundw
        case rel => exact ⟨m + 1, h1, by go_num, by show Bd _ _ _ _; rw [HT.out]; exact HI2.out, HBE2.out⟩
        case measure => simp only [intOf]; omega
      · have HS := Lib.hid (bd_string w.heap.size g _ wr HI.out hbe.size)
        rw [show bs.take m = bs from List.take_of_length_le (by omega)] at HS
        clear HI
        go_wp2_with fail
        refine HS.out.mono ?_
        rintro e w1 ⟨rfl, hb1⟩
        have HB1 := Lib.hid (hbe.trans hb1)
        clear HS hb1
        go_wp2_with fail
        go_ret
        exact ⟨congrArg (fun z => Ending.returned (Value.string (strB z))) HP.out.symm, HB1.out⟩
theorem decI_len {n : Int} (h : inN n = true) : (decI n).length ≤ 9 := by
  unfold inN at h
  simp only [decide_eq_true_eq] at h
  exact dec_len 8 _ (by omega)
theorem putB_len (bs : Bs) : (putB bs).length ≤ 2 * bs.length + 1 := by
  unfold putB
  split
  · simp
  · rw [hexB_len]; omega
theorem putT_len {t : Int × Bs} (h : inN t.1 = true) : (putT t).length ≤ 2 * t.2.length + 11 := by
  have h1 := decI_len h
  have h2 := putB_len t.2
  unfold putT
  rw [List.length_append, List.length_cons]
  omega
set_option maxRecDepth 100000 in
set_option maxHeartbeats 1000000 in
theorem putT_any {w : World} (hp : PowAt w) {n : Int} {a : Option Addr} {c : Nat} {bs : Bs} (hn : inN n = true) (hr : RowB w (.slice a bs.length c) bs) (hl : bs.length ≤ 4096) : Calls Tryz.prog 55 #[.agg #[.int .i64 n, .slice a bs.length c]] w fun e w' => e = .returned (.string (strB (putT (n, bs)))) ∧ Below w.heap.size w w' := by
  obtain ⟨W0, hW0⟩ : ∃ W0, W0 = w.alloc (.cells #[.int .i64 n, .slice a bs.length c] 57) := ⟨_, rfl⟩
  obtain ⟨g, hg⟩ : ∃ g, g = w.heap.size := ⟨_, rfl⟩
  have hb0 : Below w.heap.size w W0 := by rw [hW0]; exact (Below.refl _ _).alloc (Nat.le_refl _) _
  have hc0 : CellsAt W0 g 57 #[.int .i64 n, .slice a bs.length c] := by rw [hW0, hg]; exact CellsAt.new w _ _
  have HF : Hid (∀ W, Below W0.heap.size W0 W → Calls Tryz.prog 52 #[.int .i64 n] W fun e w' => e = .returned (.string (strB (decI n))) ∧ Below W.heap.size W w') := fun W h => fig_any ((hp.stays hb0).stays h) hn
  have HP : Hid (∀ W, Below W0.heap.size W0 W → Calls Tryz.prog 51 #[.slice a bs.length c] W fun e w' => e = .returned (.string (strB (putB bs))) ∧ Below W.heap.size W w') := fun W h => putB_any (Row.stays (Row.stays hr hb0) h) hl
  have HS : Hid (∀ W, Below W0.heap.size W0 W → W.cell? ⟨g, 0, none⟩ = some (.int .i64 n) ∧ W.cell? ⟨g, 1, none⟩ = some (.slice a bs.length c) ∧ (Op.stringOp .add (strB (decI n)) ⟨#[58]⟩).run Tryz.prog W = .ok (.string (strB (decI n ++ [58]))) W ∧ (Op.stringOp .add (strB (decI n ++ [58])) (strB (putB bs))).run Tryz.prog W = .ok (.string (strB (putT (n, bs)))) W) := fun W h => by
    have h1 := decI_len hn
    have h2 := putB_len bs
    refine ⟨(hc0.stays h).cell 0 rfl, (hc0.stays h).cell 1 rfl, str_add (decI n) [58] (by simp; omega) W, ?_⟩
    rw [str_add (decI n ++ [58]) (putB bs) (by simp; omega) W, List.append_assoc]; rfl
  have hd0 : Below W0.heap.size W0 W0.drew := (Below.refl _ _).drew
  have HW := Lib.hid hW0
  have HG := Lib.hid hg
  have HB := Lib.hid hb0
  clear hp hn hr hW0 hg hb0 hc0
  go_enter Tryz.func55, Tryz.ntmps55
  go_upto_region 1 with fail
  rw [← HW.out, ← HG.out]
  clear HW HG
  refine wp_region_quiet_in (C := fun W => Below W0.heap.size W0 W) (by kernel_rfl) (by kernel_rfl) hd0 ?_
  clear hd0
  repeat
    (first
       | go_big_quiet_skip
       | (go_big_quiet_want
          refine quiet_intro ?_ (fun wq hwq => ?_) ?_
          rotate_left
          focus
            (obtain ⟨c0, c1, s1, s2⟩ := HS.out _ hwq
             go_simp
             try first
               | with_reducible rfl
               | (exact hwq)
               | ((with_reducible refine (HF.out _ hwq).mono ?_); rintro e wA ⟨rfl, hbA⟩; refine ⟨?_, hwq.trans (hbA.mono hwq.size)⟩; with_reducible rfl)
               | ((with_reducible refine (HP.out _ hwq).mono ?_); rintro e wA ⟨rfl, hbA⟩; refine ⟨?_, hwq.trans (hbA.mono hwq.size)⟩; with_reducible rfl))
          go_simp
          go_big_quiet_on))
  refine wpQuiet_nil ?_
  intro W1 hb1
  have HB1 := Lib.hid (HB.out.trans (hb1.mono HB.out.size))
  clear HF HP HS hb1
  go_wp2_with fail
  go_ret
  exact ⟨rfl, HB1.out⟩
end Go.Proofs.YtbcpciegdmminaaGreatDoor
