/- Scripts, the document's: a text's number, a text's bytes, a text's parts. -/
import Derived.Test.YtbcpciegdmminaaGreatDoorSrA
namespace Go.Proofs.YtbcpciegdmminaaGreatDoor
open Go Go.RowKit
set_option linter.unusedVariables false
def nstep (n : Nat) (b : UInt8) : Nat := if isDg b then n * 10 + (b.toNat - 48) else n
theorem numL_eq (s : Bs) : numL s = (s.take 9).foldl nstep 0 := rfl
theorem nstep_lt : ∀ (l : Bs) (n : Nat), l.foldl nstep n < (n + 1) * 10 ^ l.length
  | [], n => by simp
  | b :: l, n => by
    rw [List.foldl_cons, List.length_cons, Nat.pow_succ]
    have h1 := nstep_lt l (nstep n b)
    have h2 : nstep n b + 1 ≤ (n + 1) * 10 := by
      unfold nstep
      split
      · rename_i h
        unfold isDg at h
        simp only [decide_eq_true_eq] at h
        omega
      · omega
    calc _ < (nstep n b + 1) * 10 ^ l.length := h1
      _ ≤ ((n + 1) * 10) * 10 ^ l.length := Nat.mul_le_mul_right _ h2
      _ = (n + 1) * (10 ^ l.length * 10) := by rw [Nat.mul_assoc, Nat.mul_comm 10]
set_option maxRecDepth 100000 in
set_option maxHeartbeats 1000000 in
theorem rnum_any (s : Bs) (hl : s.length ≤ 1000000) (w : World) : Calls Tryz.prog 42 #[.string (strB s)] w fun e w' => e = .returned (.int .i64 ((numL s : Nat) : Int)) ∧ w' = w := by
  have hsz : (strB s).size = s.length := strB_size s
  have HN := Lib.hid (numL_eq s)
  generalize numL s = N at HN ⊢
  go_enter Tryz.func42, Tryz.ntmps42
  go_wp2_with fail
  go_loopw [3, 4] (fun n i wr => ∃ m v : Nat, m ≤ s.length ∧ m ≤ 9 ∧ i = .int .i64 m ∧ n = .int .i64 v ∧ Hid (v = (s.take m).foldl nstep 0) ∧ wr = w) (fun _ i _ => s.length - (intOf i).toNat)
  case atStart => exact ⟨0, 0, Nat.zero_le _, Nat.zero_le _, rfl, rfl, rfl, rfl⟩
  case round =>
    obtain ⟨m, v, hm, hm9, rfl, rfl, HV, rfl⟩ := hrel
    have hv9 : v ≤ 999999999 := by
      have h1 := nstep_lt (s.take m) 0
      rw [← HV.out, List.length_take, Nat.min_eq_left hm] at h1
      have h2 : 10 ^ m ≤ 10 ^ 9 := Nat.pow_le_pow_right (by omega) hm9
      omega
    by_cases h1 : m < s.length
    · have t1 : decide ((m : Int) < (s.length : Int)) = true := decide_eq_true (by omega)
      by_cases h9 : m < 9
      · have t2 : decide ((m : Int) < 9) = true := decide_eq_true (by omega)
        obtain ⟨x, hx⟩ : ∃ x, s[m]? = some x := ⟨_, List.getElem?_eq_getElem h1⟩
        have hix : ∀ h, (strB s)[m]'h = x := fun h => by
          have e := List.getElem?_eq_getElem h1
          rw [hx] at e
          exact (Option.some.inj e).symm
        have hT : (s.take (m + 1)).foldl nstep 0 = nstep v x := by
          rw [List.take_add_one, hx, Option.toList_some, List.foldl_append, ← HV.out]; rfl
        have hx8 := x.toNat_lt
        have HT0 := Lib.hid hT
        clear hx hT
        by_cases g1 : 48 ≤ x.toNat
        · have q1 : decide ((48 : Int) ≤ ((x.toNat : Nat) : Int)) = true := decide_eq_true (by omega)
          by_cases g2 : x.toNat ≤ 57
          · have q2 : decide (((x.toNat : Nat) : Int) ≤ 57) = true := decide_eq_true (by omega)
            have b1 : IntKind.i64.wrap ((v : Int) * 10) = (v : Int) * 10 := by rw [IntKind.wrap_i64]; omega
            have b2 : IntKind.u8.wrap (((x.toNat : Nat) : Int) - 48) = ((x.toNat : Nat) : Int) - 48 := by rw [IntKind.wrap_u8]; omega
            have b3 : IntKind.i64.wrap (((x.toNat : Nat) : Int) - 48) = ((x.toNat : Nat) : Int) - 48 := by rw [IntKind.wrap_i64]; omega
            have b4 : IntKind.i64.wrap ((v : Int) * 10 + (((x.toNat : Nat) : Int) - 48)) = (v : Int) * 10 + (((x.toNat : Nat) : Int) - 48) := by rw [IntKind.wrap_i64]; omega
            have HT : Hid (v * 10 + (x.toNat - 48) = (s.take (m + 1)).foldl nstep 0) := by
              show _ = _
              rw [HT0.out, nstep, if_pos (by unfold isDg; exact decide_eq_true ⟨g1, g2⟩)]
            have HC : Hid ((v : Int) * 10 + (((x.toNat : Nat) : Int) - 48) = ((v * 10 + (x.toNat - 48) : Nat) : Int)) := by show _ = _; omega
            clear HV g1 g2
            go_wp2_with fail
            go_roundw
            case rel => exact ⟨m + 1, v * 10 + (x.toNat - 48), h1, h9, by go_num, by rw [HC.out], HT.out, trivial⟩
            case measure => simp only [intOf]; omega
          · have q2 : decide (((x.toNat : Nat) : Int) ≤ 57) = false := decide_eq_false (by omega)
            have HT : Hid (v = (s.take (m + 1)).foldl nstep 0) := by
              show _ = _
              rw [HT0.out, nstep, if_neg (by unfold isDg; simp only [decide_eq_true_eq]; omega)]
            clear HV g1 g2
            go_wp2_with fail
            go_roundw
            case rel => exact ⟨m + 1, v, h1, h9, by go_num, rfl, HT.out, trivial⟩
            case measure => simp only [intOf]; omega
        · have q1 : decide ((48 : Int) ≤ ((x.toNat : Nat) : Int)) = false := decide_eq_false (by omega)
          have HT : Hid (v = (s.take (m + 1)).foldl nstep 0) := by
            show _ = _
            rw [HT0.out, nstep, if_neg (by unfold isDg; simp only [decide_eq_true_eq]; omega)]
          clear HV g1
          go_wp2_with fail
          go_roundw
          case rel => exact ⟨m + 1, v, h1, h9, by go_num, rfl, HT.out, trivial⟩
          case measure => simp only [intOf]; omega
      · have t2 : decide ((m : Int) < 9) = false := decide_eq_false (by omega)
        have HZ : Hid (v = N) := by show _ = _; rw [HN.out, HV.out, show m = 9 from by omega]
        clear HV HN
        go_wp2_with fail
        go_ret
        exact ⟨congrArg (fun z : Nat => Ending.returned (Value.int .i64 ((z : Nat) : Int))) HZ.out, rfl⟩
    · have t1 : decide ((m : Int) < (s.length : Int)) = false := decide_eq_false (by omega)
      have HZ : Hid (v = N) := by show _ = _; rw [HN.out, HV.out, List.take_of_length_le (by omega), List.take_of_length_le (by omega)]
      clear HV HN
      go_wp2_with fail
      go_ret
      exact ⟨congrArg (fun z : Nat => Ending.returned (Value.int .i64 ((z : Nat) : Int))) HZ.out, rfl⟩
theorem hexL_le (v : Nat) (b : UInt8) : hexL v b ≤ v * 16 + 15 := by
  unfold hexL
  split
  · omega
  · split <;> omega
def elV (x y : UInt8) (j : Nat) : UInt8 := if j = 0 then x else y
def hxV (x y : UInt8) (j : Nat) : Nat := if j = 0 then 0 else if j = 1 then hexL 0 x else hexL (hexL 0 x) y
theorem hxV_step (x y : UInt8) (j : Nat) (h : j < 2) : hxV x y (j + 1) = hexL (hxV x y j) (elV x y j) := by
  rcases (show j = 0 ∨ j = 1 by omega) with rfl | rfl <;> rfl
theorem hxV_le (x y : UInt8) (j : Nat) : hxV x y j ≤ 255 := by
  unfold hxV
  have h1 := hexL_le 0 x
  have h2 := hexL_le (hexL 0 x) y
  split
  · omega
  · split <;> omega
set_option maxRecDepth 100000 in
set_option maxHeartbeats 4000000 in
theorem runhex_any (s : Bs) (hl : s.length ≤ 1000000) (w : World) : Calls Tryz.prog 41 #[.string (strB s)] w fun e w' => e = .returned (.string (strB (unhexL s))) ∧ Below w.heap.size w w' := by
  have hsz : (strB s).size = s.length := strB_size s
  have how0 : OwnB w.heap.size (w.alloc (.cells #[] 5)) (.slice (some ⟨w.heap.size, 0, none⟩) 0 0) [] := World.ownsRow_lit (base := w.heap.size) (e := 5) (size := 1) w #[] 0 (Nat.le_refl _) (by unfold maxLen; omega) rfl
  have HO := Lib.hid how0
  clear how0
  go_enter Tryz.func41, Tryz.ntmps41
  go_wp2_with fail
  go_loopw [3, 4] (fun v i wr => ∃ (n : Nat) (acc : Bs), i = .int .i64 n ∧ n ≤ s.length + 1 ∧ Hid (acc.length ≤ n) ∧ Hid (unhexL s = acc ++ unhexL (s.drop n)) ∧ OwnB w.heap.size wr v acc ∧ Below w.heap.size w wr) (fun _ i _ => s.length + 2 - (intOf i).toNat)
  case atStart => exact ⟨0, [], rfl, Nat.zero_le _, Nat.le_refl _, by show _ = _; simp, HO.out, (Below.refl _ _).alloc (Nat.le_refl _) _⟩
  case round =>
    obtain ⟨n, acc, rfl, hn, HE, HI, how, hbe⟩ := hrel
    by_cases h1 : n + 1 < s.length
    · have h0 : n < s.length := by omega
      have t1 : decide ((n : Int) + 1 < (s.length : Int)) = true := decide_eq_true (by omega)
      obtain ⟨x, hx⟩ : ∃ x, s[n]? = some x := ⟨_, List.getElem?_eq_getElem h0⟩
      obtain ⟨y, hy⟩ : ∃ y, s[n + 1]? = some y := ⟨_, List.getElem?_eq_getElem h1⟩
      have hdr : s.drop n = x :: y :: s.drop (n + 2) := by
        rw [List.drop_eq_getElem_cons h0, List.drop_eq_getElem_cons h1]
        rw [List.getElem?_eq_getElem h0] at hx
        rw [List.getElem?_eq_getElem h1] at hy
        rw [Option.some.inj hx, Option.some.inj hy]
      have hix : ∀ h, (strB s)[n]'h = x := fun h => by
        have e := List.getElem?_eq_getElem h0
        rw [hx] at e
        exact (Option.some.inj e).symm
      have hiy : ∀ h, (strB s)[n + 1]'h = y := fun h => by
        have e := List.getElem?_eq_getElem h1
        rw [hy] at e
        exact (Option.some.inj e).symm
      have HI2 : Hid (unhexL s = (acc ++ [UInt8.ofNat (hxV x y 2)]) ++ unhexL (s.drop (n + 2))) := by
        show _ = _
        have h := HI.out
        rw [hdr, unhexL] at h
        rw [h, List.append_assoc]; rfl
      have z1 : (n : Int) + 1 < (s.length : Int) := by omega
      have z2 : 0 ≤ (n : Int) + 1 := by omega
      have z3 : ((n : Int) + 1).toNat = n + 1 := by omega
      have z4 : IntKind.i64.wrap ((n : Int) + 1) = (n : Int) + 1 := by rw [IntKind.wrap_i64]; omega
      have HOW := Lib.hid how
      clear hx hy hdr how HI
      go_wp2_with fail
      go_region
      have hcb : CellsAt (wr.alloc (.cells #[.int .u8 ((x.toNat : Nat) : Int), .int .u8 ((y.toNat : Nat) : Int)] 5)).drew wr.heap.size 5 #[.int .u8 ((x.toNat : Nat) : Int), .int .u8 ((y.toNat : Nat) : Int)] := CellsAt.drew (CellsAt.new wr _ _)
      have HOW1 := Lib.hid (own_stays HOW.out (((Below.refl _ _).alloc (Nat.le_refl _) (.cells #[.int .u8 ((x.toNat : Nat) : Int), .int .u8 ((y.toNat : Nat) : Int)] 5)).drew))
      have hb1 : Below w.heap.size w (wr.alloc (.cells #[.int .u8 ((x.toNat : Nat) : Int), .int .u8 ((y.toNat : Nat) : Int)] 5)).drew := (hbe.alloc hbe.size _).drew
      obtain ⟨g, hg⟩ : ∃ g, g = wr.heap.size := ⟨_, rfl⟩
      rw [← hg] at hcb
      rw [← hg]
      clear HOW
      generalize (wr.alloc (.cells #[.int .u8 ((x.toNat : Nat) : Int), .int .u8 ((y.toNat : Nat) : Int)] 5)).drew = W1 at hcb HOW1 hb1 ⊢
      have HCE : Hid (∀ j, j < 2 → W1.cell? ⟨g, j, none⟩ = some (.int .u8 (((elV x y j).toNat : Nat) : Int))) := fun j hj => by
        rcases (show j = 0 ∨ j = 1 by omega) with rfl | rfl
        · exact hcb.cell 0 rfl
        · exact hcb.cell 1 rfl
      have HSTEP : Hid (∀ j, j < 2 → hxV x y (j + 1) = hexL (hxV x y j) (elV x y j)) := hxV_step x y
      have HLE : Hid (∀ j, hxV x y j ≤ 255) := hxV_le x y
      have HV0 : Hid (hxV x y 0 = 0) := rfl
      generalize elV x y = EV2 at HCE HSTEP
      generalize hxV x y = HX at HSTEP HLE HV0 HI2
      have HB1 := Lib.hid hb1
      clear hcb hg hb1 hix hiy hbe
      go_wp2_with fail
      go_loopw [5, 25] (fun v i wq => ∃ j : Nat, j ≤ 2 ∧ i = .int .i64 j ∧ v = .int .i64 ((HX j : Nat) : Int) ∧ wq = W1) (fun _ i _ => 2 - (intOf i).toNat)
      case atStart => exact ⟨0, by omega, rfl, by rw [HV0.out]; rfl, rfl⟩
      case round =>
        obtain ⟨j, hj, rfl, rfl, rfl⟩ := hrel
        have hv := HLE.out j
        by_cases hj2 : j < 2
        · have c0 := HCE.out j hj2
          have hst := HSTEP.out j hj2
          obtain ⟨b, hb⟩ : ∃ b, b = EV2 j := ⟨_, rfl⟩
          obtain ⟨V, hV⟩ : ∃ V, V = HX j := ⟨_, rfl⟩
          obtain ⟨V', hV'⟩ : ∃ V', V' = HX (j + 1) := ⟨_, rfl⟩
          rw [← hb] at c0 hst
          rw [← hV] at hst hv
          rw [← hV'] at hst
          rw [← hV]
          have HV' := Lib.hid hV'
          have HST := Lib.hid hst
          have hb8 := b.toNat_lt
          have k0 : (0 : Int) ≤ (j : Int) := by omega
          have k1 : (j : Int) < 2 := by omega
          have b1 : IntKind.i64.wrap ((V : Int) * 16) = (V : Int) * 16 := by rw [IntKind.wrap_i64]; omega
          clear hst hb hV hV'
          by_cases g1 : 48 ≤ b.toNat ∧ b.toNat ≤ 57
          · have HX1 : Hid ((V : Int) * 16 + (((b.toNat : Nat) : Int) - 48) = ((V' : Nat) : Int)) := by show _ = _; rw [HST.out]; unfold hexL; rw [if_pos g1]; omega
            have q1 : decide ((48 : Int) ≤ ((b.toNat : Nat) : Int)) = true := decide_eq_true (by omega)
            have q2 : decide (((b.toNat : Nat) : Int) ≤ 57) = true := decide_eq_true (by omega)
            have q3 : decide ((97 : Int) ≤ ((b.toNat : Nat) : Int)) = false := decide_eq_false (by omega)
            have b2 : IntKind.u8.wrap (((b.toNat : Nat) : Int) - 48) = ((b.toNat : Nat) : Int) - 48 := by rw [IntKind.wrap_u8]; omega
            have b3 : IntKind.i64.wrap (((b.toNat : Nat) : Int) - 48) = ((b.toNat : Nat) : Int) - 48 := by rw [IntKind.wrap_i64]; omega
            have b4 : IntKind.i64.wrap ((V : Int) * 16 + (((b.toNat : Nat) : Int) - 48)) = (V : Int) * 16 + (((b.toNat : Nat) : Int) - 48) := by rw [IntKind.wrap_i64]; omega
            clear HST g1
            go_wp2_with fail
            go_roundw
            case rel => exact ⟨j + 1, by omega, by go_num, by rw [HX1.out, HV'.out], trivial⟩
            case measure => simp only [intOf]; omega
          · by_cases g2 : 97 ≤ b.toNat ∧ b.toNat ≤ 102
            · have HX1 : Hid ((V : Int) * 16 + (((b.toNat : Nat) : Int) - 97 + 10) = ((V' : Nat) : Int)) := by show _ = _; rw [HST.out]; unfold hexL; rw [if_neg g1, if_pos g2]; omega
              have q1 : decide ((48 : Int) ≤ ((b.toNat : Nat) : Int)) = true := decide_eq_true (by omega)
              have q2 : decide (((b.toNat : Nat) : Int) ≤ 57) = false := decide_eq_false (by omega)
              have q3 : decide ((97 : Int) ≤ ((b.toNat : Nat) : Int)) = true := decide_eq_true (by omega)
              have q4 : decide (((b.toNat : Nat) : Int) ≤ 102) = true := decide_eq_true (by omega)
              have b2 : IntKind.u8.wrap (((b.toNat : Nat) : Int) - 97) = ((b.toNat : Nat) : Int) - 97 := by rw [IntKind.wrap_u8]; omega
              have b3 : IntKind.i64.wrap (((b.toNat : Nat) : Int) - 97) = ((b.toNat : Nat) : Int) - 97 := by rw [IntKind.wrap_i64]; omega
              have b5 : IntKind.i64.wrap (((b.toNat : Nat) : Int) - 97 + 10) = ((b.toNat : Nat) : Int) - 97 + 10 := by rw [IntKind.wrap_i64]; omega
              have b4 : IntKind.i64.wrap ((V : Int) * 16 + (((b.toNat : Nat) : Int) - 97 + 10)) = (V : Int) * 16 + (((b.toNat : Nat) : Int) - 97 + 10) := by rw [IntKind.wrap_i64]; omega
              clear HST g1 g2
              go_wp2_with fail
              go_roundw
              case rel => exact ⟨j + 1, by omega, by go_num, by rw [HX1.out, HV'.out], trivial⟩
              case measure => simp only [intOf]; omega
            · have HX1 : Hid ((V : Int) * 16 = ((V' : Nat) : Int)) := by show _ = _; rw [HST.out]; unfold hexL; rw [if_neg g1, if_neg g2]; omega
              by_cases g3 : 48 ≤ b.toNat
              · have q1 : decide ((48 : Int) ≤ ((b.toNat : Nat) : Int)) = true := decide_eq_true (by omega)
                have q2 : decide (((b.toNat : Nat) : Int) ≤ 57) = false := decide_eq_false (by omega)
                by_cases g4 : 97 ≤ b.toNat
                · have q3 : decide ((97 : Int) ≤ ((b.toNat : Nat) : Int)) = true := decide_eq_true (by omega)
                  have q4 : decide (((b.toNat : Nat) : Int) ≤ 102) = false := decide_eq_false (by omega)
                  clear HST g1 g2 g3 g4
                  go_wp2_with fail
                  go_roundw
                  case rel => exact ⟨j + 1, by omega, by go_num, by rw [HX1.out, HV'.out], trivial⟩
                  case measure => simp only [intOf]; omega
                · have q3 : decide ((97 : Int) ≤ ((b.toNat : Nat) : Int)) = false := decide_eq_false (by omega)
                  clear HST g1 g2 g3 g4
                  go_wp2_with fail
                  go_roundw
                  case rel => exact ⟨j + 1, by omega, by go_num, by rw [HX1.out, HV'.out], trivial⟩
                  case measure => simp only [intOf]; omega
              · have q1 : decide ((48 : Int) ≤ ((b.toNat : Nat) : Int)) = false := decide_eq_false (by omega)
                have q3 : decide ((97 : Int) ≤ ((b.toNat : Nat) : Int)) = false := decide_eq_false (by omega)
                clear HST g1 g2 g3
                go_wp2_with fail
                go_roundw
                case rel => exact ⟨j + 1, by omega, by go_num, by rw [HX1.out, HV'.out], trivial⟩
                case measure => simp only [intOf]; omega
        · obtain rfl : j = 2 := by omega
          have how1 := HOW1.out
          have hsz1 := HB1.out.size
          have b1 : IntKind.u8.wrap ((HX 2 : Nat) : Int) = ((HX 2 : Nat) : Int) := by rw [IntKind.wrap_u8]; omega
          have hae : acc.length ≤ 1000001 := by have := HE.out; omega
          go_wp2_with (at_builtin; go_must (refine wpList_pushB how1 (UInt8.ofNat (HX 2)) (by omega) hsz1 rfl _ _ rfl (by rfl) _ _ _ (by rfl) (by rw [BV_def, of_nat (by omega)]) ?_))
          intro v3 w3 ho3 hg3 hn3
          have hb3 := OwnB.below how1 HB1.out hg3 hsz1
          have HB3 := Lib.hid hb3
          clear hg3 hn3 how1 hb3
          go_wp2_with fail
          go_roundw
          case rel => exact ⟨n + 2, _, by go_num, by omega, by show _ ≤ _; have := HE.out; simp; omega, HI2.out, ho3, HB3.out⟩
          case measure => simp only [intOf]; omega
    · have t1 : decide ((n : Int) + 1 < (s.length : Int)) = false := decide_eq_false (by omega)
      have z4 : IntKind.i64.wrap ((n : Int) + 1) = (n : Int) + 1 := by rw [IntKind.wrap_i64]; omega
      have HZ : Hid (acc = unhexL s) := by
        show _ = _
        rw [HI.out]
        have hd : (s.drop n).length ≤ 1 := by rw [List.length_drop]; omega
        cases hq : s.drop n with
        | nil => simp [unhexL]
        | cons a t => cases t with
          | nil => simp [unhexL]
          | cons b t => rw [hq] at hd; simp at hd
      obtain ⟨a3, c3, rfl, -, -⟩ := how.row.gen.shape
      have hcv := convert_str how.row
      clear HI how
      go_wp2_with fail
      go_ret
      exact ⟨congrArg (fun z => Ending.returned (Value.string (strB z))) HZ.out, hbe⟩
end Go.Proofs.YtbcpciegdmminaaGreatDoor
