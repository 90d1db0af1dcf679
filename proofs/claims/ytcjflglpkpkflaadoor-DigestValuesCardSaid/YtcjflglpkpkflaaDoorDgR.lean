/- Digests, the document's: figures, bytes, cut. -/
import Derived.Test.YtcjflglpkpkflaaDoorDgQ
import Derived.Test.YtcjflglpkpkflaaDoorDgF
import Derived.Deep.RegionHeld3
namespace Go.Proofs.YtcjflglpkpkflaaDoor
open Go Go.RowKit
set_option linter.unusedVariables false
set_option maxRecDepth 100000 in
set_option maxHeartbeats 1000000 in
theorem rfg_any : ∀ (N u : Nat), u < N → u < 18446744073709551616 → ∀ w : World, Calls Tryd.prog 19 #[.int .u64 (u : Int)] w fun e w' => e = .returned (.string (strB (Lib.decDigits u))) ∧ Below w.heap.size w w'
  | 0, u, h, _, _ => by omega
  | N + 1, u, h, hu, w => by
    by_cases h10 : u < 10
    · obtain ⟨q, hq⟩ : ∃ q : UInt8, q = UInt8.ofNat (48 + u) := ⟨_, rfl⟩
      have HZ : Hid (Lib.decDigits u = [q]) := by show _ = _; rw [dec_small u h10, hq]
      have t0 : decide ((u : Int) < 10) = true := decide_eq_true (by omega)
      have hqn : ((48 + u : Nat) : Int) = ((q.toNat : Nat) : Int) := by rw [hq, dg_nat u h10]
      have b4 : IntKind.u64.wrap (48 + (u : Int)) = 48 + (u : Int) := IntWalk.u64_in _ (by omega)
      have b5 : IntKind.u8.wrap (48 + (u : Int)) = ((q.toNat : Nat) : Int) := by rw [IntKind.wrap_u8, ← hqn]; omega
      have hcv : (convert 71 9 (.slice (some ⟨w.heap.size, 0, none⟩) 1 1)).run Tryd.prog (w.alloc (.cells #[.int .u8 ((q.toNat : Nat) : Int)] 5)) = .ok (.string (strB [q])) (w.alloc (.cells #[.int .u8 ((q.toNat : Nat) : Int)] 5)) := by
        have hown := World.ownsRow_lit (base := w.heap.size) (e := 5) (size := 1) w #[.int .u8 ((q.toNat : Nat) : Int)] 1 (Nat.le_refl _) (by unfold maxLen; omega) rfl
        exact convert_str (show RowB _ _ [q] from by
          have := Row.ofOwn hown
          rw [← BV_def] at this
          exact this)
      clear hq hqn h
      go_enter Tryd.func19, Tryd.ntmps19
      go_wp2_with fail
      go_ret
      exact ⟨congrArg (fun z => Ending.returned (Value.string (strB z))) HZ.out.symm, (Below.refl _ _).alloc (Nat.le_refl _) _⟩
    · have HZ : Hid (Lib.decDigits (u / 10) ++ Lib.decDigits (u % 10) = Lib.decDigits u) := by show _ = _; rw [dec_big u h10, dec_small (u % 10) (by omega)]
      have t0 : decide ((u : Int) < 10) = false := decide_eq_false (by omega)
      have b1 : Int.tmod (u : Int) 10 = ((u % 10 : Nat) : Int) := by rw [Int.tmod_eq_emod_of_nonneg (by omega)]; omega
      have b2 : Int.tdiv (u : Int) 10 = ((u / 10 : Nat) : Int) := by rw [Int.tdiv_eq_ediv_of_nonneg (by omega)]; omega
      have b3 : (u : Int) % 10 = ((u % 10 : Nat) : Int) := by omega
      have b4 : (u : Int) / 10 = ((u / 10 : Nat) : Int) := by omega
      have HC1 : Hid (∀ W, Calls _ _ _ W _) := fun W => rfg_any N (u / 10) (by omega) (by omega) W
      have HC2 : Hid (∀ W, Calls _ _ _ W _) := fun W => rfg_any N (u % 10) (by omega) (by omega) W
      have hl1 := dec_len20 (u := u / 10) (by omega)
      have hl2 := dec_len20 (u := u % 10) (by omega)
      obtain ⟨d1, hd1⟩ : ∃ d, d = u / 10 := ⟨_, rfl⟩
      obtain ⟨d2, hd2⟩ : ∃ d, d = u % 10 := ⟨_, rfl⟩
      rw [← hd1] at HC1 hl1 HZ b2 b4
      rw [← hd2] at HC2 hl2 HZ b1 b3
      obtain ⟨D1, hD1⟩ : ∃ d, d = Lib.decDigits d1 := ⟨_, rfl⟩
      obtain ⟨D2, hD2⟩ : ∃ d, d = Lib.decDigits d2 := ⟨_, rfl⟩
      rw [← hD1] at HC1 hl1 HZ
      rw [← hD2] at HC2 hl2 HZ
      have hA : ∀ W, (Op.stringOp .add (strB D1) (strB D2)).run Tryd.prog W = .ok (.string (strB (D1 ++ D2))) W := fun W => str_add D1 D2 (by omega) W
      have w1 : IntKind.u64.wrap (d1 : Int) = (d1 : Int) := IntWalk.u64_in _ (by omega)
      have w2 : IntKind.u64.wrap (d2 : Int) = (d2 : Int) := IntWalk.u64_in _ (by omega)
      clear hd1 hd2 hD1 hD2 hl1 hl2 h
      go_enter Tryd.func19, Tryd.ntmps19
      go_wp2_with fail
      refine (HC1.out _).mono ?_
      rintro e W1 ⟨rfl, hb1⟩
      go_wp2_with fail
      refine (HC2.out _).mono ?_
      rintro e W2 ⟨rfl, hb2⟩
      have HB2 := Lib.hid (hb1.trans (hb2.mono hb1.size))
      clear hb1 hb2 HC1 HC2
      go_wp2_with fail
      go_ret
      exact ⟨congrArg (fun z => Ending.returned (Value.string (strB z))) HZ.out, HB2.out⟩
theorem cut_str (x : UInt8) (s : Bs) : (strB (x :: s)).extract 1 (strB (x :: s)).size = strB s := by
  apply ByteArray.ext
  rw [ByteArray.data_extract]
  apply Array.toList_inj.1
  rw [Array.toList_extract, List.extract_eq_take_drop, strB_size]
  show (((x :: s).drop 1).take ((x :: s).length - 1)) = s
  simp
set_option maxRecDepth 100000 in
theorem rcut_any (s : Bs) (hl : s.length ≤ 100000000) (w : World) : Calls Tryd.prog 22 #[.string (strB s)] w fun e w' => e = .returned (.string (strB (s.drop 1))) ∧ Below w.heap.size w w' := by
  cases s with
  | nil =>
    go_enter Tryd.func22, Tryd.ntmps22
    go_wp2_with fail
    go_ret
    exact ⟨rfl, Below.refl _ _⟩
  | cons x s =>
    have hsz : (strB (x :: s)).size = s.length + 1 := by rw [strB_size, List.length_cons]
    have t0 : ((((x :: s).length : Nat) : Int) == 0) = false := by simp; omega
    have hsl : ∀ W, (Instr.slice 9 (.string (strB (x :: s))) (some (.int .i64 1)) none none).run Tryd.prog W = .ok (.string (strB s)) W := fun W => by
      have h2 := run_slice_string_l (P := Tryd.prog) W 9 (strB (x :: s)) Tryd.underlying9 .i64 1 (by omega) (by rw [hsz]; omega)
      rw [h2]
      show Result.ok (Value.string ((strB (x :: s)).extract 1 (strB (x :: s)).size)) W = _
      rw [cut_str]
    go_enter Tryd.func22, Tryd.ntmps22
    go_wp2_with fail
    go_ret
    exact ⟨rfl, Below.refl _ _⟩
set_option maxRecDepth 100000 in
set_option maxHeartbeats 2000000 in
theorem rbytes_any (t : Bs) (hl : t.length ≤ 400000) (w : World) : Calls Tryd.prog 20 #[.string (strB t)] w fun e w' => e = .returned (.string (strB (qtB t))) ∧ Below w.heap.size w w' := by
  have hsz : (strB t).size = t.length := strB_size t
  go_enter Tryd.func20, Tryd.ntmps20
  go_wp2_with fail
  go_loopw [3, 4] (fun s i wr => ∃ m : Nat, m ≤ t.length ∧ i = .int .i64 m ∧ s = .string (strB (39 :: hexB (t.take m))) ∧ Hid (Below w.heap.size w wr)) (fun _ i _ => t.length - (intOf i).toNat)
  case atStart => exact ⟨0, Nat.zero_le _, rfl, rfl, Below.refl _ _⟩
  case round =>
    obtain ⟨m, hm, rfl, rfl, HBE⟩ := hrel
    by_cases h1 : m < t.length
    · obtain ⟨x, hx⟩ : ∃ x, t[m]? = some x := ⟨_, List.getElem?_eq_getElem h1⟩
      have hix : ∀ h, (strB t)[m]'h = x := fun h => by
        have e := List.getElem?_eq_getElem h1
        rw [hx] at e
        exact (Option.some.inj e).symm
      have hT : hexB (t.take (m + 1)) = hexB (t.take m) ++ [hexd (x.toNat / 16), hexd (x.toNat % 16)] := by
        rw [List.take_add_one, hx, Option.toList_some, hexB_snocP]
      have hlen : (hexB (t.take m)).length = 2 * m := by rw [hexB_len, List.length_take]; omega
      have hx8 := x.toNat_lt
      obtain ⟨d1, hd1⟩ : ∃ d1, d1 = x.toNat / 16 := ⟨_, rfl⟩
      obtain ⟨d2, hd2⟩ : ∃ d2, d2 = x.toNat % 16 := ⟨_, rfl⟩
      have a1 : d1 < 16 := by omega
      have a2 : d2 < 16 := by omega
      have b1 : Int.tdiv ((x.toNat : Nat) : Int) 16 = (d1 : Int) := by rw [Int.tdiv_eq_ediv_of_nonneg (by omega)]; omega
      have b2 : Int.tmod ((x.toNat : Nat) : Int) 16 = (d2 : Int) := by rw [Int.tmod_eq_emod_of_nonneg (by omega)]; omega
      have b3 : IntKind.i64.wrap ((x.toNat : Nat) : Int) = ((x.toNat : Nat) : Int) := by rw [IntKind.wrap_i64]; omega
      have b4 : IntKind.i64.wrap (d1 : Int) = (d1 : Int) := by rw [IntKind.wrap_i64]; omega
      have b7 : IntKind.i64.wrap (d2 : Int) = (d2 : Int) := by rw [IntKind.wrap_i64]; omega
      have b5 : IntKind.i64.wrap ((d1 : Int) + 1) = (d1 : Int) + 1 := by rw [IntKind.wrap_i64]; omega
      have b6 : IntKind.i64.wrap ((d2 : Int) + 1) = (d2 : Int) + 1 := by rw [IntKind.wrap_i64]; omega
      have s1 : ∀ W, (Instr.slice 9 (.string ⟨#[48, 49, 50, 51, 52, 53, 54, 55, 56, 57, 97, 98, 99, 100, 101, 102]⟩) (some (.int .i64 (d1 : Int))) (some (.int .i64 ((d1 : Int) + 1))) none).run Tryd.prog W = .ok (.string (strB [hexd d1])) W := fun W => hex_ext d1 a1 W
      have s2 : ∀ W, (Instr.slice 9 (.string ⟨#[48, 49, 50, 51, 52, 53, 54, 55, 56, 57, 97, 98, 99, 100, 101, 102]⟩) (some (.int .i64 (d2 : Int))) (some (.int .i64 ((d2 : Int) + 1))) none).run Tryd.prog W = .ok (.string (strB [hexd d2])) W := fun W => hex_ext d2 a2 W
      obtain ⟨H0, hH0⟩ : ∃ H0, H0 = 39 :: hexB (t.take m) := ⟨_, rfl⟩
      have hH0l : H0.length = 2 * m + 1 := by rw [hH0, List.length_cons, hlen]
      have s3 : ∀ W, (Op.stringOp .add (strB H0) (strB [hexd d1])).run Tryd.prog W = .ok (.string (strB (H0 ++ [hexd d1]))) W := fun W => str_add H0 [hexd d1] (by simp; omega) W
      have s4 : ∀ W, (Op.stringOp .add (strB (H0 ++ [hexd d1])) (strB [hexd d2])).run Tryd.prog W = .ok (.string (strB ((H0 ++ [hexd d1]) ++ [hexd d2]))) W := fun W => str_add (H0 ++ [hexd d1]) [hexd d2] (by simp; omega) W
      have HH2 : Hid ((H0 ++ [hexd d1]) ++ [hexd d2] = 39 :: hexB (t.take (m + 1))) := by show _ = _; rw [hH0, hT, hd1, hd2]; simp
      rw [← hH0]
      have HWN : ∀ W : World, CellsAt (W.alloc (.cells #[.int .i64 (d1 : Int), .int .i64 (d2 : Int)] 3)) W.heap.size 3 #[.int .i64 (d1 : Int), .int .i64 (d2 : Int)] := fun W => CellsAt.new W _ _
      have HCN := Lib.hid HWN
      have HSL : Hid (H0.length = 2 * m + 1) := hH0l
      clear hx hT hlen hd1 hd2 hH0 hH0l HWN
      go_wp2_with fail
      go_region_held3 (fun _ => True) (exact trivial) (fail)
      all_goals
        obtain ⟨W5, hW5⟩ : ∃ W5, W5 = (wr.alloc (.cells #[.int .i64 (d1 : Int), .int .i64 (d2 : Int)] 3)).drew := ⟨_, rfl⟩
        obtain ⟨gb, hgb⟩ : ∃ gb, gb = wr.heap.size := ⟨_, rfl⟩
        have HI0 : Hid (CellsAt W5 gb 3 #[.int .i64 (d1 : Int), .int .i64 (d2 : Int)] ∧ Below w.heap.size w W5) := ⟨by rw [hW5, hgb]; exact HCN.out wr, by rw [hW5]; exact (HBE.out.alloc HBE.out.size _).drew⟩
        rw [← hW5, ← hgb]
        clear hW5 hgb HCN HBE
        go_wp2_with fail
        go_loopw [3, 25] (fun s i wi => ∃ j : Nat, j ≤ 2 ∧ i = .int .i64 j ∧ s = .string (strB (H0 ++ [hexd d1, hexd d2].take j)) ∧ Hid (CellsAt wi gb 3 #[.int .i64 (d1 : Int), .int .i64 (d2 : Int)] ∧ Below w.heap.size w wi)) (fun _ i _ => 2 - (intOf i).toNat)
        case atStart => exact ⟨0, by omega, rfl, by simp, HI0.out⟩
        case round =>
          clear HI0
          obtain ⟨j, hj, rfl, rfl, HI⟩ := hrel
          rcases (show j = 0 ∨ j = 1 ∨ j = 2 by omega) with rfl | rfl | rfl
          · have c0 := HI.out.1.cell 0 (v := .int .i64 (d1 : Int)) rfl
            rw [show H0 ++ [hexd d1, hexd d2].take 0 = H0 from by simp]
            go_wp2_with fail
            go_roundw
            case rel => exact ⟨1, by omega, by go_num, rfl, HI.out⟩
            case measure => simp only [intOf]; omega
          · have c1 := HI.out.1.cell 1 (v := .int .i64 (d2 : Int)) rfl
            rw [show H0 ++ [hexd d1, hexd d2].take 1 = H0 ++ [hexd d1] from rfl]
            go_wp2_with fail
            go_roundw
            case rel => exact ⟨2, by omega, by go_num, by simp, HI.out⟩
            case measure => simp only [intOf]; omega
          · rw [show H0 ++ [hexd d1, hexd d2].take 2 = 39 :: hexB (t.take (m + 1)) from by have := HH2.out; simpa using this]
            go_wp2_with fail
            go_roundw
            case rel => exact ⟨m + 1, h1, by go_num, rfl, HI.out.2⟩
            case measure => simp only [intOf]; omega
    · obtain rfl : m = t.length := by omega
      rw [List.take_length]
      have hA : ∀ W, (Op.stringOp .add (strB (39 :: hexB t)) ⟨#[39]⟩).run Tryd.prog W = .ok (.string (strB ((39 :: hexB t) ++ [39]))) W := fun W => str_add (39 :: hexB t) [39] (by rw [List.length_cons, hexB_len]; simp; omega) W
      go_wp2_with fail
      go_ret
      exact ⟨rfl, HBE.out⟩
end Go.Proofs.YtcjflglpkpkflaaDoor
