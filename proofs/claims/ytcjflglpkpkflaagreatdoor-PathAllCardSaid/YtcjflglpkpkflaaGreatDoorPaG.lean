/- Paths: texts. -/
import Derived.Test.YtcjflglpkpkflaaGreatDoorPaE
import Derived.Test.YtcjflglpkpkflaaGreatDoorFmt
import Derived.Test.YtcjflglpkpkflaaGreatDoorBd
import Derived.BigQuiet
import Derived.Deep.QuietTactic
import Derived.Deep.DeepCutAuto
namespace Go.Proofs.YtcjflglpkpkflaaGreatDoor
open Go Go.RowKit
set_option linter.unusedVariables false
theorem conv_bytesP (bs : List UInt8) (w : World) (hl : bs.length ≤ 1000000000) : ∃ (c : Nat) (w' : World), (convert 9 70 (.string (strB bs))).run Tryz.prog w = .ok (.slice (some ⟨w.heap.size, 0, none⟩) bs.length c) w' ∧ RowB w' (.slice (some ⟨w.heap.size, 0, none⟩) bs.length c) bs ∧ Below w.heap.size w w' := by
  have hsz := strB_size bs
  have hrun := run_bytes_of_string (P := Tryz.prog) w 9 70 5 (strB bs) Tryz.underlying9 Tryz.underlying70 Tryz.underlying5
  have hge := grownCap_ge w (strB bs).size 0 5
  have hle := grownCap_le_maxLen w (strB bs).size 0 5 (by rw [hsz]; unfold maxLen; omega)
  generalize grownCap w (strB bs).size 0 5 = C at *
  rw [hsz] at hrun
  refine ⟨C, _, hrun, ?_, ((Below.refl _ _).drew).alloc (Nat.le_refl _) _⟩
  rw [hsz] at hge
  have hh := heap_alloc_new w.drew (.cells (bytesRow (strB bs) C) 5 ((bytesRow (strB bs) C).size, (bytesRow (strB bs) C).size + 1))
  refine .inr ⟨w.heap.size, 0, C, rfl, hge, hle, lt_of_block hh, fun j u hu => ?_⟩
  rw [Nat.zero_add]
  refine (cell_of_row _ _ _ _ _ _ hh).trans ?_
  rw [List.getElem?_map] at hu
  obtain ⟨x, hx, rfl⟩ := Option.map_eq_some_iff.1 hu
  obtain ⟨hj, rfl⟩ := List.getElem?_eq_some_iff.1 hx
  rw [bytesRow_at (strB bs) C j (by simpa [strB] using hj)]
  simp [strB, BV]
theorem below_drewG {b : Nat} {w w1 : World} {n : Nat} (h : Below b w w1) : Below b w (w1.drewN n) := ⟨h.os, h.tape, h.output, h.size, h.block⟩
theorem rowCellP {α : Type} {f : α → Value} {w : World} {a : Option Addr} {n c : Nat} {xs : List α} (h : RowL f w (.slice a n c) xs) {i : Nat} {x : α} (hx : xs[i]? = some x) : ∃ b o, a = some ⟨b, o, none⟩ ∧ w.cell? ⟨b, o + i, none⟩ = some (f x) := by
  obtain ⟨aq, cq, hv, -, hc⟩ := h.shape
  cases hv
  exact hc i x hx
theorem hexB_snocP (l : Bs) (b : UInt8) : hexB (l ++ [b]) = hexB l ++ [hexd (b.toNat / 16), hexd (b.toNat % 16)] := by
  induction l with
  | nil => rfl
  | cons x l ih => rw [List.cons_append, hexB, ih, hexB]; rfl
theorem hex_atP (d : Nat) (h : d < 16) (hq : d < ByteArray.size ⟨#[48, 49, 50, 51, 52, 53, 54, 55, 56, 57, 97, 98, 99, 100, 101, 102]⟩) : (⟨#[48, 49, 50, 51, 52, 53, 54, 55, 56, 57, 97, 98, 99, 100, 101, 102]⟩ : ByteArray)[d]'hq = hexd d := by
  match d, h with
  | 0, _ => rfl
  | 1, _ => rfl
  | 2, _ => rfl
  | 3, _ => rfl
  | 4, _ => rfl
  | 5, _ => rfl
  | 6, _ => rfl
  | 7, _ => rfl
  | 8, _ => rfl
  | 9, _ => rfl
  | 10, _ => rfl
  | 11, _ => rfl
  | 12, _ => rfl
  | 13, _ => rfl
  | 14, _ => rfl
  | 15, _ => rfl
  | n + 16, h => omega
theorem enc_hexAll : ((List.range 16).all fun d => (Utf8.encode (((hexd d).toNat : Nat) : Int)).data.toList == [hexd d]) = true := by decide +kernel
theorem enc_hex {d : Nat} (h : d < 16) : Utf8.encode (((hexd d).toNat : Nat) : Int) = strB [hexd d] := by
  have h1 := eq_of_beq (List.all_eq_true.1 enc_hexAll d (List.mem_range.2 h))
  apply ByteArray.ext
  apply Array.ext'
  rw [h1]
  rfl
theorem hex_atU (S : ByteArray) {u d : Nat} (e : u = d) (h : u < S.size) (hq : d < S.size) : S[u]'h = S[d]'hq := by subst e; rfl
theorem hex_atZ {d : Nat} (hd : d < 16) {z : Int} (hz : z = (d : Int)) (h : z.toNat < ByteArray.size ⟨#[48, 49, 50, 51, 52, 53, 54, 55, 56, 57, 97, 98, 99, 100, 101, 102]⟩) : (⟨#[48, 49, 50, 51, 52, 53, 54, 55, 56, 57, 97, 98, 99, 100, 101, 102]⟩ : ByteArray)[z.toNat]'h = hexd d := by
  have e : z.toNat = d := by omega
  have hq := h
  rw [e] at hq
  exact (hex_atU _ e h hq).trans (hex_atP d hd hq)
set_option maxRecDepth 100000 in
theorem idx_hexP {d : Nat} (hd : d < 16) {z : Int} (hz : z = (d : Int)) (W : World) : (Instr.index 9 (.string ⟨#[48, 49, 50, 51, 52, 53, 54, 55, 56, 57, 97, 98, 99, 100, 101, 102]⟩) (.int .u8 z)).run Tryz.prog W = .ok (.int .u8 (((hexd d).toNat : Nat) : Int)) W := by
  rw [run_index_string (P := Tryz.prog) W 9 _ .u8 z Tryz.underlying9]
  have h1 : ByteArray.size ⟨#[48, 49, 50, 51, 52, 53, 54, 55, 56, 57, 97, 98, 99, 100, 101, 102]⟩ = 16 := rfl
  have hz1 : 0 ≤ z ∧ z < (ByteArray.size ⟨#[48, 49, 50, 51, 52, 53, 54, 55, 56, 57, 97, 98, 99, 100, 101, 102]⟩ : Nat) := by rw [h1]; omega
  rw [dif_pos hz1, hex_atZ hd hz]
theorem and15All : ((List.range 256).all fun x => bits .and .u8 ((x : Nat) : Int) 15 == ((x % 16 : Nat) : Int)) = true := by decide +kernel
theorem and15 {x : Nat} (h : x < 256) : bits .and .u8 ((x : Nat) : Int) 15 = ((x % 16 : Nat) : Int) := by
  have := List.all_eq_true.1 and15All x (List.mem_range.2 h)
  simpa only [beq_iff_eq] using this
section
variable {k : Int} {n : Nat} {t r : List UInt8} {fs : List (Int × V)} {ls : List V} {ps : List (V × V)} {fa la pa : Option Addr} {fc lc pc : Nat} {S : Nat → Prop} {w : World}
set_option maxRecDepth 100000 in
set_option maxHeartbeats 4000000 in
theorem ktext_lit (hp : PowU w) (hn : n < 18446744073709551616) (ht : t.length ≤ 1000000) : Calls Tryz.prog 55 #[.agg #[.int .i64 k, .int .u64 (n : Int), .string (strB t), .slice fa fs.length fc, .string (strB r), .slice la ls.length lc, .slice pa ps.length pc]] w fun e w' => e = .returned (.string (strB (keyT (.mk k n t fs r ls ps)))) ∧ Below w.heap.size w w' := by
  obtain ⟨W0, hW0⟩ : ∃ W0, W0 = w.alloc (.cells #[.int .i64 k, .int .u64 (n : Int), .string (strB t), .slice fa fs.length fc, .string (strB r), .slice la ls.length lc, .slice pa ps.length pc] 38) := ⟨_, rfl⟩
  obtain ⟨g, hg⟩ : ∃ g, g = w.heap.size := ⟨_, rfl⟩
  have hb0 : Below w.heap.size w W0 := by rw [hW0]; exact (Below.refl _ _).alloc (Nat.le_refl _) _
  have hcx : CellsAt W0 g 38 #[.int .i64 k, .int .u64 (n : Int), .string (strB t), .slice fa fs.length fc, .string (strB r), .slice la ls.length lc, .slice pa ps.length pc] := by rw [hW0, hg]; exact CellsAt.new w _ _
  have c0 := hcx.cell 0 (v := .int .i64 k) rfl
  have c1 := hcx.cell 1 (v := .int .u64 (n : Int)) rfl
  have c2 := hcx.cell 2 (v := .string (strB t)) rfl
  have HB := Lib.hid hb0
  have HW := Lib.hid hW0
  have HG := Lib.hid hg
  have HF := Lib.hid (fmtU_any (hp.stays hb0) n hn)
  have HK : Hid (keyT (.mk k n t fs r ls ps) = if k = 1 then Lib.decDigits n else qtB t) := rfl
  clear hW0 hg hb0 hcx hp hn
  generalize keyT (.mk k n t fs r ls ps) = KT at HK ⊢
  by_cases h1 : k = 1
  · subst h1
    have HK2 : Hid (KT = Lib.decDigits n) := by have := HK.out; rwa [if_pos rfl] at this
    clear HK
    go_enter Tryz.func55, Tryz.ntmps55
    go_upto_region 1 with fail
    rw [← HW.out, ← HG.out]
    clear HW HG
    go_wp2_with fail
    refine HF.out.mono ?_
    rintro e w1 ⟨rfl, hb1⟩
    have HB1 := Lib.hid (HB.out.trans (hb1.mono HB.out.size))
    clear HF HB hb1 c0 c1 c2
    go_wp2_with fail
    go_ret
    exact ⟨congrArg (fun z => Ending.returned (Value.string (strB z))) HK2.out.symm, HB1.out⟩
  · have f1 : (k == 1) = false := by simpa using h1
    have HK2 : Hid (KT = qtB t) := by have := HK.out; rwa [if_neg h1] at this
    obtain ⟨cv, w2, hcv, hrow, hb2⟩ := conv_bytesP t W0 (by omega)
    obtain ⟨bb, hbb⟩ : ∃ bb, bb = W0.heap.size := ⟨_, rfl⟩
    rw [← hbb] at hcv hrow
    have HR : Hid (∀ W, Below w2.heap.size w2 W → RowB W (.slice (some ⟨bb, 0, none⟩) t.length cv) t) := fun W h => Row.stays hrow h
    have HB2 := Lib.hid (HB.out.trans (hb2.mono HB.out.size))
    have hL := ht
    clear HK h1 HF HB hrow hb2 hbb
    go_enter Tryz.func55, Tryz.ntmps55
    go_upto_region 1 with fail
    rw [← HW.out, ← HG.out]
    clear HW HG
    go_wp2_with fail
    clear c0 c1 c2 hcv
    have hbe : Below w2.heap.size w2 w2 := Below.refl _ _
    go_loopw [3, 16] (fun s i wr => ∃ m : Nat, m ≤ t.length ∧ i = .int .i64 m ∧ s = .string (strB (39 :: hexB (t.take m))) ∧ Hid (Below w2.heap.size w2 wr)) (fun _ i _ => t.length - (intOf i).toNat)
    case atStart => exact ⟨0, Nat.zero_le _, rfl, rfl, hbe⟩
    case round =>
      clear hbe
      obtain ⟨m, hm, rfl, rfl, HBE⟩ := hrel
      by_cases h1 : m < t.length
      · obtain ⟨x, hx⟩ : ∃ x, t[m]? = some x := ⟨_, List.getElem?_eq_getElem h1⟩
        obtain ⟨b, o, hbo, c0⟩ := rowCellP (HR.out wr HBE.out) hx
        cases hbo
        replace c0 : wr.cell? ⟨bb, 0 + m, none⟩ = some (.int .u8 ((x.toNat : Nat) : Int)) := by rw [← BV_def]; exact c0
        rw [Nat.zero_add] at c0
        have hx8 := x.toNat_lt
        have hd1 : x.toNat / 16 < 16 := by omega
        have hd2 : x.toNat % 16 < 16 := by omega
        have hlen : (hexB (t.take m)).length = 2 * m := by rw [hexB_len, List.length_take]; omega
        have HT : Hid (39 :: hexB (t.take (m + 1)) = (39 :: hexB (t.take m)) ++ [hexd (x.toNat / 16), hexd (x.toNat % 16)]) := by
          show _ = _
          rw [List.take_add_one, hx, Option.toList_some, hexB_snocP]; rfl
        have hA : ∀ W, (Op.stringOp .add (Utf8.encode (((hexd (x.toNat / 16)).toNat : Nat) : Int)) (Utf8.encode (((hexd (x.toNat % 16)).toNat : Nat) : Int))).run Tryz.prog W = .ok (.string (strB [hexd (x.toNat / 16), hexd (x.toNat % 16)])) W := fun W => by
          rw [enc_hex hd1, enc_hex hd2]; exact str_add [hexd (x.toNat / 16)] [hexd (x.toNat % 16)] (by simp) W
        have hB : ∀ W, (Op.stringOp .add (strB (39 :: hexB (t.take m))) (strB [hexd (x.toNat / 16), hexd (x.toNat % 16)])).run Tryz.prog W = .ok (.string (strB (39 :: hexB (t.take (m + 1))))) W := fun W => by
          rw [HT.out]; exact str_add _ _ (by rw [List.length_cons, hlen]; simp; omega) W
        have hI1 : ∀ W, (Instr.index 9 (.string ⟨#[48, 49, 50, 51, 52, 53, 54, 55, 56, 57, 97, 98, 99, 100, 101, 102]⟩) (.int .u8 (((x.toNat : Nat) : Int) / 16))).run Tryz.prog W = .ok (.int .u8 (((hexd (x.toNat / 16)).toNat : Nat) : Int)) W := fun W => idx_hexP hd1 (by omega) W
        have hI2 : ∀ W, (Instr.index 9 (.string ⟨#[48, 49, 50, 51, 52, 53, 54, 55, 56, 57, 97, 98, 99, 100, 101, 102]⟩) (.int .u8 (bits .and .u8 (((x.toNat : Nat) : Int)) 15))).run Tryz.prog W = .ok (.int .u8 (((hexd (x.toNat % 16)).toNat : Nat) : Int)) W := fun W => idx_hexP hd2 (and15 hx8) W
        go_wp2_with fail
        go_quiet (fail)
        clear hI1 hI2 hA hB c0 HT
        go_wp2_with fail
        go_roundw
        case rel => exact ⟨m + 1, h1, by go_num, rfl, below_drewG HBE.out⟩
        case measure => simp only [intOf]; omega
      · have hlm : t.take m = t := List.take_of_length_le (by omega)
        rw [hlm]
        have hlen := hexB_len t
        have hB : ∀ W, (Op.stringOp .add (strB (39 :: hexB t)) ⟨#[39]⟩).run Tryz.prog W = .ok (.string (strB ((39 :: hexB t) ++ [39]))) W := fun W => str_add (39 :: hexB t) [39] (by rw [List.length_cons, hlen]; simp; omega) W
        have HB3 := Lib.hid (HB2.out.trans (HBE.out.mono HB2.out.size))
        clear HR HBE HB2 hlm hlen
        go_wp2_with fail
        go_ret
        exact ⟨congrArg (fun z => Ending.returned (Value.string (strB z))) HK2.out.symm, HB3.out⟩
set_option maxRecDepth 100000 in
set_option maxHeartbeats 8000000 in
theorem stext_lit {K N T : Int} (hp : PowU w) (hb : i64 K ∧ i64 N ∧ i64 T) (hn : n < 18446744073709551616) (ht : t.length ≤ 1000000) : Calls Tryz.prog 29 #[.agg #[.int .i64 K, .int .i64 N, .int .i64 T, .int .i64 k, .int .u64 (n : Int), .string (strB t), .slice fa fs.length fc, .string (strB r), .slice la ls.length lc, .slice pa ps.length pc]] w fun e w' => e = .returned (.string (strB (stepT ⟨K, N, T, .mk k n t fs r ls ps⟩))) ∧ Below w.heap.size w w' := by
  obtain ⟨W0, hW0⟩ : ∃ W0, W0 = w.alloc (.cells #[.int .i64 K, .int .i64 N, .int .i64 T, .int .i64 k, .int .u64 (n : Int), .string (strB t), .slice fa fs.length fc, .string (strB r), .slice la ls.length lc, .slice pa ps.length pc] 62) := ⟨_, rfl⟩
  obtain ⟨g, hg⟩ : ∃ g, g = w.heap.size := ⟨_, rfl⟩
  have hb0 : Below w.heap.size w W0 := by rw [hW0]; exact (Below.refl _ _).alloc (Nat.le_refl _) _
  have hcx : CellsAt W0 g 62 #[.int .i64 K, .int .i64 N, .int .i64 T, .int .i64 k, .int .u64 (n : Int), .string (strB t), .slice fa fs.length fc, .string (strB r), .slice la ls.length lc, .slice pa ps.length pc] := by rw [hW0, hg]; exact CellsAt.new w _ _
  have HX : Hid (∀ W, Below W0.heap.size W0 W → CellsAt W g 62 #[.int .i64 K, .int .i64 N, .int .i64 T, .int .i64 k, .int .u64 (n : Int), .string (strB t), .slice fa fs.length fc, .string (strB r), .slice la ls.length lc, .slice pa ps.length pc] ∧ Below w.heap.size w W) := fun W hW => ⟨hcx.stays hW, hb0.trans (hW.mono hb0.size)⟩
  have HI : Hid (∀ W z, Below w.heap.size w W → i64 z → Calls Tryz.prog 54 #[.int .i64 z] W fun e w' => e = .returned (.string (strB (decZ z))) ∧ Below W.heap.size W w') := fun W z h1 h2 => itoa_any (hp.stays h1) z h2
  have HK : Hid (∀ W, Below w.heap.size w W → Calls Tryz.prog 55 #[.agg #[.int .i64 k, .int .u64 (n : Int), .string (strB t), .slice fa fs.length fc, .string (strB r), .slice la ls.length lc, .slice pa ps.length pc]] W fun e w' => e = .returned (.string (strB (keyT (.mk k n t fs r ls ps)))) ∧ Below W.heap.size W w') := fun W h => ktext_lit (hp.stays h) hn ht
  have hlN := decZ_len hb.2.1
  have hlT := decZ_len hb.2.2
  have hlK : (keyT (.mk k n t fs r ls ps)).length ≤ 2000010 := by
    show (if k = 1 then Lib.decDigits n else qtB t).length ≤ 2000010
    by_cases h : k = 1
    · rw [if_pos h]; have := dec_len20 hn; omega
    · rw [if_neg h, qtB_len]; omega
  have HADD : Hid (∀ a b : Bs, a.length ≤ 10000000 → b.length ≤ 10000000 → ∀ W, (Op.stringOp .add (strB a) (strB b)).run Tryz.prog W = .ok (.string (strB (a ++ b))) W) := fun a b h1 h2 W => str_add a b (by omega) W
  have HZ : Hid (stepT ⟨K, N, T, .mk k n t fs r ls ps⟩ = if K = 1 then 46 :: decZ N else if K = 2 then 123 :: (keyT (.mk k n t fs r ls ps) ++ [125]) else if K = 3 then 91 :: (decZ N ++ [93]) else if K = 4 then [126] else if K = 5 then 91 :: (decZ N ++ 58 :: (decZ T ++ [93])) else 124 :: decZ N) := rfl
  have HB64 := Lib.hid hb
  have HB := Lib.hid hb0
  have HW := Lib.hid hW0
  have HG := Lib.hid hg
  have c1 := hcx.cell 1 (v := .int .i64 N) rfl
  clear hp hb hn ht hW0 hg hb0 hcx
  generalize stepT ⟨K, N, T, .mk k n t fs r ls ps⟩ = ST at HZ ⊢
  generalize keyT (.mk k n t fs r ls ps) = KT at HK HZ hlK
  obtain ⟨DN, hDN⟩ : ∃ x, x = decZ N := ⟨_, rfl⟩
  obtain ⟨DT, hDT⟩ : ∃ x, x = decZ T := ⟨_, rfl⟩
  have HI1 : Hid (∀ W, Below w.heap.size w W → Calls Tryz.prog 54 #[.int .i64 N] W fun e w' => e = .returned (.string (strB DN)) ∧ Below W.heap.size W w') := fun W h => by rw [hDN]; exact HI.out W N h HB64.out.2.1
  have HI2 : Hid (∀ W, Below w.heap.size w W → Calls Tryz.prog 54 #[.int .i64 T] W fun e w' => e = .returned (.string (strB DT)) ∧ Below W.heap.size W w') := fun W h => by rw [hDT]; exact HI.out W T h HB64.out.2.2
  rw [← hDN] at HZ hlN
  rw [← hDT] at HZ hlT
  clear hDN hDT HI HB64
  go_enter Tryz.func29, Tryz.ntmps29
  go_upto_region 1 with fail
  rw [← HW.out, ← HG.out]
  clear HW HG
  go_wp2_with fail
  refine (HI1.out _ HB.out).mono ?_
  rintro e w1 ⟨rfl, hb1⟩
  clear c1 HI1 HB
  obtain ⟨hcx, hbw⟩ := HX.out w1 hb1
  have c0 := hcx.cell 0 (v := .int .i64 K) rfl
  have c2 := hcx.cell 2 (v := .int .i64 T) rfl
  have HBW := Lib.hid hbw
  by_cases h1 : K = 1
  · subst h1
    have HS : Hid (ST = 46 :: DN) := by have := HZ.out; rwa [if_pos rfl] at this
    have hA : ∀ W, (Op.stringOp .add ⟨#[46]⟩ (strB DN)).run Tryz.prog W = .ok (.string (strB (46 :: DN))) W := HADD.out [46] DN (by simp) (by omega)
    clear HZ HADD HK HI2 HX hcx hbw hb1
    go_wp2_with fail
    go_ret
    exact ⟨congrArg (fun z => Ending.returned (Value.string (strB z))) HS.out.symm, HBW.out⟩
  have k1 : (K == 1) = false := by simpa using h1
  by_cases h2 : K = 2
  · subst h2
    have HS : Hid (ST = 123 :: (KT ++ [125])) := by have := HZ.out; rwa [if_neg (by decide), if_pos rfl] at this
    have hA : ∀ W, (Op.stringOp .add ⟨#[123]⟩ (strB KT)).run Tryz.prog W = .ok (.string (strB (123 :: KT))) W := HADD.out [123] KT (by simp) (by omega)
    have hB : ∀ W, (Op.stringOp .add (strB (123 :: KT)) ⟨#[125]⟩).run Tryz.prog W = .ok (.string (strB ((123 :: KT) ++ [125]))) W := HADD.out (123 :: KT) [125] (by simp; omega) (by simp)
    have c3 := hcx.cell 3 (v := .int .i64 k) rfl
    have c4 := hcx.cell 4 (v := .int .u64 (n : Int)) rfl
    have c5 := hcx.cell 5 (v := .string (strB t)) rfl
    have c6 := hcx.cell 6 (v := .slice fa fs.length fc) rfl
    have c7 := hcx.cell 7 (v := .string (strB r)) rfl
    have c8 := hcx.cell 8 (v := .slice la ls.length lc) rfl
    have c9 := hcx.cell 9 (v := .slice pa ps.length pc) rfl
    clear HZ HADD HI2 HX hcx hbw hb1 h1 k1
    go_wp2_with fail
    refine (HK.out _ HBW.out).mono ?_
    rintro e w2 ⟨rfl, hb2⟩
    have HB2 := Lib.hid (HBW.out.trans (hb2.mono HBW.out.size))
    clear HK HBW hb2 c0 c2 c3 c4 c5 c6 c7 c8 c9
    go_wp2_with fail
    go_ret
    exact ⟨congrArg (fun z => Ending.returned (Value.string (strB z))) HS.out.symm, HB2.out⟩
  have k2 : (K == 2) = false := by simpa using h2
  by_cases h3 : K = 3
  · subst h3
    have HS : Hid (ST = 91 :: (DN ++ [93])) := by have := HZ.out; rwa [if_neg (by decide), if_neg (by decide), if_pos rfl] at this
    have hA : ∀ W, (Op.stringOp .add ⟨#[91]⟩ (strB DN)).run Tryz.prog W = .ok (.string (strB (91 :: DN))) W := HADD.out [91] DN (by simp) (by omega)
    have hB : ∀ W, (Op.stringOp .add (strB (91 :: DN)) ⟨#[93]⟩).run Tryz.prog W = .ok (.string (strB ((91 :: DN) ++ [93]))) W := HADD.out (91 :: DN) [93] (by simp; omega) (by simp)
    clear HZ HADD HK HI2 HX hcx hbw hb1 h1 h2
    go_wp2_with fail
    go_ret
    exact ⟨congrArg (fun z => Ending.returned (Value.string (strB z))) HS.out.symm, HBW.out⟩
  have k3 : (K == 3) = false := by simpa using h3
  by_cases h4 : K = 4
  · subst h4
    have HS : Hid (ST = [126]) := by have := HZ.out; rwa [if_neg (by decide), if_neg (by decide), if_neg (by decide), if_pos rfl] at this
    clear HZ HADD HK HI2 HX hcx hbw hb1 h1 h2 h3
    go_wp2_with fail
    go_ret
    exact ⟨congrArg (fun z => Ending.returned (Value.string (strB z))) HS.out.symm, HBW.out⟩
  have k4 : (K == 4) = false := by simpa using h4
  by_cases h5 : K = 5
  · subst h5
    have HS : Hid (ST = 91 :: (DN ++ 58 :: (DT ++ [93]))) := by have := HZ.out; rwa [if_neg (by decide), if_neg (by decide), if_neg (by decide), if_neg (by decide), if_pos rfl] at this
    have hA : ∀ W, (Op.stringOp .add ⟨#[91]⟩ (strB DN)).run Tryz.prog W = .ok (.string (strB (91 :: DN))) W := HADD.out [91] DN (by simp) (by omega)
    have hB : ∀ W, (Op.stringOp .add (strB (91 :: DN)) ⟨#[58]⟩).run Tryz.prog W = .ok (.string (strB ((91 :: DN) ++ [58]))) W := HADD.out (91 :: DN) [58] (by simp; omega) (by simp)
    have hC : ∀ W, (Op.stringOp .add (strB ((91 :: DN) ++ [58])) (strB DT)).run Tryz.prog W = .ok (.string (strB (((91 :: DN) ++ [58]) ++ DT))) W := HADD.out ((91 :: DN) ++ [58]) DT (by simp; omega) (by omega)
    have hD : ∀ W, (Op.stringOp .add (strB (((91 :: DN) ++ [58]) ++ DT)) ⟨#[93]⟩).run Tryz.prog W = .ok (.string (strB ((((91 :: DN) ++ [58]) ++ DT) ++ [93]))) W := HADD.out (((91 :: DN) ++ [58]) ++ DT) [93] (by simp; omega) (by simp)
    obtain ⟨X1, hX1⟩ : ∃ X, X = 91 :: DN := ⟨_, rfl⟩
    obtain ⟨X2, hX2⟩ : ∃ X, X = X1 ++ [58] := ⟨_, rfl⟩
    obtain ⟨X3, hX3⟩ : ∃ X, X = X2 ++ DT := ⟨_, rfl⟩
    obtain ⟨X4, hX4⟩ : ∃ X, X = X3 ++ [93] := ⟨_, rfl⟩
    rw [← hX1] at hA
    rw [← hX1, ← hX2] at hB
    rw [← hX1, ← hX2, ← hX3] at hC
    rw [← hX1, ← hX2, ← hX3, ← hX4] at hD
    have HX4 : Hid (ST = X4) := by show _ = _; rw [HS.out, hX4, hX3, hX2, hX1]; simp
    clear HZ HADD HK HX hcx hbw hb1 h1 h2 h3 h4 hX1 hX2 hX3 hX4 HS
    go_wp2_with fail
    refine (HI2.out _ HBW.out).mono ?_
    rintro e w2 ⟨rfl, hb2⟩
    have HB2 := Lib.hid (HBW.out.trans (hb2.mono HBW.out.size))
    clear HI2 HBW hb2 c0 c2
    go_wp2_with fail
    go_ret
    exact ⟨congrArg (fun z => Ending.returned (Value.string (strB z))) HX4.out.symm, HB2.out⟩
  have k5 : (K == 5) = false := by simpa using h5
  have HS : Hid (ST = 124 :: DN) := by have := HZ.out; rwa [if_neg h1, if_neg h2, if_neg h3, if_neg h4, if_neg h5] at this
  have hA : ∀ W, (Op.stringOp .add ⟨#[124]⟩ (strB DN)).run Tryz.prog W = .ok (.string (strB (124 :: DN))) W := HADD.out [124] DN (by simp) (by omega)
  clear HZ HADD HK HI2 HX hcx hbw hb1 h1 h2 h3 h4 h5
  go_wp2_with fail
  go_ret
  exact ⟨congrArg (fun z => Ending.returned (Value.string (strB z))) HS.out.symm, HBW.out⟩
end
end Go.Proofs.YtcjflglpkpkflaaGreatDoor
