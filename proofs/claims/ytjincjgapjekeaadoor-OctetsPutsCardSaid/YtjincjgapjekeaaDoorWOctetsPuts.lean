/- The walk of OctetsPuts: every number put behind all bytes, and read again. -/
import Derived.Test.YtjincjgapjekeaaDoorAlive01
import Derived.Test.YtjincjgapjekeaaDoorBytes
import Derived.Deep.RegionHeld
namespace Go.Proofs.YtjincjgapjekeaaDoor
open Go Go.RowKit
theorem fput_put : ∀ k n, fput k n = putV k n
  | 0, _ => rfl
  | k + 1, n => by
    rw [fput, putV, fput_put k]
    congr 1
    apply UInt8.toNat_inj.1
    rw [b8_toNat, b8_toNat, Nat.mod_mod]
theorem put_reads (bs : List UInt8) (k n : Nat) (hk : k ≤ 8) : (bs ++ fput k n).length = bs.length + k ∧ ask (bs ++ fput k n) 0 (bs.length : Int) = 0 ∧ rat (bs ++ fput k n) 0 (bs.length : Int) = bs.length ∧
    ask (bs ++ fput k n) bs.length (k : Int) = 0 ∧ fixedV (rgot (bs ++ fput k n) bs.length (k : Int)) = n % 256 ^ k ∧ rat (bs ++ fput k n) bs.length (k : Int) = bs.length + k := by
  have h1 : (bs ++ fput k n).length = bs.length + k := by rw [List.length_append, fput_len]
  have h2 : ask (bs ++ fput k n) 0 (bs.length : Int) = 0 := ask_ok (by omega) (by rw [h1]; omega)
  have h3 : ask (bs ++ fput k n) bs.length (k : Int) = 0 := ask_ok (by omega) (by rw [h1]; omega)
  refine ⟨h1, h2, ?_, h3, ?_, ?_⟩
  · unfold rat; rw [if_pos h2]; simp
  · unfold rgot; rw [if_pos h3, Int.toNat_natCast, List.take_of_length_le (by rw [h1]; exact Nat.le_refl _), List.drop_left, fput_put, fixedV_put]
  · unfold rat; rw [if_pos h3, Int.toNat_natCast]
theorem Rd.other {w w' : World} {g g' : Nat} {v : Value} {bs : List UInt8} {p : Nat} (h : Rd w g v bs p) (hg : w.grownBy w' (some g')) (hne : g ≠ g') (hv : bs ≠ [] → v.ownBlock ≠ some g') : Rd w' g v bs p :=
  ⟨h.cells.grown hg (fun e => hne (Option.some.inj e).symm), h.row.keep hg hv, h.le, h.apart, h.small⟩
theorem row_apart {w : World} {v : Value} {bs : List UInt8} {g : Nat} (h : RowB w v bs) (hg : w.heap.size ≤ g) : bs ≠ [] → v.ownBlock ≠ some g := fun hne e => by
  have := Row.block_lt h (List.length_pos_iff.2 hne) _ e
  omega
/-- both numbers' bytes: of eight bytes, of four -/
theorem put2 (v : Value) (bs : List UInt8) (n m : Nat) (w : World) (hn : n < 18446744073709551616) (hm : m < 4294967296) (hlen : bs.length ≤ 1000000) (hr : RowB w v bs) (N K : Int) (h : N = (n : Int) ∧ K = 8 ∨ N = (m : Int) ∧ K = 4) :
    Calls Tryd.prog 16 #[v, .int .u64 N, .int .i64 K] w fun e w' => ∃ v', e = .returned v' ∧ (convert 22 9 v').run Tryd.prog w' = .ok (.string (strB (if K = 8 then bs ++ fput 8 n else bs ++ fput 4 m))) w' ∧ Below w.heap.size w w' := by
  rcases h with ⟨rfl, rfl⟩ | ⟨rfl, rfl⟩
  · refine (rput_any v bs n 8 w hn hlen (by decide) hr).mono ?_
    rintro e w' ⟨v', rfl, ho, hb⟩
    exact ⟨v', rfl, by rw [if_pos rfl]; exact convert_str ho.row, hb⟩
  · refine (rput_any v bs m 4 w (by omega) hlen (by decide) hr).mono ?_
    rintro e w' ⟨v', rfl, ho, hb⟩
    exact ⟨v', rfl, by rw [if_neg (by decide)]; exact convert_str ho.row, hb⟩
set_option maxRecDepth 100000 in
set_option maxHeartbeats 1000000 in
theorem walkPuts (w : World) (v : Value) (bs : List UInt8) (hr : RowB w v bs) (n : Nat) (hn : n < 18446744073709551616) (ea : Nat → Addr) (he1 : ErrAt w 2 (ea 1)) (he2 : ErrAt w 0 (ea 2)) :
    Calls Tryd.prog 3 #[v, .int .u64 n] w fun e w' => e = .returned (.bool true) ∧ Below w.heap.size w w' := by
  obtain ⟨a, c, rfl, -, -⟩ := hr.gen.shape
  have HA := Lib.hid (alive01 ea w he1 he2)
  have E1 := Lib.hid he1
  have E2 := Lib.hid he2
  clear he1 he2
  go_enter Tryd.func3, Tryd.ntmps3
  go_wp2_with fail
  refine HA.out.mono ?_
  rintro e w1 ⟨rfl, hb1⟩
  clear HA
  by_cases hl : 300 < bs.length
  · clear hr
    go_wp2_with fail
    go_ret
    exact ⟨rfl, hb1⟩
  · have hr1 := hr.stays hb1
    have HB := Lib.hid (bytes_any _ bs w1 hr1 (by omega))
    clear hr
    go_wp2_with fail
    refine HB.out.mono ?_
    rintro e w2 ⟨v5, rfl, hm2, hb2⟩
    have hr2 := hr1.stays hb2
    have hbe2 := hb1.trans (hb2.mono hb1.size)
    obtain ⟨m, hm, hmn⟩ : ∃ m : Nat, (n : Int) % 4294967296 = (m : Int) ∧ m = n % 4294967296 := ⟨n % 4294967296, by omega, rfl⟩
    have hm32 : m < 4294967296 := by omega
    have hni : (n : Int) ≤ 18446744073709551615 := by omega
    have hmi : (m : Int) ≤ 4294967295 := by omega
    have HMN := Lib.hid hmn
    have H64 := Lib.hid (put64_any v5 bs n w2 hn (by omega) hm2.row)
    clear HB hb1 hb2 hr1 hmn
    go_wp2_with fail
    refine H64.out.mono ?_
    rintro e w3 ⟨v6, rfl, ho3, hb3⟩
    have hr3 := hr2.stays hb3
    have hm3 := hm2.stays hb3
    have hbe3 := hbe2.trans (hb3.mono hbe2.size)
    have H32 := Lib.hid (put32_any v5 bs m w3 hm32 (by omega) hm3.row)
    clear H64 hb3 hr2 hm2 hbe2
    go_wp2_with fail
    refine H32.out.mono ?_
    rintro e w4 ⟨v7, rfl, ho4, hb4⟩
    have hr4 := hr3.stays hb4
    have hm4 := hm3.stays hb4
    have hx4 := ho3.stays hb4
    have hbe4 := hbe3.trans (hb4.mono hbe3.size)
    clear H32 hb4 hr3 hm3 hbe3 ho3
    have hS : ∀ w', Below w4.heap.size w4 w' → Below w4.heap.size w4 w' ∧ (convert 22 9 v6).run Tryd.prog w' = .ok (.string (strB (bs ++ fput 8 n))) w' ∧ (convert 22 9 v7).run Tryd.prog w' = .ok (.string (strB (bs ++ fput 4 m))) w' :=
      fun w' hb => ⟨hb, convert_str (hx4.row.stays hb), convert_str (ho4.row.stays hb)⟩
    have HS := Lib.hid hS
    have HK := Lib.hid (fun w' (hb : Below w4.heap.size w4 w') => kept_any _ v5 _ bs w' (hm4.stays hb) (hr4.stays hb) (by omega))
    have PP := Lib.hid (fun w' (hb : Below w4.heap.size w4 w') (N K : Int) (h : N = (n : Int) ∧ K = 8 ∨ N = (m : Int) ∧ K = 4) => put2 (.slice a bs.length c) bs n m w' hn hm32 (by omega) (hr4.stays hb) N K h)
    obtain ⟨hl8, ha8, hp8, hA8, hf8, hP8⟩ := put_reads bs 8 n (by decide)
    obtain ⟨hl4, ha4, hp4, hA4, hf4, hP4⟩ := put_reads bs 4 m (by decide)
    rw [show n % 256 ^ 8 = n from Nat.mod_eq_of_lt (by rw [show (256 : Nat) ^ 8 = 18446744073709551616 from by decide +kernel]; exact hn)] at hf8
    rw [show m % 256 ^ 4 = m from Nat.mod_eq_of_lt (by rw [show (256 : Nat) ^ 4 = 4294967296 from by decide +kernel]; exact hm32)] at hf4
    have hbd : Below w4.heap.size w4 w4.drew := (Below.refl _ _).drew
    have HX := Lib.hid hx4
    have HY := Lib.hid ho4
    clear hS hm4 hr4 hx4 ho4
    generalize bs ++ fput 8 n = X at *
    generalize bs ++ fput 4 m = Y at *
    have F8 := Lib.hid (And.intro hl8 (And.intro ha8 (And.intro hp8 (And.intro hA8 (And.intro hf8 hP8)))))
    have F4 := Lib.hid (And.intro hl4 (And.intro ha4 (And.intro hp4 (And.intro hA4 (And.intro hf4 hP4)))))
    clear hl8 ha8 hp8 hA8 hf8 hP8 hl4 ha4 hp4 hA4 hf4 hP4
    have sx : ((strB X).toList != (strB X).toList) = false := by simp
    have sy : ((strB Y).toList != (strB Y).toList) = false := by simp
    go_wp2_with fail
    go_region_held (fun w' => Below w4.heap.size w4 w' ∧ (convert 22 9 v6).run Tryd.prog w' = .ok (.string (strB X)) w' ∧ (convert 22 9 v7).run Tryd.prog w' = .ok (.string (strB Y)) w')
      (exact HS.out _ (by assumption))
      (first
        | (go_at_call 15; refine (HK.out _ (by assumption)).mono ?_; rintro e wA ⟨rfl, rfl⟩)
        | (go_at_call 16; refine (PP.out _ (by assumption) _ _ (by first | exact .inl ⟨rfl, rfl⟩ | exact .inr ⟨rfl, rfl⟩ | exact .inr ⟨hm, rfl⟩)).mono ?_; rintro e wA ⟨vA, rfl, sC, hbA⟩; (first | rw [if_pos rfl] at sC | rw [if_neg (by decide)] at sC); have hbB := Below.trans (B := w4.heap.size) (a := w4) (by assumption) (hbA.mono (Below.size (by assumption)))))
    have hx5 := HX.out.stays hbB
    have hy5 := HY.out.stays hbB
    have hbe5 := hbe4.trans (hbB.mono hbe4.size)
    clear HS HK PP HX HY hbd hbe4 hbB hbA
    obtain ⟨hl8, ha8, hp8, hA8, hf8, hP8⟩ := F8.out
    obtain ⟨hl4, ha4, hp4, hA4, hf4, hP4⟩ := F4.out
    have HN := Lib.hid (newReader_any v6 X wA hx5.row (by omega))
    have hl8' := Lib.hid hl8
    have hl4' := Lib.hid hl4
    have ha8' := Lib.hid ha8
    have ha4' := Lib.hid ha4
    have hp8' := Lib.hid hp8
    have hp4' := Lib.hid hp4
    have hA8' := Lib.hid hA8
    have hA4' := Lib.hid hA4
    have hf8' := Lib.hid hf8
    have hf4' := Lib.hid hf4
    have hP8' := Lib.hid hP8
    have hP4' := Lib.hid hP4
    clear F8 F4 hl8 ha8 hp8 hA8 hf8 hP8 hl4 ha4 hp4 hA4 hf4 hP4
    go_wp2_with fail
    refine HN.out.mono ?_
    rintro e w6 ⟨rfl, hrx6, hb6⟩
    have hy6 := hy5.stays hb6
    have hav := row_apart hy5.row (Nat.le_refl _)
    have hbe6 := hbe5.trans (hb6.mono hbe5.size)
    have HN2 := Lib.hid (newReader_any v7 Y w6 hy6.row (by have := hl4'.out; omega))
    have hg1 := hrx6.cells.lt
    obtain ⟨g1, hg1e⟩ : ∃ g1, g1 = wA.heap.size := ⟨_, rfl⟩
    have hb1' : w.heap.size ≤ g1 := by rw [hg1e]; exact hbe5.size
    rw [← hg1e] at hrx6 hav hg1 ⊢
    clear HN hx5 hy5 hb6 hbe5 hg1e
    go_wp2_with fail
    refine HN2.out.mono ?_
    rintro e w7 ⟨rfl, hry7, hb7⟩
    have hrx7 := hrx6.stays hb7
    have hbe7 := hbe6.trans (hb7.mono hbe6.size)
    obtain ⟨g2, hg2e⟩ : ∃ g2, g2 = w6.heap.size := ⟨_, rfl⟩
    have hb2' : w.heap.size ≤ g2 := by rw [hg2e]; exact hbe6.size
    have hne : g1 ≠ g2 := by omega
    have hav2 := row_apart hrx6.row (Nat.le_of_eq hg2e.symm)
    rw [← hg2e] at hry7 ⊢
    clear HN2 hrx6 hy6 hb7 hbe6 hg2e hg1
    have HSk := Lib.hid (skip_any ea g1 v6 X 0 w7 hrx7 (E1.out.stays hbe7) (E2.out.stays hbe7) bs.length (by omega) (by omega))
    go_wp2_with fail
    refine HSk.out.mono ?_
    rw [ha8'.out, hp8'.out, EV_zero]
    rintro e w8 ⟨rfl, hrx8, hg8⟩
    have hry8 := hry7.other hg8 (Ne.symm hne) hav
    have hbe8 := hbe7.grown hg8 hbe7.size (fun k hk => by cases hk; exact hb1')
    have HSk := Lib.hid (skip_any ea g2 v7 Y 0 w8 hry8 (E1.out.stays hbe8) (E2.out.stays hbe8) bs.length (by omega) (by omega))
    clear hrx7 hry7 hg8 hbe7 hry8
    go_wp2_with fail
    refine HSk.out.mono ?_
    rw [ha4'.out, hp4'.out, EV_zero]
    rintro e w9 ⟨rfl, hry9, hg9⟩
    have hrx9 := hrx8.other hg9 hne hav2
    have hbe9 := hbe8.grown hg9 hbe8.size (fun k hk => by cases hk; exact hb2')
    have HF := Lib.hid (fixed64_any ea g1 v6 X _ w9 hrx9 (E1.out.stays hbe9) (E2.out.stays hbe9))
    clear HSk hrx8 hg9 hbe8 hrx9
    go_wp2_with fail
    refine HF.out.mono ?_
    rw [show (8 : Int) = ((8 : Nat) : Int) from rfl, hA8'.out, hf8'.out, hP8'.out, EV_zero]
    rintro e w10 ⟨rfl, hrx10, hg10⟩
    have hry10 := hry9.other hg10 (Ne.symm hne) hav
    have hbe10 := hbe9.grown hg10 hbe9.size (fun k hk => by cases hk; exact hb1')
    have HF := Lib.hid (fixed32_any ea g2 v7 Y _ w10 hry10 (E1.out.stays hbe10) (E2.out.stays hbe10))
    clear hry9 hg10 hbe9 hry10
    go_wp2_with fail
    refine HF.out.mono ?_
    rw [show (4 : Int) = ((4 : Nat) : Int) from rfl, hA4'.out, hf4'.out, hP4'.out, EV_zero]
    rintro e w11 ⟨rfl, hry11, hg11⟩
    have hrx11 := hrx10.other hg11 hne hav2
    have hbe11 := hbe10.grown hg11 hbe10.size (fun k hk => by cases hk; exact hb2')
    have hL1 := left_any g1 v6 X _ w11 hrx11
    rw [hl8'.out, Int.sub_self] at hL1
    have HL1 := Lib.hid hL1
    have HY11 := Lib.hid hry11
    clear HF hrx10 hg11 hbe10 hrx11 hL1 hry11
    have nn : ((n : Int) == n) = true := by simp
    have mm : ((m : Int) == m) = true := by simp
    go_wp2_with fail
    refine HL1.out.mono ?_
    rintro e w12 ⟨rfl, hb12⟩
    have hbe12 := hbe11.trans (hb12.mono hbe11.size)
    have hL2 := left_any g2 v7 Y _ w12 (HY11.out.stays hb12)
    rw [hl4'.out, Int.sub_self] at hL2
    have HL2 := Lib.hid hL2
    clear HL1 hbe11 hb12 hL2
    go_wp2_with fail
    refine HL2.out.mono ?_
    rintro e w13 ⟨rfl, hb13⟩
    have hbe13 := hbe12.trans (hb13.mono hbe12.size)
    clear HL2 hbe12 hb13
    go_wp2_with fail
    go_ret
    exact ⟨rfl, hbe13⟩
theorem walkOctetsPuts (w : World) (v : Value) (bs : List UInt8) (hr : RowB w v bs) (n0 : Int) (hn0 : 0 ≤ n0 ∧ n0 ≤ 18446744073709551615) (ea : Nat → Addr) (he1 : ErrAt w 2 (ea 1)) (he2 : ErrAt w 0 (ea 2)) :
    Calls Tryd.prog 3 #[v, .int .u64 n0] w fun e w' => e = .returned (.bool true) ∧ Below w.heap.size w w' := by
  obtain ⟨n, rfl⟩ := Int.eq_ofNat_of_zero_le hn0.1
  exact walkPuts w v bs hr n (by omega) ea he1 he2
end Go.Proofs.YtjincjgapjekeaaDoor
