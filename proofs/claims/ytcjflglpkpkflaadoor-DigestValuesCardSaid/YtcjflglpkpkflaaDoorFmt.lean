/- Figures: strconv.FormatUint at base 10, and Itoa, for every number. -/
import Derived.Test.YtcjflglpkpkflaaDoorDgA
import Derived.Test.YtcjflglpkpkflaaDoorStr
import Derived.Test.YtcjflglpkpkflaaDoorShelfP
import Derived.Lib.AppendIntMem
namespace Go.Proofs.YtcjflglpkpkflaaDoor
open Go Go.RowKit Go.Sort
set_option linter.unusedVariables false
/-- the table that numDigits reads -/
def PowU (w : World) : Prop := Lib.TabIs Tryd.prog w "internal/strconv.uint64pow10" .u64 Lib.pow10Tab
theorem PowU.stays {w w' : World} (h : PowU w) (hb : Below w.heap.size w w') : PowU w' := Lib.tabBelow_of_tabIs h w' hb
theorem itoa_decZ (n : Int) : Lib.itoa n = decZ n := by
  unfold decZ
  by_cases h : n < 0
  · obtain ⟨u, rfl⟩ : ∃ u : Nat, n = -(u : Int) := ⟨n.natAbs, by omega⟩
    rw [if_pos h, Lib.itoa_neg u (by omega), show (-(u : Int)).natAbs = u from by omega]
  · obtain ⟨u, rfl⟩ : ∃ u : Nat, n = u := ⟨n.toNat, by omega⟩
    rw [if_neg h, Lib.itoa_nonneg, Int.natAbs_natCast]
theorem itoa_any {w : World} (hp : PowU w) (n : Int) (hn : -9223372036854775808 ≤ n ∧ n ≤ 9223372036854775807) : Calls Tryd.prog 29 #[.int .i64 n] w fun e w' => e = .returned (.string (strB (decZ n))) ∧ Below w.heap.size w w' := by
  refine (Any.strconv_Itoa Tryd.laysM171 n hn.1 hn.2 w hp).mono ?_
  rintro e w' ⟨h1, k, os, h2⟩
  rw [itoa_decZ n] at h1
  exact ⟨h1, by rw [h2]; exact Lib.below_grow _ _ (Nat.le_refl _) k os⟩
set_option maxRecDepth 100000 in
set_option maxHeartbeats 2000000 in
theorem fmtI_any {w : World} (hp : PowU w) (u : Nat) (hu : u < 18446744073709551616) : Calls Tryd.prog 25 #[.int .u64 (u : Int), .int .i64 10] w fun e w' => e = .returned (.string (strB (Lib.decDigits u))) ∧ Below w.heap.size w w' := by
  by_cases hs : u < 100
  · have HS : Hid (∀ W, Calls Tryd.prog 32 #[.int .i64 (u : Int)] W fun e w' => e = .returned (.string (strB (Lib.decDigits u))) ∧ w' = W) := fun W => Any.internal_strconv_small Tryd.lays283 u hs W
    have hw1 : IntKind.i64.wrap (u : Int) = u := by rw [IntKind.wrap_i64]; omega
    have t1 : decide ((u : Int) < 100) = true := decide_eq_true (by omega)
    clear hs hu hp
    go_enter Tryd.func25, Tryd.ntmps25
    go_wp2_with fail
    refine (HS.out _).mono ?_
    rintro e w1 ⟨rfl, rfl⟩
    clear HS
    go_wp2_with fail
    go_ret
    exact ⟨rfl, Below.refl _ _⟩
  · have hu1 : 1 ≤ u := by omega
    have hnd20 : Lib.nDigits u ≤ 20 := by have := Lib.numDigits_eq u hu1 hu; split at this <;> omega
    have t1 : decide ((u : Int) < 100) = false := decide_eq_false (by omega)
    have hal : Tryd.prog.arrayLen 85 = 24 := by simp [Program.arrayLen, Tryd.underlying85]
    have hsl : ∀ W, (Instr.sliceAt 85 (.pointer (some ⟨w.heap.size, 0, none⟩)) none (some (.int .i64 (Lib.nDigits u : Int))) none).run Tryd.prog W = .ok (.slice (some ⟨w.heap.size, 0, none⟩) (Lib.nDigits u) 24) W := fun W => by
      rw [run_sliceAt_array_h W 85 ⟨w.heap.size, 0, none⟩ (by simp [Program.arrayLen, Program.elem, Tryd.underlying85]) .i64 (Lib.nDigits u : Int) (by omega) (by rw [hal]; omega)]
      go_simp
    have hH0 := Lib.holds_zero0 w 85 (Lib.nDigits u) (by omega)
    have hfmt := Any.internal_strconv_formatBase10 Tryd.lays285 w.heap.size 0 24 u (Array.replicate (Lib.nDigits u) 0) (w.alloc (.cells Lib.zeros24 85)) hH0 (by rw [Array.size_replicate]; exact Lib.lt_pow_nDigits u) hu (by rw [Array.size_replicate]; omega)
    rw [Array.size_replicate] at hfmt
    have HFM := Lib.hid hfmt
    have HH0 := Lib.hid hH0
    have HND : Hid (Calls Tryd.prog 33 #[.int .u64 (u : Int)] (w.alloc (.cells Lib.zeros24 85)) fun e w' => e = .returned (.int .i64 (Lib.nDigits u)) ∧ w' = w.alloc (.cells Lib.zeros24 85)) := Any.internal_strconv_numDigits Tryd.laysM284 u hu1 hu _ (Lib.tabIs_alloc hp _)
    have HSL := Lib.hid hsl
    clear hfmt hH0 hal hsl hp
    go_enter Tryd.func25, Tryd.ntmps25
    go_wp2_with fail
    refine HND.out.mono ?_
    rintro e w1 ⟨rfl, rfl⟩
    have hsl := HSL.out
    clear HND
    go_wp2_with fail
    refine HFM.out.mono ?_
    rintro e w' ⟨rfl, k, v', dk, rfl, hF⟩
    have hcv : (convert 71 9 (.slice (some ⟨w.heap.size, 0, none⟩) (Lib.nDigits u) 24)).run Tryd.prog ((putRow (fun (b : UInt8) => Value.int .u8 (b.toNat : Int)) (w.alloc (.cells Lib.zeros24 85)) w.heap.size 0 dk).drewN k) = .ok (.string ⟨(Lib.decDigits u).toArray⟩) ((putRow (fun (b : UInt8) => Value.int .u8 (b.toNat : Int)) (w.alloc (.cells Lib.zeros24 85)) w.heap.size 0 dk).drewN k) := by
      have h := run_convert_bytes_back (P := Tryd.prog) ((putRow (fun (b : UInt8) => Value.int .u8 (b.toNat : Int)) (w.alloc (.cells Lib.zeros24 85)) w.heap.size 0 dk).drewN k) 71 9 5 ⟨w.heap.size, 0, none⟩ 24 (Lib.decDigits u) Tryd.underlying71 Tryd.underlying5 Tryd.underlying9 (fun j hj => by
        rw [Lib.row_is_numeral hF j hj, Lib.add_plain, World.cell?_drewN]
        exact cell?_putRow (fun (b : UInt8) => Value.int .u8 (b.toNat : Int)) _ w.heap.size 0 _ dk HH0.out (by rw [hF.size, Array.size_replicate]) j (by rw [hF.size]; rw [Lib.decDigits_length] at hj; exact hj))
      rw [Lib.decDigits_length] at h
      exact h
    have HB : Hid (Below w.heap.size w ((putRow (fun (b : UInt8) => Value.int .u8 (b.toNat : Int)) (w.alloc (.cells Lib.zeros24 85)) w.heap.size 0 dk).drewN k)) := by
      obtain ⟨os, eo⟩ := Lib.fin_at w (.cells Lib.zeros24 85) dk k 0
      show Below _ _ _
      rw [eo]
      exact Lib.below_grow _ _ (Nat.le_refl _) k os
    clear HFM HH0 hF HSL
    generalize ((putRow (fun (b : UInt8) => Value.int .u8 (b.toNat : Int)) (w.alloc (.cells Lib.zeros24 85)) w.heap.size 0 dk).drewN k) = wz at hcv HB ⊢
    go_wp2_with fail
    go_ret
    exact ⟨rfl, HB.out⟩
set_option maxRecDepth 100000 in
theorem fmtU_any {w : World} (hp : PowU w) (u : Nat) (hu : u < 18446744073709551616) : Calls Tryd.prog 12 #[.int .u64 (u : Int), .int .i64 10] w fun e w' => e = .returned (.string (strB (Lib.decDigits u))) ∧ Below w.heap.size w w' := by
  have HC := Lib.hid (fmtI_any hp u hu)
  clear hp hu
  go_enter Tryd.func12, Tryd.ntmps12
  go_wp2_with fail
  refine HC.out.mono ?_
  rintro e w1 ⟨rfl, hb1⟩
  go_wp2_with fail
  go_ret
  exact ⟨rfl, hb1⟩
end Go.Proofs.YtcjflglpkpkflaaDoor
