/- The walks of myers' from, edits, Distance. -/
import Derived.Test.YtidfjemblidjkaaMyK
namespace Go.Proofs.Ytidfjemblidjkaa
open Go Go.RowKit
set_option linter.unusedVariables false
/-- how many edits are left behind two places, as it is told -/
def edV (a b : List Int) (x y : Nat) : Int := if tab a b x y ≤ dist a b then (tab a b x y : Int) else unr
section
variable (va vb : Value) (a b : List Int) (w : World) (hla : a.length ≤ 400) (hlb : b.length ≤ 400)
include hla hlb
set_option maxRecDepth 100000 in
set_option maxHeartbeats 1000000 in
theorem from_any (hra : RowZ w va a) (hrb : RowZ w vb b) :
    Calls Try.prog 32 #[va, vb] w fun x w' => x = .returned (.tuple #[.pointer (some ⟨w.heap.size, 0, none⟩), .bool (nearB a b)]) ∧ Bh w' w.heap.size va vb a b ∧ Looked w' w.heap.size a b ∧ Below w.heap.size w w' := by
  have hb : Below w.heap.size w (w.alloc (.cells #[va, vb, .slice none 0 0] 67)) := (Below.refl _ _).alloc (Nat.le_refl _) _
  have HL := Lib.hid (look_any w.heap.size va vb a b w _ hra hrb hla hlb hb (Nat.le_refl _) (CellsAt.new w _ _))
  obtain ⟨aa, ca, rfl, -, -⟩ := hra.gen.shape
  obtain ⟨ab, cb, rfl, -, -⟩ := hrb.gen.shape
  clear hra hrb hb
  go_enter Try.func32, Try.ntmps32
  go_wp2_with fail
  refine HL.out.mono ?_
  rintro x w1 ⟨rfl, h1, h2, h3⟩
  have H2 := Lib.hid h2
  clear h2
  go_wp2_with fail
  go_ret2
  exact ⟨rfl, h1, H2.out, h3⟩
set_option maxRecDepth 100000 in
set_option maxHeartbeats 1000000 in
theorem edits_any (g gr cap : Nat) (hB : Bh w g va vb a b) (hR : RowsTo w g gr (dist a b + 1) cap (dist a b + 1) a b) (hD : dist a b ≤ 400) (x y : Nat) (hx : x ≤ a.length) (hy : y ≤ b.length) :
    Calls Try.prog 35 #[.pointer (some ⟨g, 0, none⟩), .int .i64 x, .int .i64 y] w fun e w' => e = .returned (.int .i64 (edV a b x y)) ∧ Below w.heap.size w w' := by
  have HL := fun w' (hb : Below w.heap.size w w') e he => least_any g va vb a b w' (hB.below hb) hla hlb gr (dist a b + 1) cap (dist a b + 1) e (hR.below hb) he (by omega) (by omega) ((x : Int) - y) (by omega) (by omega)
  have HL' := Lib.hid HL
  have HRe := fun e => (reach_all (a := a) (b := b) (by omega) (by omega) e).2 x y hx hy
  have HRe' := Lib.hid HRe
  have c2 := hR.1
  obtain ⟨D, hDD⟩ : ∃ D, D = dist a b := ⟨_, rfl⟩
  have HD := Lib.hid hDD
  rw [← hDD] at HL' c2 hD
  clear hB hR HL HRe hDD
  go_enter Try.func35, Try.ntmps35
  go_wp2_with fail
  go_loopw [13] (fun v wr => ∃ n : Nat, n ≤ D + 1 ∧ v = .int .i64 n ∧ n ≤ tab a b x y ∧ Below w.heap.size w wr) (fun v _ => D + 1 - (intOf v).toNat)
  case atStart => exact ⟨0, by omega, rfl, by omega, Below.refl _ _⟩
  case round =>
    obtain ⟨n, hn, rfl, ht, hbe⟩ := hrel
    by_cases h1 : n ≤ D
    · have e1 : decide ((n : Int) < D + 1) = true := by simp; omega
      have HC := Lib.hid (HL'.out wr hbe n (by omega))
      go_wp2_with fail
      refine HC.out.mono ?_
      rintro z w1 ⟨rfl, hb1⟩
      have hb2 := hbe.trans (hb1.mono hbe.size)
      clear hbe hb1
      by_cases h2 : tab a b x y ≤ n
      · have e2 : decide (lst a b n ((x : Int) - y) ≤ x) = true := by simpa using (HRe'.out n).2 h2
        obtain rfl : n = tab a b x y := by omega
        have HE : Hid (edV a b x y = (tab a b x y : Nat)) := if_pos (by have := HD.out; omega)
        go_wp2_with fail
        go_ret
        exact ⟨ret1 (by rw [HE.out]; rfl), hb2⟩
      · have e2 : decide (lst a b n ((x : Int) - y) ≤ x) = false := by
          have : ¬ lst a b n ((x : Int) - y) ≤ x := fun h => h2 ((HRe'.out n).1 h)
          simpa using this
        go_wp2_with fail
        go_roundw
        case rel => exact ⟨n + 1, by omega, by go_num, by omega, hb2⟩
        case measure => simp only [intOf]; omega
    · obtain rfl : n = D + 1 := by omega
      have e1 : decide (((D + 1 : Nat) : Int) < D + 1) = false := by simp
      have HE : Hid (edV a b x y = unr) := if_neg (by have := HD.out; omega)
      go_wp2_with fail
      go_ret
      exact ⟨ret1 (by rw [HE.out]; rfl), hbe⟩
set_option maxRecDepth 100000 in
set_option maxHeartbeats 1000000 in
theorem distance_any (hra : RowZ w va a) (hrb : RowZ w vb b) :
    Calls Try.prog 16 #[va, vb] w fun x w' => x = .returned (.int .i64 (farV a b : Nat)) ∧ Below w.heap.size w w' := by
  have HF := Lib.hid (from_any va vb a b w hla hlb hra hrb)
  clear hra hrb
  by_cases h : dist a b ≤ 400
  · have HN := Lib.hid (nearB_yes h)
    have HV : Hid (farV a b = dist a b) := by show _ = _; unfold farV; omega
    have hdi : (dist a b : Int) ≤ 400 := by omega
    clear h
    go_enter Try.func16, Try.ntmps16
    go_wp2_with fail
    refine HF.out.mono ?_
    rintro x w1 ⟨rfl, h1, h2, h3⟩
    rw [HN.out]
    obtain ⟨gr, cap, hR⟩ := h2 HN.out
    have c2 := hR.1
    clear h1 h2 hR
    go_wp2_with fail
    go_ret
    exact ⟨ret1 (by rw [HV.out]; rfl), h3⟩
  · have HN := Lib.hid (nearB_no (show 400 < dist a b by omega))
    have HV : Hid (farV a b = 401) := by show _ = _; unfold farV; omega
    clear h
    go_enter Try.func16, Try.ntmps16
    go_wp2_with fail
    refine HF.out.mono ?_
    rintro x w1 ⟨rfl, h1, h2, h3⟩
    rw [HN.out]
    clear h1 h2
    go_wp2_with fail
    go_ret
    exact ⟨ret1 (by rw [HV.out]; rfl), h3⟩
end
end Go.Proofs.Ytidfjemblidjkaa
