/- The walk of CrcSeals: sealed bytes, which are opened as they were. -/
import Derived.Test.YtjincjgapjekeaaDoorAlive05
import Derived.Test.YtjincjgapjekeaaDoorBytes
import Derived.Test.YtjincjgapjekeaaDoorCrcR
import Derived.Deep.RegionHeld
namespace Go.Proofs.YtjincjgapjekeaaDoor
open Go Go.RowKit
set_option linter.unusedVariables false
set_option maxRecDepth 100000 in
set_option maxHeartbeats 1000000 in
theorem walkCrcSeals (w : World) (v : Value) (bs : List UInt8) (hr : RowB w v bs) (ea : Nat → Addr) (he1 : ErrAt w 2 (ea 1)) (he2 : ErrAt w 0 (ea 2)) (he18 : ErrAt w 1 (ea 18)) :
    Calls Tryd.prog 6 #[v] w fun e w' => e = .returned (.bool true) ∧ Below w.heap.size w w' := by
  obtain ⟨a, c, rfl, -, -⟩ := hr.gen.shape
  have HA := Lib.hid (alive05 ea w he1 he2 he18)
  have HE1 : Hid (∀ w', Below w.heap.size w w' → ErrAt w' 2 (ea 1)) := fun w' hb => he1.stays hb
  have HE2 : Hid (∀ w', Below w.heap.size w w' → ErrAt w' 0 (ea 2)) := fun w' hb => he2.stays hb
  have HE18 : Hid (∀ w', Below w.heap.size w w' → ErrAt w' 1 (ea 18)) := fun w' hb => he18.stays hb
  have HROW : Hid (∀ w', Below w.heap.size w w' → RowB w' (.slice a bs.length c) bs) := fun w' hb => hr.stays hb
  clear he1 he2 he18 hr
  go_enter Tryd.func6, Tryd.ntmps6
  go_wp2_with fail
  refine HA.out.mono ?_
  rintro e w1 ⟨rfl, hb1⟩
  clear HA
  by_cases hl : 400 < bs.length
  · go_wp2_with fail
    go_ret
    exact ⟨rfl, hb1⟩
  · have HB := Lib.hid (bytes_any _ bs w1 (HROW.out _ hb1) (by omega))
    go_wp2_with fail
    refine HB.out.mono ?_
    rintro e w2 ⟨v3, rfl, hm2, hb2⟩
    have hbe2 := hb1.trans (hb2.mono hb1.size)
    have HS := Lib.hid (seal_any v3 bs w2 hm2.row (by omega))
    clear HB hb1 hb2
    go_wp2_with fail
    refine HS.out.mono ?_
    rintro e w3 ⟨v4, rfl, ho3, hb3⟩
    have hm3 := hm2.stays hb3
    have hbe3 := hbe2.trans (hb3.mono hbe2.size)
    clear HS hm2 hb3 hbe2
    have hK : ∀ w', Below w3.heap.size w3 w' → Below w3.heap.size w3 w' ∧ (convert 22 9 v4).run Tryd.prog w' = .ok (.string (strB (sealed bs))) w' :=
      fun w' hb => ⟨hb, convert_str (ho3.row.stays hb)⟩
    have HK := Lib.hid hK
    have hcl := csum_lt bs
    have HP := Lib.hid (fun w' (hb : Below w3.heap.size w3 w') => rput_any (.slice a bs.length c) bs (csum bs) 4 w' (by omega) (by omega) (by decide) (HROW.out _ (hbe3.trans (hb.mono hbe3.size))))
    rw [show (((4 : Nat) : Int)) = 4 from rfl] at HP
    have HR := Lib.hid (fun w' (hb : Below w3.heap.size w3 w') => rsum_any (.slice a bs.length c) bs w' (HROW.out _ (hbe3.trans (hb.mono hbe3.size))) (by omega))
    have HKp := Lib.hid (fun w' (hb : Below w3.heap.size w3 w') => kept_any _ v3 _ bs w' (hm3.stays hb) (HROW.out _ (hbe3.trans (hb.mono hbe3.size))) (by omega))
    have HO := Lib.hid ho3
    have hci : (csum bs : Int) ≤ 4294967295 := by omega
    have hse : bs ++ fput 4 (csum bs) = sealed bs := rfl
    have HSe := Lib.hid hse
    have sx : ((strB (sealed bs)).toList != (strB (sealed bs)).toList) = false := by simp
    have hbd : Below w3.heap.size w3 w3.drew := (Below.refl _ _).drew
    have hsl : (sealed bs).length ≤ 1000000 := by rw [sealed_len]; omega
    have HOK := Lib.hid (openK_sealed bs)
    have HOP := Lib.hid (opened_sealed bs)
    clear hK hcl hse hm3 ho3
    generalize csum bs = S at *
    generalize sealed bs = X at *
    have hwS : IntKind.u64.wrap (S : Int) = S := IntWalk.u64_in _ (by omega)
    go_wp2_with fail
    go_region_held (fun w' => Below w3.heap.size w3 w' ∧ (convert 22 9 v4).run Tryd.prog w' = .ok (.string (strB X)) w')
      (exact HK.out _ (by assumption))
      (first
        | (go_at_call 15; refine (HKp.out _ (by assumption)).mono ?_; rintro e wA ⟨rfl, rfl⟩)
        | (go_at_call 27; refine (HR.out _ (by assumption)).mono ?_; rintro e wA ⟨rfl, rfl⟩)
        | (go_at_call 16; refine (HP.out _ (by assumption)).mono ?_; rintro e wA ⟨vA, rfl, hoA, hbA⟩; rw [HSe.out] at hoA; have sC := convert_str hoA.row; have hbB := Below.trans (B := w3.heap.size) (a := w3) (by assumption) (hbA.mono (Below.size (by assumption)))))
    all_goals
      have hbe5 := hbe3.trans (hbB.mono hbe3.size)
      have ho5 := HO.out.stays hbB
      have HOo := open_any ea v4 X wA ho5.row hsl (HE1.out _ hbe5) (HE2.out _ hbe5) (HE18.out _ hbe5)
      rw [HOK.out, HOP.out, EV_zero] at HOo
      have HOo := Lib.hid HOo
      clear HK HP HR HKp HO hwS ho5 hbB hbA hoA sC
      go_wp2_with fail
      refine HOo.out.mono ?_
      rintro e w6 ⟨v6, rfl, ho6, hb6⟩
      have hbe6 := hbe5.trans (hb6.mono hbe5.size)
      have c6 := convert_str ho6.row
      have c7 := convert_str (HROW.out _ hbe6)
      have se : ((strB bs).toList == (strB bs).toList) = true := by simp
      clear HOo ho6 hb6 sx
      go_wp2_with fail
      go_ret
      exact ⟨rfl, hbe6⟩
end Go.Proofs.YtjincjgapjekeaaDoor
