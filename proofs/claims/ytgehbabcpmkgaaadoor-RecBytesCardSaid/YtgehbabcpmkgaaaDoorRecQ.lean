/- The reference's record: Of, Bytes. -/
import Derived.Test.YtgehbabcpmkgaaaDoorRecP
import Derived.Deep.RegionHeld3
import Derived.Deep.DrawnRows
namespace Go.Proofs.YtgehbabcpmkgaaaDoor
open Go Go.RowKit
set_option linter.unusedVariables false
set_option maxRecDepth 100000 in
set_option maxHeartbeats 4000000 in
theorem recOf_any (k f t : Int) (v : Value) (body : List UInt8) (w : World) (hr : RowB w v body) :
    Calls Tryd.prog 24 #[.agg #[.int .i64 k, .int .i64 f, .int .i64 t, v]] w fun e w' => e = .returned (.agg #[.int .i64 k, .int .i64 f, .int .i64 t, .string (strB body)]) ∧ Below w.heap.size w w' := by
  obtain ⟨a, c, rfl, -, -⟩ := RowL.shape (f := BV) hr
  have hb : Below w.heap.size w ((w.alloc (.cells #[.int .i64 k, .int .i64 f, .int .i64 t, .slice a body.length c] 37)).alloc (.cells #[.int .i64 0, .int .i64 0, .int .i64 0, .string ⟨#[]⟩] 39)) := ((Below.refl _ _).alloc (Nat.le_refl _) _).alloc (by simp) _
  have sC := convert_str (hr.stays hb)
  have HB : Hid (∀ o1 o2, Below w.heap.size w ((w.alloc o1).alloc o2)) := fun o1 o2 => ((Below.refl _ _).alloc (Nat.le_refl _) o1).alloc (by simp) o2
  clear hr hb
  go_enter Tryd.func24, Tryd.ntmps24
  go_wp2_with fail
  exact bodyPost_ret (v := .agg #[.int .i64 k, .int .i64 f, .int .i64 t, .string (strB body)]) (by simp [results, Tryd.results24, go_sem]) rfl ⟨rfl, HB.out _ _⟩
set_option maxRecDepth 100000 in
set_option maxHeartbeats 4000000 in
theorem rrecBytes_any (k f t : Int) (body : List UInt8) (w : World) (hR : recR k f t = true) (hlen : body.length ≤ 1000) :
    Calls Tryd.prog 31 #[.agg #[.int .i64 k, .int .i64 f, .int .i64 t, .string (strB body)]] w fun e w' => e = .returned (.string (strB (recB k f t body))) ∧ Below w.heap.size w w' := by
  obtain ⟨h1, h2, h3⟩ := recR_true hR
  obtain ⟨T, rfl⟩ := Int.eq_ofNat_of_zero_le h1
  obtain ⟨K, rfl⟩ := Int.eq_ofNat_of_zero_le (by omega : 0 ≤ k)
  have hK3 : K ≤ 3 := by omega
  have hT : T ≤ 399 := by omega
  have kw : IntKind.u8.wrap (K : Int) = K := IntWalk.u8_in _ (by omega)
  have kt : IntKind.u64.wrap (T : Int) = T := IntWalk.u64_in _ (by omega)
  obtain ⟨W, hW⟩ : ∃ W, W = w.alloc (.cells #[.int .i64 K, .int .i64 f, .int .i64 T, .string (strB body)] 39) := ⟨_, rfl⟩
  have hc := CellsAt.new w #[.int .i64 K, .int .i64 f, .int .i64 T, .string (strB body)] 39
  have hb0 : Below w.heap.size w W := by rw [hW]; exact (Below.refl _ _).alloc (Nat.le_refl _) _
  rw [← hW] at hc
  go_enter Tryd.func31, Tryd.ntmps31
  go_upto_region 1 with fail
  rw [← hW]
  have hwl := hc.lt
  obtain ⟨g, hg⟩ : ∃ g, g = w.heap.size := ⟨_, rfl⟩
  rw [← hg] at hc ⊢
  have c0 := hc.cell 0 (v := .int .i64 K) rfl
  have c2 := hc.cell 2 (v := .int .i64 T) rfl
  have hbd : Below W.heap.size W W.drew := (Below.refl _ _).drew
  have HK : Hid (∀ w', Below W.heap.size W w' → Below W.heap.size W w' ∧ w'.cell? ⟨g, 0, none⟩ = some (.int .i64 K) ∧ w'.cell? ⟨g, 2, none⟩ = some (.int .i64 T)) := fun w' hb => ⟨hb, (hc.stays hb).cell 0 rfl, (hc.stays hb).cell 2 rfl⟩
  have HPT : Hid (∀ w, Calls Tryd.prog 84 #[.int .u64 T] w fun e w' => ∃ v', e = .returned v' ∧ OwnB w.heap.size w' v' (vput T) ∧ Below w.heap.size w w') := fun w => vPutR_all T w (by omega)
  have HC := Lib.hid hc
  clear hW hg hc hR
  have hone : ∀ W : World, RowB (W.alloc (.cells #[.int .u8 K] 5)) (.slice (some ⟨W.heap.size, 0, none⟩) 1 1) [b8 K] := fun W => (OwnB.one W (by rw [BV_b8]; congr 1; omega)).row
  have cv1 : ∀ W : World, (convert 23 9 (.slice (some ⟨W.heap.size, 0, none⟩) 1 1)).run Tryd.prog (W.alloc (.cells #[.int .u8 K] 5)).drew = .ok (.string (strB [b8 K])) (W.alloc (.cells #[.int .u8 K] 5)).drew := fun W => convert_str ((hone W).stays (Below.refl _ _).drew)
  have cv2 : ∀ W : World, (convert 23 9 (.slice (some ⟨W.heap.size, 0, none⟩) 1 1)).run Tryd.prog (W.alloc (.cells #[.int .u8 K] 5)) = .ok (.string (strB [b8 K])) (W.alloc (.cells #[.int .u8 K] 5)) := fun W => convert_str (hone W)
  have l1 := vput_len10 T (by omega)
  have sA := str_add [b8 K] (vput T) (by rw [List.length_singleton]; omega)
  have hq1 : Below W.heap.size W (W.alloc (.cells #[.int .u8 K] 5)).drew := ((Below.refl _ _).alloc (Nat.le_refl _) _).drew
  have HCA : Hid (∀ w', Below (W.alloc (.cells #[.int .u8 K] 5)).drew.heap.size (W.alloc (.cells #[.int .u8 K] 5)).drew w' → (convert 23 9 (.slice (some ⟨W.heap.size, 0, none⟩) 1 1)).run Tryd.prog w' = .ok (.string (strB [b8 K])) w') := fun w' h => convert_str (((hone W).stays (Below.refl _ _).drew).stays h)
  clear hone
  go_cut [3] from 4 to 14 (fun v wx => v = .string (strB ([b8 K] ++ vput T)) ∧ Below W.heap.size W wx)
  case first =>
    go_region_held (fun w' => Below W.heap.size W w' ∧ w'.cell? ⟨g, 0, none⟩ = some (.int .i64 K) ∧ w'.cell? ⟨g, 2, none⟩ = some (.int .i64 T))
      (first | exact HK.out _ (by assumption) | exact HK.out _ (Below.alloc (by assumption) (Below.size (by assumption)) _))
      ((first
        | (go_at_call 84; (with_reducible refine (HPT.out _).mono ?_); rintro e wA ⟨vA, rfl, howA, hbA⟩; have sC := convert_str howA.row; have sE := fun o => convert_str (OwnB.row (OwnB.alloc howA o)); have hbB : Below W.heap.size W wA := Below.trans (by assumption) (hbA.mono (Below.size (by assumption))); have sD := HCA.out _ hbA)
        | (go_at_call 84; (with_reducible refine (HPT.out _).mono ?_); rintro e wA ⟨vA, rfl, howA, hbA⟩; have sC := convert_str howA.row; have sE := fun o => convert_str (OwnB.row (OwnB.alloc howA o)); have hbB : Below W.heap.size W wA := Below.trans (by assumption) (hbA.mono (Below.size (by assumption))))))
    all_goals go_wp2_with fail
    all_goals go_meet
    all_goals first
      | exact ⟨rfl, hbB⟩
      | exact ⟨rfl, hbB.alloc hbB.size _⟩
  case rest =>
    obtain ⟨rfl, hbW⟩ := hcut
    have hcW := HC.out.stays hbW
    have c0' := hcW.cell 0 (v := .int .i64 K) rfl
    have c1' := hcW.cell 1 (v := .int .i64 f) rfl
    have c2' := hcW.cell 2 (v := .int .i64 T) rfl
    have c3' := hcW.cell 3 (v := .string (strB body)) rfl
    have hbe := hb0.trans (hbW.mono hb0.size)
    have hl1 : ([b8 K] ++ vput T).length ≤ 11 := by rw [List.length_append, List.length_singleton]; omega
    clear HK hq1 HCA cv1 cv2 hbd sA c0 c2
    by_cases hk : K = 3
    · subst hk
      obtain ⟨D, hD⟩ := Int.eq_ofNat_of_zero_le (by omega : 0 ≤ (T : Int) - f)
      have hDw : IntKind.i64.wrap ((T : Int) - f) = (D : Int) := by rw [← hD]; exact IntWalk.i64_in _ (by omega)
      have hD4 : D ≤ 400 := by omega
      have l2 := vput_len10 D (by omega)
      have HE : Hid (recB ((3 : Nat) : Int) f T body = [b8 3] ++ vput T ++ vput D ++ body) := by
        show _ = _
        unfold recB
        rw [if_pos (show ((3 : Nat) : Int) = 3 from rfl), hD]
        simp
      have HPD : Hid (∀ w, Calls Tryd.prog 84 #[.int .u64 D] w fun e w' => ∃ v', e = .returned v' ∧ OwnB w.heap.size w' v' (vput D) ∧ Below w.heap.size w w') := fun w => vPutR_all D w (by omega)
      have sA1 := str_add ([b8 3] ++ vput T) (vput D) (by omega)
      have sA2 := str_add ([b8 3] ++ vput T ++ vput D) body (by rw [List.length_append]; omega)
      obtain ⟨P, hP⟩ : ∃ P, P = [b8 3] ++ vput T := ⟨_, rfl⟩
      obtain ⟨P2, hP2⟩ : ∃ P2, P2 = P ++ vput D := ⟨_, rfl⟩
      rw [← hP] at sA1 sA2 HE ⊢
      rw [← hP2] at sA1 sA2 HE
      have HCW := Lib.hid hcW
      clear h3 hcW hP hP2 hl1 hD
      go_wp2_with fail
      refine (HPD.out _).mono ?_
      rintro e w4 ⟨v4, rfl, o4, hb4⟩
      have sC := convert_str o4.row
      have hc4 := HCW.out.stays hb4
      have c3 := hc4.cell 3 (v := .string (strB body)) rfl
      have hbe4 := hbe.trans (hb4.mono hbe.size)
      clear o4 hc4 hb4
      go_wp2_with fail
      go_ret
      exact ⟨by rw [HE.out]; rfl, hbe4⟩
    · have n3 : ((K : Int) == 3) = false := by simp; omega
      have n3' : (K == 3) = false := by simp; omega
      have HE : Hid (recB K f T body = [b8 K] ++ vput T ++ body) := by
        show _ = _
        unfold recB
        rw [if_neg (by omega)]
        simp
      have sA2 := str_add ([b8 K] ++ vput T) body (by omega)
      obtain ⟨P, hP⟩ : ∃ P, P = [b8 K] ++ vput T := ⟨_, rfl⟩
      rw [← hP] at sA2 HE ⊢
      clear h3 hcW hP hl1
      go_wp2_with fail
      go_ret
      exact ⟨by rw [HE.out]; rfl, hbe⟩
end Go.Proofs.YtgehbabcpmkgaaaDoor
