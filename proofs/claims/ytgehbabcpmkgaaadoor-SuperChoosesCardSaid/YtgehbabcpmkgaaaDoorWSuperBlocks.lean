/- The walk of SuperBlocks: every block's bytes, and the halves of all disks. -/
import Derived.Test.YtgehbabcpmkgaaaDoorWSuperParses
import Derived.Deep.RegionHeld
namespace Go.Proofs.YtgehbabcpmkgaaaDoor
open Go Go.RowKit
set_option linter.unusedVariables false
set_option maxRecDepth 100000 in
set_option maxHeartbeats 1000000 in
theorem rsBytes_any (g b h e : Nat) (w : World) (hg : g ≤ 4294967295) (hb : b ≤ 4294967295) (hh : h ≤ 1) (he : e ≤ 32) :
    Calls Tryd.prog 39 #[.agg #[.int .u32 g, .int .u32 b, .int .i64 h, .int .i64 e]] w fun e' w' => e' = .returned (.string (strB (sealed (blkH g b h e)))) ∧ Below w.heap.size w w' := by
  have hb0 : Below w.heap.size w (w.alloc (.cells #[.int .u32 g, .int .u32 b, .int .i64 h, .int .i64 e] 52)) := (Below.refl _ _).alloc (Nat.le_refl _) _
  have HNL := Lib.hid (blkN_le (g := g) (b := b) (h := h) (e := e) hg hb hh he)
  have hgi : (g : Int) ≤ 4294967295 := by omega
  have hbi : (b : Int) ≤ 4294967295 := by omega
  have hhi : (h : Int) ≤ 1 := by omega
  have hei : (e : Int) ≤ 32 := by omega
  have kc := Lib.run_convert_bytes_const (P := Tryd.prog) (w.alloc (.cells #[.int .u32 g, .int .u32 b, .int .i64 h, .int .i64 e] 52)) 23 5 #[.int .u8 82, .int .u8 68, .int .u8 76, .int .u8 49] 4 4 Tryd.underlying23 Tryd.underlying5
  rw [show (w.alloc (.cells #[.int .u32 g, .int .u32 b, .int .i64 h, .int .i64 e] 52)).heap.size = w.heap.size + 1 from by simp] at kc
  obtain ⟨W, hW⟩ : ∃ W, W = w.alloc (.cells #[.int .u32 g, .int .u32 b, .int .i64 h, .int .i64 e] 52) := ⟨_, rfl⟩
  have hWs : W.heap.size = w.heap.size + 1 := by rw [hW]; simp
  rw [← hW] at hb0
  have hb1 : Below W.heap.size W (W.alloc (.cells #[.int .u8 82, .int .u8 68, .int .u8 76, .int .u8 49] 5 (4, 5))) := (Below.refl _ _).alloc (Nat.le_refl _) _
  have hm : RowB (W.alloc (.cells #[.int .u8 82, .int .u8 68, .int .u8 76, .int .u8 49] 5 (4, 5))) (.slice (some ⟨W.heap.size, 0, none⟩) 4 4) [82, 68, 76, 49] := rowB_lits W [82, 68, 76, 49] _ (4, 5) rfl 4 rfl (by decide)
  obtain ⟨V, hV⟩ : ∃ V, V = W.alloc (.cells #[.int .u8 82, .int .u8 68, .int .u8 76, .int .u8 49] 5 (4, 5)) := ⟨_, rfl⟩
  have hVs : V.heap.size = w.heap.size + 2 := by rw [hV]; simp [hWs]
  rw [← hV] at hb1 hm
  have hb2 : Below V.heap.size V (V.alloc (.cells #[.int .u64 g, .int .u64 b, .int .u64 h, .int .u64 e] 67)) := (Below.refl _ _).alloc (Nat.le_refl _) _
  have hcN := CellsAt.new V #[.int .u64 g, .int .u64 b, .int .u64 h, .int .u64 e] 67
  have hm2 := hm.stays hb2
  have hbe := (hb0.trans (hb1.mono hb0.size)).trans (hb2.mono (by omega))
  rw [hVs] at hcN
  rw [hWs] at hm2
  subst hV
  subst hW
  have HM := Lib.hid hm2
  have HCN := Lib.hid hcN
  have HBE := Lib.hid hbe
  clear hb0 hb1 hb2 hm hcN hm2 hbe hWs hVs hg hb hh he
  go_enter Tryd.func39, Tryd.ntmps39
  go_wp2_with fail
  go_loopw [3, 22] (fun v i wr => ∃ k : Nat, k ≤ 4 ∧ i = .int .i64 k ∧ RowB wr v (blkP g b h e k) ∧ CellsAt wr (w.heap.size + 2) 67 #[.int .u64 g, .int .u64 b, .int .u64 h, .int .u64 e] ∧ Below w.heap.size w wr) (fun _ i _ => 4 - (intOf i).toNat)
  case atStart => exact ⟨0, by omega, rfl, HM.out, HCN.out, HBE.out⟩
  case round =>
    obtain ⟨k, hk, rfl, hr, hcN, hbe⟩ := hrel
    by_cases hlt : k < 4
    · have hck : ∃ n : Nat, n = blkN g b h e k ∧ wr.cell? ⟨w.heap.size + 2, k, none⟩ = some (.int .u64 n) := by
        refine ⟨_, rfl, hcN.cell k ?_⟩
        rcases (by omega : k = 0 ∨ k = 1 ∨ k = 2 ∨ k = 3) with rfl | rfl | rfl | rfl <;> rfl
      obtain ⟨n, hn, hck⟩ := hck
      have hnl : n ≤ 4294967295 := by rw [hn]; exact HNL.out k
      have HP := rput_any _ (blkP g b h e k) n 4 wr (by omega) (by rw [blkP_len]; omega) (by decide) hr
      rw [show ((4 : Nat) : Int) = 4 from rfl, hn, show blkP g b h e k ++ fput 4 (blkN g b h e k) = blkP g b h e (k + 1) from rfl, ← hn] at HP
      have HP := Lib.hid HP
      have HCN2 := Lib.hid hcN
      have HBE2 := Lib.hid hbe
      have hni : (n : Int) ≤ 4294967295 := by omega
      clear hr hcN hbe hn hnl
      go_wp2_with fail
      refine HP.out.mono ?_
      rintro e' w5 ⟨v5, rfl, ho5, hb5⟩
      have hc5 := HCN2.out.stays hb5
      have hbe5 := HBE2.out.trans (hb5.mono HBE2.out.size)
      have hro := ho5.row
      clear HP ho5 hb5 hck
      go_wp2_with fail
      go_roundw
      case rel => exact ⟨k + 1, by omega, by go_num, hro, hc5, hbe5⟩
      case measure => simp [intOf]; omega
    · obtain rfl : k = 4 := by omega
      have hr : RowB wr _ (blkH g b h e) := hr
      have hl := blkH_len g b h e
      have hcl := csum_lt (blkH g b h e)
      have HS := rsum_any _ (blkH g b h e) wr hr (by omega)
      have HP := rput_any _ (blkH g b h e) (csum (blkH g b h e)) 4 wr (by omega) (by omega) (by decide) hr
      rw [show ((4 : Nat) : Int) = 4 from rfl, show blkH g b h e ++ fput 4 (csum (blkH g b h e)) = sealed (blkH g b h e) from rfl] at HP
      generalize csum (blkH g b h e) = S at *
      obtain ⟨X, hX⟩ : ∃ X, X = sealed (blkH g b h e) := ⟨_, rfl⟩
      rw [← hX] at HP
      have HX := Lib.hid hX
      clear hX
      have HS := Lib.hid HS
      have HP := Lib.hid HP
      have HBE2 := Lib.hid hbe
      have hSi : (S : Int) ≤ 4294967295 := by omega
      clear hr hcN hbe hl hcl
      go_wp2_with fail
      refine HS.out.mono ?_
      rintro e' w5 ⟨rfl, rfl⟩
      clear HS
      go_wp2_with fail
      refine HP.out.mono ?_
      rintro e' w5 ⟨v5, rfl, ho5, hb5⟩
      have s5 := convert_str ho5.row
      have hbe5 := HBE2.out.trans (hb5.mono HBE2.out.size)
      clear HP ho5 hb5
      go_wp2_with fail
      go_ret
      exact ⟨ret1 (by rw [← HX.out]; rfl), hbe5⟩
theorem num4_at (pre rest : List UInt8) (n k : Nat) (hk : pre.length = k) (hn : n ≤ 4294967295) : num4 (pre ++ (fput 4 n ++ rest)) k = n := by
  unfold num4
  rw [← hk, List.drop_left, show (fput 4 n ++ rest).take 4 = fput 4 n from by
    have := List.take_left (l₁ := fput 4 n) (l₂ := rest)
    rwa [fput_len] at this, fput_put, fixedV_put]
  exact Nat.mod_eq_of_lt (by rw [show (256 : Nat) ^ 4 = 4294967296 from by decide +kernel]; omega)
theorem sup_sealed (g b h e : Nat) (r : List UInt8) (hR : blkR g b h e = true) (hg : g ≤ 4294967295) :
    supK (sealed (blkH g b h e) ++ r) = 0 ∧ supB (sealed (blkH g b h e) ++ r) 4 = g ∧ supB (sealed (blkH g b h e) ++ r) 8 = b ∧ supB (sealed (blkH g b h e) ++ r) 12 = h ∧ supB (sealed (blkH g b h e) ++ r) 16 = e := by
  obtain ⟨r1, r2, r3, r4, r5, r6⟩ := blkR_true hR
  have hl : (sealed (blkH g b h e)).length = 24 := by rw [sealed_len, blkH_len]
  have ht : (sealed (blkH g b h e) ++ r).take 24 = sealed (blkH g b h e) := by
    have := List.take_left (l₁ := sealed (blkH g b h e)) (l₂ := r)
    rwa [hl] at this
  have h4 : (sealed (blkH g b h e) ++ r).take 4 = [82, 68, 76, 49] := rfl
  have hX : ∀ m, sealed (blkH g b h e) ++ m = [82, 68, 76, 49] ++ (fput 4 g ++ (fput 4 b ++ (fput 4 h ++ (fput 4 e ++ (fput 4 (csum (blkH g b h e)) ++ m))))) := fun m => by
    simp only [sealed, blkH, List.append_assoc]
  have n0 : num4 (sealed (blkH g b h e) ++ r) 4 = g := by rw [hX]; exact num4_at _ _ g 4 rfl hg
  have n1 : num4 (sealed (blkH g b h e) ++ r) 8 = b := by
    rw [hX, ← List.append_assoc [82, 68, 76, 49]]; exact num4_at _ _ b 8 (by simp [fput_len]) (by omega)
  have n2 : num4 (sealed (blkH g b h e) ++ r) 12 = h := by
    rw [hX, ← List.append_assoc [82, 68, 76, 49], ← List.append_assoc _ (fput 4 b)]; exact num4_at _ _ h 12 (by simp [fput_len]) (by omega)
  have n3 : num4 (sealed (blkH g b h e) ++ r) 16 = e := by
    rw [hX, ← List.append_assoc [82, 68, 76, 49], ← List.append_assoc _ (fput 4 b), ← List.append_assoc _ (fput 4 h)]; exact num4_at _ _ e 16 (by simp [fput_len]) (by omega)
  have hK : supK (sealed (blkH g b h e) ++ r) = 0 := by
    unfold supK
    rw [if_neg (by rw [List.length_append, hl]; omega), ht, openK_sealed, if_neg (by decide), h4, n0, n1, n2, n3, if_pos ⟨rfl, hR⟩]
  exact ⟨hK, by rw [supB_ok hK, n0], by rw [supB_ok hK, n1], by rw [supB_ok hK, n2], by rw [supB_ok hK, n3]⟩
set_option maxRecDepth 100000 in
set_option maxHeartbeats 4000000 in
theorem walkBlocks (w : World) (g b : Nat) (hg : g ≤ 4294967295) (hb : b ≤ 4294967295) (h e : Int) (hh : -9223372036854775808 ≤ h ∧ h ≤ 9223372036854775807) (he : -9223372036854775808 ≤ e ∧ e ≤ 9223372036854775807) (sec : Int) (hsec : -9223372036854775808 ≤ sec ∧ sec ≤ 9223372036854775807) (hf : Int) (hhf : -9223372036854775808 ≤ hf ∧ hf ≤ 9223372036854775807) (ea : Nat → Addr) (hea : ErrsAll ea w) :
    Calls Tryd.prog 5 #[.agg #[.int .u32 g, .int .u32 b, .int .i64 h, .int .i64 e], .int .i64 sec, .int .i64 hf] w fun e' w' => e' = .returned (.bool true) ∧ Below w.heap.size w w' := by
  obtain ⟨hh1, hh2⟩ := hh
  obtain ⟨he1, he2⟩ := he
  obtain ⟨hs1, hs2⟩ := hsec
  obtain ⟨hf1, hf2⟩ := hhf
  have hb0 : Below w.heap.size w (w.alloc (.cells #[.int .u32 g, .int .u32 b, .int .i64 h, .int .i64 e] 51)) := (Below.refl _ _).alloc (Nat.le_refl _) _
  have hc0 := CellsAt.new w #[.int .u32 g, .int .u32 b, .int .i64 h, .int .i64 e] 51
  have HA := Lib.hid (alive33 (w.alloc (.cells #[.int .u32 g, .int .u32 b, .int .i64 h, .int .i64 e] 51)))
  have HE : Hid (∀ w', Below w.heap.size w w' → ErrsAll ea w') := fun w' hb => hea.stays hb
  have HC0 := Lib.hid hc0
  have HB0 := Lib.hid hb0
  have HG := Lib.hid (And.intro hg hb)
  have hgi : (g : Int) ≤ 4294967295 := by omega
  have hbi : (b : Int) ≤ 4294967295 := by omega
  clear hea hc0 hb0 hg hb
  go_enter Tryd.func5, Tryd.ntmps5
  go_wp2_with fail
  refine HA.out.mono ?_
  rintro e' w1 ⟨rfl, hb1⟩
  have hc1 := HC0.out.stays hb1
  have hbe1 := HB0.out.trans (hb1.mono HB0.out.size)
  clear HA hb1
  by_cases hl : 1099511627776 < sec
  · clear hc1
    go_wp2_with fail
    go_ret
    exact ⟨rfl, hbe1⟩
  · have hs3 : sec ≤ 1099511627776 := by omega
    have hb2 : Below w1.heap.size w1 (w1.alloc (.cells #[.int .u32 g, .int .u32 b, .int .i64 h, .int .i64 e] 52)) := (Below.refl _ _).alloc (Nat.le_refl _) _
    have hcR := CellsAt.new w1 #[.int .u32 g, .int .u32 b, .int .i64 h, .int .i64 e] 52
    have hc2 := hc1.stays hb2
    have hbe2 := hbe1.trans (hb2.mono hbe1.size)
    have c0 := hc1.cell 0 (v := .int .u32 g) rfl
    have c1 := hc1.cell 1 (v := .int .u32 b) rfl
    have c2 := hc1.cell 2 (v := .int .i64 h) rfl
    have c3 := hc1.cell 3 (v := .int .i64 e) rfl
    have hsz1 := hc1.lt
    have HCR := Lib.hid hcR
    have HC2 := Lib.hid hc2
    have HBE2 := Lib.hid hbe2
    have HH1 := Lib.hid (fun w' => sHalf_any sec hf w' hs1 hs3 hf1 hf2)
    have HH2 := Lib.hid (fun w' => rsHalf_any sec hf w' hs1 hs3 hf1 hf2)
    have HR1 := Lib.hid (fun w' => sRight_any g b h e w' HG.out.2 hh1 hh2 he1 he2)
    have HR2 := Lib.hid (fun w' => rsRight_any g b h e w' HG.out.2 hh1 hh2 he1 he2)
    clear hc1 hcR hc2 hb2 hbe2 hl
    generalize (halfV sec hf).1 = f1 at *
    generalize (halfV sec hf).2 = f2 at *
    have bf1 : ((f1 : Int) != f1) = false := by simp
    have bf2 : ((f2 : Int) != f2) = false := by simp
    by_cases hR : blkR g b h e = true
    · obtain ⟨r1, r2, r3, r4, r5, r6⟩ := blkR_true hR
      obtain ⟨h, rfl⟩ := Int.eq_ofNat_of_zero_le r3
      obtain ⟨e, rfl⟩ := Int.eq_ofNat_of_zero_le (show 0 ≤ e by omega)
      have HSB := Lib.hid (sBytes_ok g b h e (w1.alloc (.cells #[.int .u32 g, .int .u32 b, .int .i64 h, .int .i64 e] 52)) hR HG.out.1)
      have hsl : (sealed (blkH g b h e)).length = 24 := by rw [sealed_len, blkH_len]
      obtain ⟨k0, k1, k2, k3, k4⟩ := sup_sealed g b h e [1, 2] hR HG.out.1
      have HRB := Lib.hid (fun w' => rsBytes_any g b h e w' HG.out.1 HG.out.2 (by omega) (by omega))
      rw [hR] at HR1 HR2
      generalize sealed (blkH g b h e) = X at *
      have HKK := Lib.hid (And.intro k0 (And.intro k1 (And.intro k2 (And.intro k3 k4))))
      have HSL := Lib.hid hsl
      clear hR r1 r2 r3 r4 r5 r6 k0 k1 k2 k3 k4 hsl
      go_wp2_with fail
      refine HSB.out.mono ?_
      rintro e' w3 ⟨v8, rfl, ho3, hb3⟩
      have hc3 := HC2.out.stays hb3
      have hcR3 := HCR.out.stays hb3
      have hbe3 := HBE2.out.trans (hb3.mono HBE2.out.size)
      obtain ⟨a8, c8, rfl, -, -⟩ := ho3.row.gen.shape
      have HO3 := Lib.hid ho3.row
      clear HSB hb3 c0 c1 c2 c3 hsz1 ho3
      go_wp2_with fail
      refine (HH1.out _).mono ?_
      rintro e' w4 ⟨rfl, rfl⟩
      clear HH1
      go_wp2_with fail
      refine (HH2.out _).mono ?_
      rintro e' w4 ⟨rfl, rfl⟩
      clear HH2
      have hK : ∀ w', Below w3.heap.size w3 w' → Below w3.heap.size w3 w' ∧ w'.cell? ⟨w.heap.size, 0, none⟩ = some (.int .u32 g) ∧ w'.cell? ⟨w.heap.size, 1, none⟩ = some (.int .u32 b) ∧ w'.cell? ⟨w.heap.size, 2, none⟩ = some (.int .i64 h) ∧ w'.cell? ⟨w.heap.size, 3, none⟩ = some (.int .i64 e) ∧ w'.cell? ⟨w1.heap.size, 0, none⟩ = some (.int .u32 g) ∧ w'.cell? ⟨w1.heap.size, 1, none⟩ = some (.int .u32 b) ∧ w'.cell? ⟨w1.heap.size, 2, none⟩ = some (.int .i64 h) ∧ w'.cell? ⟨w1.heap.size, 3, none⟩ = some (.int .i64 e) := fun w' hb =>
        ⟨hb, (hc3.stays hb).cell 0 rfl, (hc3.stays hb).cell 1 rfl, (hc3.stays hb).cell 2 rfl, (hc3.stays hb).cell 3 rfl, (hcR3.stays hb).cell 0 rfl, (hcR3.stays hb).cell 1 rfl, (hcR3.stays hb).cell 2 rfl, (hcR3.stays hb).cell 3 rfl⟩
      have HK := Lib.hid hK
      have hbd : Below w3.heap.size w3 w3.drew := (Below.refl _ _).drew
      clear hK hc3 hcR3
      go_wp2_with fail
      go_region_held (fun w' => Below w3.heap.size w3 w' ∧ w'.cell? ⟨w.heap.size, 0, none⟩ = some (.int .u32 g) ∧ w'.cell? ⟨w.heap.size, 1, none⟩ = some (.int .u32 b) ∧ w'.cell? ⟨w.heap.size, 2, none⟩ = some (.int .i64 h) ∧ w'.cell? ⟨w.heap.size, 3, none⟩ = some (.int .i64 e) ∧ w'.cell? ⟨w1.heap.size, 0, none⟩ = some (.int .u32 g) ∧ w'.cell? ⟨w1.heap.size, 1, none⟩ = some (.int .u32 b) ∧ w'.cell? ⟨w1.heap.size, 2, none⟩ = some (.int .i64 h) ∧ w'.cell? ⟨w1.heap.size, 3, none⟩ = some (.int .i64 e))
        (exact HK.out _ (by assumption))
        (first
          | (go_at_call 36; refine (HR1.out _).mono ?_; rintro e' wA ⟨rfl, hbA⟩; have hbB := Below.trans (B := w3.heap.size) (a := w3) (by assumption) (hbA.mono (Below.size (by assumption))))
          | (go_at_call 37; refine (HR2.out _).mono ?_; rintro e' wA ⟨rfl, hbA⟩; have hbB := Below.trans (B := w3.heap.size) (a := w3) (by assumption) (hbA.mono (Below.size (by assumption)))))
      all_goals
        obtain ⟨-, -, -, -, -, d0, d1, d2, d3⟩ := HK.out _ hbB
        have HBB := Lib.hid hbB
        have hw3 := hbe3.size
        have HBE3 := Lib.hid hbe3
        clear hbA hbB hbe3 hbd
        go_wp2_with fail
        refine (HR2.out _).mono ?_
        rintro e' wB ⟨rfl, hbC⟩
        have hbB := HBB.out.trans (hbC.mono HBB.out.size)
        have hmade := OwnB.made wB
        have hrow8 := HO3.out.stays hbB
        have hbm : Below wB.heap.size wB (wB.alloc (.cells #[] 5)) := (Below.refl _ _).alloc (Nat.le_refl _) _
        clear hbC d0 d1 d2 d3 HBB
        go_wp2_with (refine wpList_appendB (o := ⟨some 67, _, _, _, _, _⟩) hmade (hrow8.stays hbm) (by simp only [List.length_nil]; have := HSL.out; omega) hbm.size rfl _ _ rfl (by rfl) (by rfl) ?_)
        intro v67 w5 ho5 hg5 _ _
        have hb5 := hmade.below hbm hg5 hbm.size
        have hb5' : Below w5.heap.size w5 (w5.alloc (.cells #[.int .u8 1, .int .u8 2] 5)) := (Below.refl _ _).alloc (Nat.le_refl _) _
        have hrow2 : RowB (w5.alloc (.cells #[.int .u8 1, .int .u8 2] 5)) (.slice (some ⟨w5.heap.size, 0, none⟩) 2 2) [1, 2] := rowB_lits w5 [1, 2] _ (0, 0) rfl 2 rfl (by decide)
        have hb5s := hb5.size
        clear hmade hrow8 hbm hg5
        go_wp2_with (refine wpList_appendB (o := ⟨some 69, _, _, _, _, _⟩) (ho5.alloc _) hrow2 (by have := HSL.out; simp; omega) (by simp; omega) rfl _ _ rfl (by rfl) (by rfl) ?_)
        intro v69 w6 ho6 hg6 _ _
        have hbX : Below wB.heap.size wB (w5.alloc (.cells #[.int .u8 1, .int .u8 2] 5)) := hb5.alloc hb5s _
        have hb6 := (ho5.alloc _).below hbX hg6 (by simp; omega)
        have hb36 := hbB.trans (hb6.mono hbB.size)
        have hbe6 := HBE3.out.trans (hb36.mono HBE3.out.size)
        have hE := HE.out _ hbe6
        have hP := sParse_any ea v69 (X ++ [1, 2]) w6 ho6.row (by have := HSL.out; simp; omega) hE.e1 hE.e2 hE.e9 hE.e18
        obtain ⟨k0, k1, k2, k3, k4⟩ := HKK.out
        rw [k0, k1, k2, k3, k4, EV_zero] at hP
        have HP := Lib.hid hP
        have HB36 := Lib.hid hb36
        have HBE6 := Lib.hid hbe6
        clear k0 k1 k2 k3 k4 hP ho5 ho6 hbX hb6 hg6 hrow2 hb5 hb5' hb5s hbB hb36 hbe6 hE
        go_wp2_with fail
        refine HP.out.mono ?_
        rintro e' w7 ⟨rfl, hb7⟩
        have hb37 := HB36.out.trans (hb7.mono HB36.out.size)
        have hbe7 := HBE6.out.trans (hb7.mono HBE6.out.size)
        have hba : Below w7.heap.size w7 (w7.alloc (.cells #[.int .u32 g, .int .u32 b, .int .i64 h, .int .i64 e] 51)) := (Below.refl _ _).alloc (Nat.le_refl _) _
        have hc14 := CellsAt.new w7 #[.int .u32 g, .int .u32 b, .int .i64 h, .int .i64 e] 51
        have hb38 := hb37.trans (hba.mono hb37.size)
        have hbe8 := hbe7.trans (hba.mono hbe7.size)
        have hw7 := hb37.size
        clear HP hb7 hba hb37 hbe7
        go_wp2_with fail
        obtain ⟨W7, hW7⟩ : ∃ W, W = w7.alloc (.cells #[.int .u32 g, .int .u32 b, .int .i64 h, .int .i64 e] 51) := ⟨_, rfl⟩
        rw [← hW7] at hc14 hb38 hbe8 ⊢
        have hsz7 : w7.heap.size < W7.heap.size := hc14.lt
        have hK : ∀ w', Below W7.heap.size W7 w' → Below W7.heap.size W7 w' ∧ (convert 23 9 (.slice a8 X.length c8)).run Tryd.prog w' = .ok (.string (strB X)) w' ∧ w'.cell? ⟨w.heap.size, 0, none⟩ = some (.int .u32 g) ∧ w'.cell? ⟨w.heap.size, 1, none⟩ = some (.int .u32 b) ∧ w'.cell? ⟨w.heap.size, 2, none⟩ = some (.int .i64 h) ∧ w'.cell? ⟨w.heap.size, 3, none⟩ = some (.int .i64 e) ∧ w'.cell? ⟨w1.heap.size, 0, none⟩ = some (.int .u32 g) ∧ w'.cell? ⟨w1.heap.size, 1, none⟩ = some (.int .u32 b) ∧ w'.cell? ⟨w1.heap.size, 2, none⟩ = some (.int .i64 h) ∧ w'.cell? ⟨w1.heap.size, 3, none⟩ = some (.int .i64 e) ∧ w'.cell? ⟨w7.heap.size, 0, none⟩ = some (.int .u32 g) ∧ w'.cell? ⟨w7.heap.size, 1, none⟩ = some (.int .u32 b) ∧ w'.cell? ⟨w7.heap.size, 2, none⟩ = some (.int .i64 h) ∧ w'.cell? ⟨w7.heap.size, 3, none⟩ = some (.int .i64 e) := fun w' hb => by
          have h3 := hb38.trans (hb.mono hb38.size)
          obtain ⟨-, q0, q1, q2, q3, q4, q5, q6, q7⟩ := HK.out w' h3
          exact ⟨hb, convert_str (RowB.stays HO3.out h3), q0, q1, q2, q3, q4, q5, q6, q7, (hc14.stays hb).cell 0 rfl, (hc14.stays hb).cell 1 rfl, (hc14.stays hb).cell 2 rfl, (hc14.stays hb).cell 3 rfl⟩
        have HK2 := Lib.hid hK
        have hbd : Below W7.heap.size W7 W7.drew := (Below.refl _ _).drew
        have se : ((strB X).toList == (strB X).toList) = true := by simp
        have bg : ((g : Int) == g) = true := by simp
        have bb : ((b : Int) == b) = true := by simp
        have bh : ((h : Int) == h) = true := by simp
        have be : ((e : Int) == e) = true := by simp
        have HBE8 := Lib.hid hbe8
        clear hK hc14 hb38 hbe8 HK HB36 HBE6 HBE3 hW7
        go_region_held (fun w' => Below W7.heap.size W7 w' ∧ (convert 23 9 (.slice a8 X.length c8)).run Tryd.prog w' = .ok (.string (strB X)) w' ∧ w'.cell? ⟨w.heap.size, 0, none⟩ = some (.int .u32 g) ∧ w'.cell? ⟨w.heap.size, 1, none⟩ = some (.int .u32 b) ∧ w'.cell? ⟨w.heap.size, 2, none⟩ = some (.int .i64 h) ∧ w'.cell? ⟨w.heap.size, 3, none⟩ = some (.int .i64 e) ∧ w'.cell? ⟨w1.heap.size, 0, none⟩ = some (.int .u32 g) ∧ w'.cell? ⟨w1.heap.size, 1, none⟩ = some (.int .u32 b) ∧ w'.cell? ⟨w1.heap.size, 2, none⟩ = some (.int .i64 h) ∧ w'.cell? ⟨w1.heap.size, 3, none⟩ = some (.int .i64 e) ∧ w'.cell? ⟨w7.heap.size, 0, none⟩ = some (.int .u32 g) ∧ w'.cell? ⟨w7.heap.size, 1, none⟩ = some (.int .u32 b) ∧ w'.cell? ⟨w7.heap.size, 2, none⟩ = some (.int .i64 h) ∧ w'.cell? ⟨w7.heap.size, 3, none⟩ = some (.int .i64 e))
          (exact HK2.out _ (by assumption))
          ((go_at_call 39; refine (HRB.out _).mono ?_; rintro e' wA ⟨rfl, hbA⟩; have hbB := Below.trans (B := W7.heap.size) (a := W7) (by assumption) (hbA.mono (Below.size (by assumption)))))
        all_goals clear HK2 hbA
        all_goals go_wp2_with fail
        all_goals go_ret
        all_goals exact ⟨rfl, HBE8.out.trans (hbB.mono HBE8.out.size)⟩
    · have hR' : blkR g b h e = false := by simpa using hR
      have HSB := Lib.hid (sBytes_bad ea g b h e (w1.alloc (.cells #[.int .u32 g, .int .u32 b, .int .i64 h, .int .i64 e] 52)) hR' HG.out.2 hh1 hh2 he1 he2 (HE.out _ HBE2.out).e1)
      rw [hR'] at HR1 HR2
      clear hR hR'
      go_wp2_with fail
      refine HSB.out.mono ?_
      rw [EV_pos ea (show (1 : Nat) ≠ 0 by decide)]
      rintro e' w3 ⟨rfl, hb3⟩
      have hc3 := HC2.out.stays hb3
      have hcR3 := HCR.out.stays hb3
      have hbe3 := HBE2.out.trans (hb3.mono HBE2.out.size)
      clear HSB hb3 c0 c1 c2 c3 hsz1
      go_wp2_with fail
      refine (HH1.out _).mono ?_
      rintro e' w4 ⟨rfl, rfl⟩
      clear HH1
      go_wp2_with fail
      refine (HH2.out _).mono ?_
      rintro e' w4 ⟨rfl, rfl⟩
      clear HH2
      have hK : ∀ w', Below w3.heap.size w3 w' → Below w3.heap.size w3 w' ∧ w'.cell? ⟨w.heap.size, 0, none⟩ = some (.int .u32 g) ∧ w'.cell? ⟨w.heap.size, 1, none⟩ = some (.int .u32 b) ∧ w'.cell? ⟨w.heap.size, 2, none⟩ = some (.int .i64 h) ∧ w'.cell? ⟨w.heap.size, 3, none⟩ = some (.int .i64 e) ∧
          w'.cell? ⟨w1.heap.size, 0, none⟩ = some (.int .u32 g) ∧ w'.cell? ⟨w1.heap.size, 1, none⟩ = some (.int .u32 b) ∧ w'.cell? ⟨w1.heap.size, 2, none⟩ = some (.int .i64 h) ∧ w'.cell? ⟨w1.heap.size, 3, none⟩ = some (.int .i64 e) := fun w' hb =>
        ⟨hb, (hc3.stays hb).cell 0 rfl, (hc3.stays hb).cell 1 rfl, (hc3.stays hb).cell 2 rfl, (hc3.stays hb).cell 3 rfl, (hcR3.stays hb).cell 0 rfl, (hcR3.stays hb).cell 1 rfl, (hcR3.stays hb).cell 2 rfl, (hcR3.stays hb).cell 3 rfl⟩
      have HK := Lib.hid hK
      have hbd : Below w3.heap.size w3 w3.drew := (Below.refl _ _).drew
      have HCR3 := Lib.hid hcR3
      clear hK hc3 hcR3
      go_wp2_with fail
      go_region_held (fun w' => Below w3.heap.size w3 w' ∧ w'.cell? ⟨w.heap.size, 0, none⟩ = some (.int .u32 g) ∧ w'.cell? ⟨w.heap.size, 1, none⟩ = some (.int .u32 b) ∧ w'.cell? ⟨w.heap.size, 2, none⟩ = some (.int .i64 h) ∧ w'.cell? ⟨w.heap.size, 3, none⟩ = some (.int .i64 e) ∧
          w'.cell? ⟨w1.heap.size, 0, none⟩ = some (.int .u32 g) ∧ w'.cell? ⟨w1.heap.size, 1, none⟩ = some (.int .u32 b) ∧ w'.cell? ⟨w1.heap.size, 2, none⟩ = some (.int .i64 h) ∧ w'.cell? ⟨w1.heap.size, 3, none⟩ = some (.int .i64 e))
        (exact HK.out _ (by assumption))
        (first
          | (go_at_call 36; refine (HR1.out _).mono ?_; rintro e' wA ⟨rfl, hbA⟩; have hbB := Below.trans (B := w3.heap.size) (a := w3) (by assumption) (hbA.mono (Below.size (by assumption))))
          | (go_at_call 37; refine (HR2.out _).mono ?_; rintro e' wA ⟨rfl, hbA⟩; have hbB := Below.trans (B := w3.heap.size) (a := w3) (by assumption) (hbA.mono (Below.size (by assumption)))))
      all_goals
        obtain ⟨-, -, -, -, -, d0, d1, d2, d3⟩ := HK.out _ hbB
        have hbe4 := hbe3.trans (hbB.mono hbe3.size)
        have HBE4 := Lib.hid hbe4
        clear HK hbA hbB HCR3 hbe3
        go_wp2_with fail
        refine (HR2.out _).mono ?_
        rintro e' wB ⟨rfl, hbC⟩
        have hbe5 := HBE4.out.trans (hbC.mono HBE4.out.size)
        have hN := num_any ea 1 (by decide) wB (HE.out _ hbe5)
        rw [EV_pos ea (show (1 : Nat) ≠ 0 by decide)] at hN
        have HN := Lib.hid hN
        clear hN hbC d0 d1 d2 d3
        go_wp2_with fail
        refine HN.out.mono ?_
        rintro e' wC ⟨rfl, hbD⟩
        have hbe6 := hbe5.trans (hbD.mono hbe5.size)
        clear HN hbD hbe5
        go_wp2_with fail
        go_ret
        exact ⟨rfl, hbe6⟩
theorem walkSuperBlocks (w : World) (g0 : Int) (hg : 0 ≤ g0 ∧ g0 ≤ 4294967295) (b0 : Int) (hb : 0 ≤ b0 ∧ b0 ≤ 4294967295) (h : Int) (hh : -9223372036854775808 ≤ h ∧ h ≤ 9223372036854775807) (e : Int) (he : -9223372036854775808 ≤ e ∧ e ≤ 9223372036854775807) (sec : Int) (hsec : -9223372036854775808 ≤ sec ∧ sec ≤ 9223372036854775807) (hf : Int) (hhf : -9223372036854775808 ≤ hf ∧ hf ≤ 9223372036854775807) (ea : Nat → Addr) (hea : ErrsAll ea w) :
    Calls Tryd.prog 5 #[.agg #[.int .u32 g0, .int .u32 b0, .int .i64 h, .int .i64 e], .int .i64 sec, .int .i64 hf] w fun e' w' => e' = .returned (.bool true) ∧ Below w.heap.size w w' := by
  obtain ⟨g, rfl⟩ := Int.eq_ofNat_of_zero_le hg.1
  obtain ⟨b, rfl⟩ := Int.eq_ofNat_of_zero_le hb.1
  exact walkBlocks w g b (by omega) (by omega) h e hh he sec hsec hf hhf ea hea
end Go.Proofs.YtgehbabcpmkgaaaDoor
