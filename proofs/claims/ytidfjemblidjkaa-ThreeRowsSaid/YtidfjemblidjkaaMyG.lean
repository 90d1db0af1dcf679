/- The walks of myers' alike, plain. -/
import Derived.Test.YtidfjemblidjkaaMyD
import Derived.Test.YtidfjemblidjkaaInts
namespace Go.Proofs.Ytidfjemblidjkaa
open Go Go.RowKit
set_option linter.unusedVariables false
theorem alikeN_same {a b : List Int} {k : Nat} (h1 : k < a.length) (h2 : k < b.length) (h3 : a[k] = b[k]) : alike (a.drop k) (b.drop k) = alike (a.drop (k + 1)) (b.drop (k + 1)) + 1 := by
  rw [drop_cons h1, drop_cons h2, h3]; simp [alike]
theorem alikeN_other {a b : List Int} {k : Nat} (h1 : k < a.length) (h2 : k < b.length) (h3 : ¬ a[k] = b[k]) : alike (a.drop k) (b.drop k) = 0 := by
  rw [drop_cons h1, drop_cons h2]; simp [alike, h3]
theorem alikeN_end {a b : List Int} {k : Nat} (h : a.length ≤ k ∨ b.length ≤ k) : alike (a.drop k) (b.drop k) = 0 := by
  rcases h with h | h
  · rw [List.drop_of_length_le h]; simp [alike]
  · rw [List.drop_of_length_le h]; cases a.drop k <;> simp [alike]
set_option maxRecDepth 100000 in
set_option maxHeartbeats 2000000 in
theorem alike_any (va vb : Value) (a b : List Int) (w : World) (hra : RowZ w va a) (hrb : RowZ w vb b) (hla : a.length ≤ 1000000) (hlb : b.length ≤ 1000000) :
    Calls Try.prog 49 #[va, vb] w fun e w' => e = .returned (.int .i64 (alike a b : Nat)) ∧ Below w.heap.size w w' := by
  obtain ⟨aa, ca, rfl, -, hia⟩ := hra.gen.shape
  obtain ⟨ab, cb, rfl, -, hib⟩ := hrb.gen.shape
  have HIA := Lib.hid hia
  have HIB := Lib.hid hib
  clear hra hrb hia hib
  go_enter Try.func49, Try.ntmps49
  go_wp2_with fail
  go_loopw [5] (fun x wr => ∃ k : Nat, k ≤ a.length ∧ k ≤ b.length ∧ x = .int .i64 k ∧ Hid (k + alike (a.drop k) (b.drop k) = alike a b) ∧ Below w.heap.size w wr) (fun x _ => a.length - (intOf x).toNat)
  case atStart => exact ⟨0, Nat.zero_le _, Nat.zero_le _, rfl, by show _ = _; simp, Below.refl _ _⟩
  case round =>
    obtain ⟨k, hk1, hk2, rfl, HK, hbe⟩ := hrel
    by_cases h1 : k < a.length
    · have e1 : decide ((k : Int) < a.length) = true := by simp; omega
      by_cases h2 : k < b.length
      · have e2 : decide ((k : Int) < b.length) = true := by simp; omega
        obtain ⟨gb, ob, rfl, hcb⟩ := HIB.out k _ (List.getElem?_eq_getElem h2)
        obtain ⟨ga, oa, rfl, hca⟩ := HIA.out k _ (List.getElem?_eq_getElem h1)
        have d3 : wr.cell? ⟨ga, oa + k, none⟩ = some (.int .i64 a[k]) := cell_below hbe hca
        have d4 : wr.cell? ⟨gb, ob + k, none⟩ = some (.int .i64 b[k]) := cell_below hbe hcb
        clear hca hcb
        by_cases h3 : a[k] = b[k]
        · have HA := Lib.hid (alikeN_same h1 h2 h3)
          have e3 : (a[k] == b[k]) = true := by simp [h3]
          clear h3
          go_wp2_with fail
          go_region
          all_goals go_wp2_with fail
          all_goals go_roundw
          case rel => exact ⟨k + 1, by omega, by omega, by go_num, by show _ = _; have := HK.out; rw [HA.out] at this; omega, hbe.drew⟩
          case measure => simp only [intOf]; omega
        · have HA : Hid (alike a b = k) := by show _ = _; have := HK.out; rw [alikeN_other h1 h2 h3] at this; omega
          have e3 : (a[k] == b[k]) = false := by simp [h3]
          clear h3
          go_wp2_with fail
          go_region
          all_goals go_wp2_with fail
          all_goals go_ret
          all_goals exact ⟨ret1 (by rw [HA.out]; rfl), hbe.drew⟩
      · have e2 : decide ((k : Int) < b.length) = false := by simp; omega
        have HA : Hid (alike a b = k) := by show _ = _; have := HK.out; rw [alikeN_end (.inr (by omega))] at this; omega
        go_wp2_with fail
        go_region
        all_goals go_wp2_with fail
        all_goals go_ret
        all_goals exact ⟨ret1 (by rw [HA.out]; rfl), hbe.drew⟩
    · have e1 : decide ((k : Int) < a.length) = false := by simp; omega
      have HA : Hid (alike a b = k) := by show _ = _; have := HK.out; rw [alikeN_end (.inl (by omega))] at this; omega
      go_wp2_with fail
      go_region
      all_goals go_wp2_with fail
      all_goals go_ret
      all_goals exact ⟨ret1 (by rw [HA.out]; rfl), hbe.drew⟩
theorem addR_goodZ {n m : Nat} {rs : List Rn} {k c : Int} (h : GoodR n rs) (hc : 0 ≤ c) (hm : c ≤ m) : GoodR (n + m) (addR rs k c) := by
  by_cases h0 : c = 0
  · subst h0; rw [addR_zero]; intro r hr; have := h r hr; omega
  · obtain ⟨q, rfl⟩ := Int.eq_ofNat_of_zero_le hc
    have := addR_good (m := q) (k := k) h (by omega)
    intro r hr
    have := this r hr
    omega
theorem runsV_far (a b : List Int) : runsV (stepsF a b) = addR (addR (addR (addR [] 1 (alike a b : Nat)) 2 ((a.length - alike a b - alike (a.drop (alike a b)).reverse (b.drop (alike a b)).reverse : Nat))) 3 ((b.length - alike a b - alike (a.drop (alike a b)).reverse (b.drop (alike a b)).reverse : Nat))) 1 (alike (a.drop (alike a b)).reverse (b.drop (alike a b)).reverse : Nat) := by
  unfold stepsF
  simp only []
  rw [runsV_rep, runsV_rep, runsV_rep, ← List.nil_append (List.replicate (alike a b) (1 : Int)), runsV_rep]
  rfl
set_option maxRecDepth 100000 in
set_option maxHeartbeats 4000000 in
theorem plain_any (va vb : Value) (a b : List Int) (w : World) (hra : RowZ w va a) (hrb : RowZ w vb b) (hla : a.length ≤ 1000000) (hlb : b.length ≤ 1000000) :
    Calls Try.prog 33 #[va, vb] w fun e w' => ∃ v', e = .returned v' ∧ OwnP w.heap.size w' v' (runsV (stepsF a b)) ∧ Below w.heap.size w w' := by
  have HR := Lib.hid (runsV_far a b)
  have hal := alike_le a b
  have HA := Lib.hid (alike_any va vb a b w hra hrb hla hlb)
  obtain ⟨h, hh⟩ : ∃ h, h = alike a b := ⟨_, rfl⟩
  rw [← hh] at HA HR hal
  obtain ⟨t, ht⟩ : ∃ t, t = alike (a.drop h).reverse (b.drop h).reverse := ⟨_, rfl⟩
  have htl := alike_le (a.drop h).reverse (b.drop h).reverse
  rw [← ht] at HR htl
  have hta : h + t ≤ a.length := by have := htl.1; simp at this; omega
  have htb : h + t ≤ b.length := by have := htl.2; simp at this; omega
  have HT := Lib.hid ht
  have HRA := Lib.hid hra
  have HRB := Lib.hid hrb
  obtain ⟨aa, ca, rfl, -, -⟩ := hra.gen.shape
  obtain ⟨ab, cb, rfl, -, -⟩ := hrb.gen.shape
  have hac := hra.gen.cap
  have hbc := hrb.gen.cap
  have hha : h ≤ a.length := by omega
  have hhb : h ≤ b.length := by omega
  clear hra hrb hh ht htl hal
  go_enter Try.func33, Try.ntmps33
  go_wp2_with fail
  refine HA.out.mono ?_
  rintro e w1 ⟨rfl, hb1⟩
  go_upto_region 2 with fail
  go_cut [0, 1] from 13 to 18 (fun x y wx => RowZ wx x (a.drop h) ∧ RowZ wx y (b.drop h) ∧ Below w.heap.size w wx)
  case first =>
    have ra := (HRA.out.gen.stays hb1).part (l := h) (h := a.length) hha (Nat.le_refl _)
    have rb := (HRB.out.gen.stays hb1).part (l := h) (h := b.length) hhb (Nat.le_refl _)
    rw [List.take_length] at ra rb
    by_cases k1 : ca = h
    · by_cases k2 : cb = h
      · rw [if_pos k1, show ca - h = 0 from by omega] at ra
        rw [if_pos k2, show cb - h = 0 from by omega] at rb
        have HRA2 := Lib.hid ra
        have HRB2 := Lib.hid rb
        clear ra rb
        go_wp2_with fail
        go_region
        all_goals go_wp2_with fail
        all_goals go_meet
        case rel => exact ⟨HRA2.out.stays ((Below.refl _ _).drew), HRB2.out.stays ((Below.refl _ _).drew), hb1.drew⟩
      · rw [if_pos k1, show ca - h = 0 from by omega] at ra
        rw [if_neg k2] at rb
        have HRA2 := Lib.hid ra
        have HRB2 := Lib.hid rb
        clear ra rb
        go_wp2_with fail
        go_region
        all_goals go_wp2_with fail
        all_goals go_meet
        case rel => exact ⟨HRA2.out.stays ((Below.refl _ _).drew), HRB2.out.stays ((Below.refl _ _).drew), hb1.drew⟩
    · by_cases k2 : cb = h
      · rw [if_neg k1] at ra
        rw [if_pos k2, show cb - h = 0 from by omega] at rb
        have HRA2 := Lib.hid ra
        have HRB2 := Lib.hid rb
        clear ra rb
        go_wp2_with fail
        go_region
        all_goals go_wp2_with fail
        all_goals go_meet
        case rel => exact ⟨HRA2.out.stays ((Below.refl _ _).drew), HRB2.out.stays ((Below.refl _ _).drew), hb1.drew⟩
      · rw [if_neg k1] at ra
        rw [if_neg k2] at rb
        have HRA2 := Lib.hid ra
        have HRB2 := Lib.hid rb
        clear ra rb
        go_wp2_with fail
        go_region
        all_goals go_wp2_with fail
        all_goals go_meet
        case rel => exact ⟨HRA2.out.stays ((Below.refl _ _).drew), HRB2.out.stays ((Below.refl _ _).drew), hb1.drew⟩
  case rest =>
    obtain ⟨rx, ry, hb2⟩ := hcut
    have HXC := Lib.hid (cloneZ_any _ _ wc rx (by rw [List.length_drop]; omega))
    have HYC : Hid (∀ w', Below wc.heap.size wc w' → _) := fun w' hbe => cloneZ_any _ _ w' (ry.stays hbe) (by rw [List.length_drop]; omega)
    obtain ⟨ax, cx, rfl, -, -⟩ := rx.gen.shape
    obtain ⟨ay, cy, rfl, -, -⟩ := ry.gen.shape
    clear rx ry hb1
    obtain ⟨m, hm⟩ : ∃ m, m = (a.drop h).length := ⟨_, rfl⟩
    obtain ⟨n, hn⟩ : ∃ n, n = (b.drop h).length := ⟨_, rfl⟩
    rw [← hm] at HXC ⊢
    rw [← hn] at HYC ⊢
    rw [List.length_drop] at hm hn
    have hm1 : (m : Int) ≤ 1000000 := by omega
    have hn1 : (n : Int) ≤ 1000000 := by omega
    have hmt : (t : Int) ≤ m := by omega
    have hnt : (t : Int) ≤ n := by omega
    have e1 : Hid (((a.length - h - t : Nat) : Int) = (m : Int) - t) := by show _ = _; omega
    have e2 : Hid (((b.length - h - t : Nat) : Int) = (n : Int) - t) := by show _ = _; omega
    clear hm hn
    go_wp2_with fail
    refine HXC.out.mono ?_
    rintro e w2 ⟨x', rfl, hox, hb3⟩
    go_wp2_with fail
    refine (HYC.out w2 hb3).mono ?_
    rintro e w3 ⟨y', rfl, hoy, hb4⟩
    have hox3 := hox.stays hb4
    have hxl := fun k hk => hox.lt k hk
    have hyl := fun k hk => hoy.lt k hk
    have hb5 := (hb2.trans (hb3.mono hb2.size)).trans (hb4.mono (Nat.le_trans hb2.size hb3.size))
    have HR1 := Lib.hid (reverseZ_any _ x' _ w3 hox3 (by rw [List.length_drop]; omega))
    have hs2 := hb2.size
    have hs3 := hb3.size
    have hs4 := hb4.size
    have HXL := Lib.hid hxl
    have HYL := Lib.hid hyl
    clear hox hox3 hb2 hb3 hb4 hxl hyl
    go_wp2_with fail
    refine HR1.out.mono ?_
    rintro e w4 ⟨rfl, hox4, hg4⟩
    have hoy4 : OwnL 3 IV w2.heap.size w4 y' (b.drop h) := own_grown hoy hg4 (fun k hk h2 => by have := (HXL.out k h2).2; have := (HYL.out k hk).1; omega)
    have hb6 := hb5.grown hg4 (by omega) (fun k hk => by have := (HXL.out k hk).1; omega)
    have HR2 := Lib.hid (reverseZ_any _ y' _ w4 hoy4 (by rw [List.length_drop]; omega))
    have hs5 := hg4.size
    clear hoy hoy4 hg4 hb5
    go_wp2_with fail
    refine HR2.out.mono ?_
    rintro e w5 ⟨rfl, hoy5, hg5⟩
    have hox5 : OwnL 3 IV wc.heap.size w5 x' (a.drop h).reverse := own_grown hox4 hg5 (fun k hk h2 => by have := (HXL.out k hk).2; have := (HYL.out k h2).1; omega)
    have hb7 := hb6.grown hg5 (by omega) (fun k hk => by have := (HYL.out k hk).1; omega)
    have HAL := Lib.hid (alike_any x' y' _ _ w5 hox5.row hoy5.row (by simp; omega) (by simp; omega))
    rw [← HT.out] at HAL
    clear hox4 hox5 hoy5 hg5 hb6
    go_wp2_with fail
    refine HAL.out.mono ?_
    rintro e w6 ⟨rfl, hb8⟩
    have hb9 := hb7.trans (hb8.mono hb7.size)
    clear hb7 hb8
    have A1 := Lib.hid (add_any w6.heap.size (.slice none 0 0) [] 1 (h : Int) w6 0 (OwnS.nil _ _) (Nat.le_refl _) (by simp) (fun r hr => by simp at hr) (by omega) (by omega) (by omega))
    have G1 : GoodR 1000000 (addR [] 1 (h : Int)) := by have := addR_goodZ (n := 0) (m := 1000000) (rs := []) (k := 1) (c := (h : Int)) (fun r hr => by simp at hr) (by omega) (by omega); simpa using this
    have L1 := addR_len [] 1 (h : Int)
    have G2 := addR_goodZ (m := 1000000) (k := 2) (c := (m : Int) - t) G1 (by omega) (by omega)
    have L2 := addR_len (addR [] 1 (h : Int)) 2 ((m : Int) - t)
    have G3 := addR_goodZ (m := 1000000) (k := 3) (c := (n : Int) - t) G2 (by omega) (by omega)
    have L3 := addR_len (addR (addR [] 1 (h : Int)) 2 ((m : Int) - t)) 3 ((n : Int) - t)
    simp only [List.length_nil] at L1
    have HG1 := Lib.hid (And.intro G1 (show (addR [] 1 (h : Int)).length ≤ 10 by omega))
    have HG2 := Lib.hid (And.intro G2 (show (addR (addR [] 1 (h : Int)) 2 ((m : Int) - t)).length ≤ 10 by omega))
    have HG3 := Lib.hid (And.intro G3 (show (addR (addR (addR [] 1 (h : Int)) 2 ((m : Int) - t)) 3 ((n : Int) - t)).length ≤ 10 by omega))
    have hs6 := hb9.size
    clear G1 G2 G3 L1 L2 L3
    go_wp2_with fail
    refine A1.out.mono ?_
    rintro e w7 ⟨v7, rfl, o7, g7, n7⟩
    have hb10 := OwnS.below (B := w.heap.size) ((OwnS.nil w6.heap.size w6).mono hs6 : OwnP w.heap.size w6 (.slice none 0 0) []) hb9 g7 hs6
    have hs7 := g7.size
    have A2 := Lib.hid (add_any w6.heap.size v7 _ 2 ((m : Int) - t) w7 1000000 o7 hs7 (by have := HG1.out.2; omega) HG1.out.1 (by omega) (by omega) (by omega))
    have O7 := Lib.hid o7
    clear g7 n7 o7 hb9
    go_wp2_with fail
    refine A2.out.mono ?_
    rintro e w8 ⟨v8, rfl, o8, g8, n8⟩
    have hb11 := OwnS.below (OwnS.mono O7.out hs6) hb10 g8 (by omega)
    have hs8 := g8.size
    have A3 := Lib.hid (add_any w6.heap.size v8 _ 3 ((n : Int) - t) w8 _ o8 (by omega) (by have := HG2.out.2; omega) HG2.out.1 (by omega) (by omega) (by omega))
    have O8 := Lib.hid o8
    clear g8 n8 o8 hb10
    go_wp2_with fail
    refine A3.out.mono ?_
    rintro e w9 ⟨v9, rfl, o9, g9, n9⟩
    have hb12 := OwnS.below (OwnS.mono O8.out hs6) hb11 g9 (by omega)
    have hs9 := g9.size
    have A4 := Lib.hid (add_any w6.heap.size v9 _ 1 (t : Int) w9 _ o9 (by omega) (by have := HG3.out.2; omega) HG3.out.1 (by omega) (by omega) (by omega))
    have O9 := Lib.hid o9
    clear g9 n9 o9 hb11
    go_wp2_with fail
    refine A4.out.mono ?_
    rintro e w10 ⟨v10, rfl, o10, g10, n10⟩
    have hb13 := OwnS.below (OwnS.mono O9.out hs6) hb12 g10 (by omega)
    clear g10 n10 hb12
    go_wp2_with fail
    go_ret
    exact ⟨_, rfl, by rw [HR.out, e1.out, e2.out]; exact o10.mono hs6, hb13⟩
end Go.Proofs.Ytidfjemblidjkaa
