/- The walk of CrcLinear: of three rows changed by each other the sum is that of the three sums. -/
import Derived.Test.YtjincjgapjekeaaDoorAlive05
import Derived.Test.YtjincjgapjekeaaDoorBytes
import Derived.Test.YtjincjgapjekeaaDoorCrcLin
namespace Go.Proofs.YtjincjgapjekeaaDoor
open Go Go.RowKit
set_option linter.unusedVariables false
theorem xor3_len : ∀ (a b c : List UInt8), b.length = a.length → c.length = a.length → (xor3 a b c).length = a.length
  | [], [], [], _, _ => rfl
  | x :: a, y :: b, z :: c, h1, h2 => by
    show (xor3 a b c).length + 1 = a.length + 1
    rw [xor3_len a b c (by simpa using h1) (by simpa using h2)]
theorem xor3_get : ∀ (a b c : List UInt8) (k : Nat) (x y z : UInt8), a[k]? = some x → b[k]? = some y → c[k]? = some z → (xor3 a b c)[k]? = some (x ^^^ y ^^^ z)
  | [], _, _, _, _, _, _, h, _, _ => by simp at h
  | _ :: _, [], _, _, _, _, _, _, h, _ => by simp at h
  | _ :: _, _ :: _, [], _, _, _, _, _, _, h => by simp at h
  | x :: a, y :: b, z :: c, 0, x', y', z', h1, h2, h3 => by
    simp at h1 h2 h3; subst h1; subst h2; subst h3; rfl
  | x :: a, y :: b, z :: c, k + 1, x', y', z', h1, h2, h3 => xor3_get a b c k x' y' z' (by simpa using h1) (by simpa using h2) (by simpa using h3)
/-- so many bytes done -/
def xorz (D : List UInt8) (k : Nat) : List UInt8 := D.take k ++ List.replicate (D.length - k) (b8 0)
theorem xorz_set {D : List UInt8} {k : Nat} {x : UInt8} (h : D[k]? = some x) : (xorz D k).set k x = xorz D (k + 1) := by
  have hk : k < D.length := (List.getElem?_eq_some_iff.1 h).1
  unfold xorz
  have hl : (D.take k).length = k := by simp; omega
  rw [List.set_append_right _ _ (by omega), hl, Nat.sub_self, show D.length - k = (D.length - (k + 1)) + 1 from by omega, List.replicate_succ, List.set_cons_zero, List.take_add_one, h]
  simp
theorem u8_xor (x y : UInt8) : bits .xor .u8 (x.toNat : Int) (y.toNat : Int) = ((x ^^^ y).toNat : Int) := by
  rw [UInt8.toNat_xor]
  exact u8_xor_nat _ _ x.toNat_lt y.toNat_lt
theorem row_one (w : World) (T : TypeId) (v : Value) (bs : List UInt8) (hr : RowB w v bs) (hlen : bs.length ≤ 1000000) :
    Calls Tryd.prog 28 #[.slice (some ⟨w.heap.size, 0, none⟩) 1 1] (w.alloc (.cells #[v] T)) fun e w' => e = .returned (.int .u32 (csum bs)) ∧ Below w.heap.size w w' := csum1_any w T v bs hr hlen
set_option maxRecDepth 100000 in
set_option maxHeartbeats 1000000 in
theorem walkCrcLinear (w : World) (va : Value) (a : List UInt8) (hra : RowB w va a) (vb : Value) (b : List UInt8) (hrb : RowB w vb b) (vc : Value) (c : List UInt8) (hrc : RowB w vc c) (ea : Nat → Addr) (he1 : ErrAt w 2 (ea 1)) (he2 : ErrAt w 0 (ea 2)) (he18 : ErrAt w 1 (ea 18)) :
    Calls Tryd.prog 7 #[va, vb, vc] w fun e w' => e = .returned (.bool true) ∧ Below w.heap.size w w' := by
  obtain ⟨aa, ca, rfl, -, hia⟩ := hra.gen.shape
  obtain ⟨ab, cb, rfl, -, hib⟩ := hrb.gen.shape
  obtain ⟨ac, cc, rfl, -, hic⟩ := hrc.gen.shape
  have HA := Lib.hid (alive05 ea w he1 he2 he18)
  have HROW : Hid (∀ w', Below w.heap.size w w' → RowB w' (.slice aa a.length ca) a ∧ RowB w' (.slice ab b.length cb) b ∧ RowB w' (.slice ac c.length cc) c) := fun w' hb => ⟨hra.stays hb, hrb.stays hb, hrc.stays hb⟩
  have HIA := Lib.hid hia
  have HIB := Lib.hid hib
  have HIC := Lib.hid hic
  clear he1 he2 he18 hra hrb hrc hia hib hic
  go_enter Tryd.func7, Tryd.ntmps7
  go_wp2_with fail
  refine HA.out.mono ?_
  rintro e w1 ⟨rfl, hb1⟩
  clear HA
  by_cases hl : 300 < a.length
  · go_wp2_with fail
    all_goals go_ret
    all_goals exact ⟨rfl, hb1⟩
  · by_cases hlb : b.length = a.length
    · by_cases hlc : c.length = a.length
      · have HLB := Lib.hid hlb
        have HLC := Lib.hid hlc
        have b1 : ((b.length : Int) != (a.length : Int)) = false := by simp; omega
        have b2 : ((c.length : Int) != (a.length : Int)) = false := by simp; omega
        obtain ⟨D, hD⟩ : ∃ D, D = xor3 a b c := ⟨_, rfl⟩
        have hDl : D.length = a.length := by rw [hD]; exact xor3_len a b c hlb hlc
        have HD := Lib.hid hD
        have HDL := Lib.hid hDl
        clear hlb hlc hD hDl
        go_wp2_with (at_make; go_must (refine wpList_makeB rfl _ _ rfl _ _ _ _ a.length a.length rfl rfl rfl rfl (Nat.le_refl _) (by omega) ?_))
        intro w2 hbl hb2
        have hbe2 := hb1.trans (hb2.mono hb1.size)
        have hgs := hb1.size
        have hbl : BlockB w2 w1.heap.size (xorz D 0) := by unfold xorz; rw [HDL.out]; exact hbl
        clear hb1 hb2 b1 b2
        obtain ⟨g, hg⟩ : ∃ g, g = w1.heap.size := ⟨_, rfl⟩
        rw [← hg] at hbl hgs ⊢
        clear hg
        go_wp2_with fail
        go_loopw [33] (fun i wr => ∃ k : Nat, k ≤ a.length ∧ i = .int .i64 k ∧ BlockB wr g (xorz D k) ∧ Below w.heap.size w wr) (fun i _ => a.length - (intOf i).toNat)
        case atStart => exact ⟨0, Nat.zero_le _, rfl, hbl, hbe2⟩
        case round =>
          obtain ⟨k, hk, rfl, hbk, hbe⟩ := hrel
          by_cases hlt : k < a.length
          · obtain ⟨x, hx⟩ : ∃ x, a[k]? = some x := ⟨_, List.getElem?_eq_getElem hlt⟩
            obtain ⟨y, hy⟩ : ∃ y, b[k]? = some y := ⟨_, List.getElem?_eq_getElem (by rw [HLB.out]; exact hlt)⟩
            obtain ⟨z, hz⟩ : ∃ z, c[k]? = some z := ⟨_, List.getElem?_eq_getElem (by rw [HLC.out]; exact hlt)⟩
            have hd : Hid (D[k]? = some (x ^^^ y ^^^ z)) := by show _ = _; rw [HD.out]; exact xor3_get a b c k x y z hx hy hz
            obtain ⟨ba, oa, rfl, cxa⟩ := HIA.out k x hx
            obtain ⟨bb, ob, rfl, cxb⟩ := HIB.out k y hy
            obtain ⟨bc, oc, rfl, cxc⟩ := HIC.out k z hz
            have cxa := (hbe.cell (p := ⟨ba, oa + k, none⟩) (World.block_lt_of_cell? w ⟨ba, oa + k, none⟩ cxa)).trans cxa
            have cxb := (hbe.cell (p := ⟨bb, ob + k, none⟩) (World.block_lt_of_cell? w ⟨bb, ob + k, none⟩ cxb)).trans cxb
            have cxc := (hbe.cell (p := ⟨bc, oc + k, none⟩) (World.block_lt_of_cell? w ⟨bc, oc + k, none⟩ cxc)).trans cxc
            rw [BV_def] at cxa cxb cxc
            have x1 := u8_xor_nat x.toNat y.toNat x.toNat_lt y.toNat_lt
            have x2 := u8_xor_nat (x.toNat ^^^ y.toNat) z.toNat (Nat.xor_lt_two_pow (n := 8) x.toNat_lt y.toNat_lt) z.toNat_lt
            have HBV : Hid (BV (x ^^^ y ^^^ z) = .int .u8 ((x.toNat ^^^ y.toNat ^^^ z.toNat : Nat) : Int)) := by show _ = _; rw [BV_def, UInt8.toNat_xor, UInt8.toNat_xor]
            have hbi : (b.length : Int) = a.length := by rw [HLB.out]
            have hci : (c.length : Int) = a.length := by rw [HLC.out]
            have hbi1 : (k : Int) < b.length := by omega
            have hci1 : (k : Int) < c.length := by omega
            obtain ⟨u, hu⟩ : ∃ u, (xorz D k)[k]? = some u := ⟨_, List.getElem?_eq_getElem (by unfold xorz; simp [HDL.out]; omega)⟩
            have hcg := hbk.cell hu
            have hfg := hbk.free k
            rw [BV_def] at hcg
            clear hx hy hz hu hbi hci
            go_wp2_with fail
            go_region
            all_goals
              clear x1 x2 cxa cxb cxc hcg hfg
              go_wp2_with fail
              go_roundw
              case rel =>
                refine ⟨k + 1, by omega, by go_num, ?_, (hbe.setCell hgs _).drew⟩
                have := hbk.set k (x ^^^ y ^^^ z)
                rw [xorz_set hd.out, HBV.out] at this
                exact this
              case measure => simp [intOf]; omega
          · obtain rfl : k = a.length := by omega
            have hbD : RowB wr (.slice (some ⟨g, 0, none⟩) a.length a.length) D := by
              have e : xorz D a.length = D ++ [] := by unfold xorz; rw [HDL.out, Nat.sub_self, ← HDL.out, List.take_length]; rfl
              rw [e] at hbk
              have := (hbk.own (B := 0) (c := a.length) (Nat.zero_le _) (by rw [HDL.out]; simp) (by unfold maxLen; omega)).row
              rwa [HDL.out] at this
            have H1 := Lib.hid (fun T => csum1_any wr T _ D hbD (by rw [HDL.out]; omega))
            have hsum := csum_xor3 a b c HLB.out HLC.out
            rw [← HD.out] at hsum
            have hA := csum_lt a
            have hB := csum_lt b
            have hC := csum_lt c
            have H2 := Lib.hid (fun w' (hb : Below w.heap.size w w') T => csum1_any w' T _ a (HROW.out w' hb).1 (by omega))
            have H3 := Lib.hid (fun w' (hb : Below w.heap.size w w') T => csum1_any w' T _ b (HROW.out w' hb).2.1 (by rw [HLB.out]; omega))
            have H4 := Lib.hid (fun w' (hb : Below w.heap.size w w') T => csum1_any w' T _ c (HROW.out w' hb).2.2 (by rw [HLC.out]; omega))
            generalize csum a = A at *
            generalize csum b = Bs at *
            generalize csum c = C at *
            rw [hsum] at H1
            have hAB : A ^^^ Bs < 4294967296 := Nat.xor_lt_two_pow (n := 32) hA hB
            have hq1 : bits .xor .u32 (A : Int) (Bs : Int) = ((A ^^^ Bs : Nat) : Int) := u32_xor_nat A Bs hA hB
            have hq2 : bits .xor .u32 ((A ^^^ Bs : Nat) : Int) (C : Int) = ((A ^^^ Bs ^^^ C : Nat) : Int) := u32_xor_nat _ C hAB hC
            obtain ⟨X, hX⟩ : ∃ X, X = A ^^^ Bs := ⟨_, rfl⟩
            obtain ⟨Y, hY⟩ : ∃ Y, Y = X ^^^ C := ⟨_, rfl⟩
            rw [← hX] at hq1 hq2 H1
            rw [← hY] at hq2 H1
            have hyy : ((Y : Int) == Y) = true := by simp
            clear hX hY hAB hA hB hC hsum hbk hbD hlt
            go_wp2_with fail
            refine (H1.out _).mono ?_
            rintro e w3 ⟨rfl, hb3⟩
            have hbe3 := hbe.trans (hb3.mono hbe.size)
            clear H1 hb3 hbe
            go_wp2_with fail
            refine (H2.out w3 hbe3 _).mono ?_
            rintro e w4 ⟨rfl, hb4⟩
            have hbe4 := hbe3.trans (hb4.mono hbe3.size)
            clear H2 hb4 hbe3
            go_wp2_with fail
            refine (H3.out w4 hbe4 _).mono ?_
            rintro e w5 ⟨rfl, hb5⟩
            have hbe5 := hbe4.trans (hb5.mono hbe4.size)
            clear H3 hb5 hbe4
            go_wp2_with fail
            refine (H4.out w5 hbe5 _).mono ?_
            rintro e w6 ⟨rfl, hb6⟩
            have hbe6 := hbe5.trans (hb6.mono hbe5.size)
            clear H4 hb6 hbe5
            go_wp2_with fail
            go_ret
            exact ⟨rfl, hbe6⟩
      · have b1 : ((b.length : Int) != (a.length : Int)) = false := by simp; omega
        have b2 : ((c.length : Int) != (a.length : Int)) = true := by simp; omega
        clear hlc hlb
        go_wp2_with fail
        go_ret
        exact ⟨rfl, hb1⟩
    · have b1 : ((b.length : Int) != (a.length : Int)) = true := by simp; omega
      clear hlb
      go_wp2_with fail
      go_ret
      exact ⟨rfl, hb1⟩
end Go.Proofs.YtjincjgapjekeaaDoor
