/- Scripts: an act's line. -/
import Derived.Test.YtbcpciegdmminaaGreatDoorScV
import Derived.Deep.RegionLaw
namespace Go.Proofs.YtbcpciegdmminaaGreatDoor
open Go Go.RowKit
set_option linter.unusedVariables false
/-- words that are read are appended, at a step of a region that draws its order -/
theorem step_appendL {B : Nat} {w : World} {v : Value} {xs : List Bs} {ops : Array Oper} {o : Oper} {a : Act} {K : Act → World → Prop} {Q : Exit → Act → World → Prop} {EE : Prop}
    (hown : OwnL 9 SV B w v xs) {x' : Value} {ys : List Bs} (hr : RowL SV w x' ys) (h63 : xs.length + ys.length ≤ 1000000) (hbase : B ≤ w.heap.size)
    (hgd : o.guard = none) (s y : Operand) (ho : o.op = .call { callee := .builtin .append, args := #[s, y], argTypes := #[33, 33] }) (hs : a.eval s = v) (hx : a.eval y = x')
    (h : ∀ a' c' w', OwnL 9 SV B w' (.slice a' (xs ++ ys).length c') (xs ++ ys) → w.grownBy w' v.ownBlock → K (a.put o.dst (.slice a' (xs ++ ys).length c')) w') :
    if Region.wanted o (yielded ops a.tmps) = true then Oper.wp Tryz.prog o a w K Q else EE := by
  have hw : Region.wanted o (yielded ops a.tmps) = true := by simp [Region.wanted, hgd]
  rw [if_pos hw]
  obtain ⟨i, hi, hz0, hz1, hz2⟩ := info_parts infoSt
  obtain ⟨v', w', h1, h2, h3, h4, h5⟩ := run_append_src w B 33 33 o.type 9 i _ 1 16 Tryz.underlying33 hi hz0 hz1 hz2 rfl v xs.length (xs.map SV) hown x' ys.length (ys.map SV) (Row.src hr Tryz.underlying33 (by simp) (fun u hu => by
      obtain ⟨q, _, rfl⟩ := List.mem_map.1 hu
      rfl)) (by unfold maxLen; omega) (by omega) hbase
  have h6 : OwnL 9 SV B w' v' (xs ++ ys) := by unfold OwnL; rw [List.length_append, List.map_append]; exact h2
  obtain ⟨a', c', rfl, -, -⟩ := (OwnL.row h6).shape
  exact Lib.wp_append_run _ s y 33 33 ho v _ hs hx _ w' h1 (h a' c' w' h6 h3)
theorem own_drewL {B : Nat} {w : World} {v : Value} {xs : List Bs} (h : OwnL 9 SV B w v xs) : OwnL 9 SV B w.drew v xs := h
theorem wordOf_len (k : Int) : (wordOf k).length ≤ 7 := by
  have h : ∀ w ∈ wordsL, w.length ≤ 7 := by decide
  unfold wordOf
  split
  · by_cases hk : k.toNat < wordsL.length
    · rw [List.getD_eq_getElem?_getD, List.getElem?_eq_getElem hk]
      exact h _ (List.getElem_mem hk)
    · rw [List.getD_eq_getElem?_getD, List.getElem?_eq_none (by omega)]; simp
  · simp
theorem polOf_len (k : Int) : (polOf k).length ≤ 6 := by
  have h : ∀ w ∈ polL, w.length ≤ 6 := by decide
  unfold polOf
  split
  · by_cases hk : k.toNat < polL.length
    · rw [List.getD_eq_getElem?_getD, List.getElem?_eq_getElem hk]
      exact h _ (List.getElem_mem hk)
    · rw [List.getD_eq_getElem?_getD, List.getElem?_eq_none (by omega)]; simp
  · simp
theorem putL_len {α : Type} {p : α → Bs} {l : List α} {N : Nat} (h : ∀ x ∈ l, (p x).length ≤ N) : (putL p l).length ≤ (N + 1) * l.length + 1 := by
  unfold putL
  split
  · simp
  · have := joi_len 44 N (l.map p) (fun x hx => by obtain ⟨y, h1, rfl⟩ := List.mem_map.1 hx; exact h y h1)
    rw [List.length_map] at this
    omega
/-- the words of a right act are few and short -/
theorem rest_len {A : Ac} (h : rightA A = true) : (restA A).length ≤ 4 ∧ ∀ x ∈ restA A, x.length ≤ 2000000 := by
  obtain ⟨k, a, b, c, n, bs, keep, torn⟩ := A
  obtain ⟨hk, hn, l1, l2, l3, h1, h2⟩ := right_parts h
  unfold numb numbered at hn
  have hdi : ∀ x : Int, inN x = true → (decI x).length ≤ 2000000 := fun x hx => by have := decI_len hx; omega
  have hp := polOf_len n
  unfold restA
  simp only at hn ⊢
  by_cases e1 : k = 1
  · rw [if_pos e1]
    refine ⟨by simp, fun x hx => ?_⟩
    rw [List.mem_singleton] at hx
    have := putB_len bs
    rw [hx]; omega
  · rw [if_neg e1]
    by_cases e3 : k = 3 ∨ k = 6 ∨ k = 11
    · rw [if_pos e3] at hn ⊢
      simp only [Bool.and_eq_true] at hn
      exact ⟨by simp, fun x hx => by rw [List.mem_singleton] at hx; rw [hx]; exact hdi _ hn.1⟩
    · rw [if_neg e3] at hn ⊢
      by_cases e5 : k = 5
      · rw [if_pos e5] at hn ⊢
        simp only [Bool.and_eq_true] at hn
        refine ⟨by simp, fun x hx => ?_⟩
        simp only [List.mem_cons, List.not_mem_nil, or_false] at hx
        rcases hx with rfl | rfl
        · exact hdi _ hn.1.1
        · exact hdi _ hn.1.2
      · rw [if_neg e5] at hn ⊢
        by_cases e4 : k = 4
        · rw [if_pos e4] at hn ⊢
          simp only [Bool.and_eq_true] at hn
          refine ⟨by simp, fun x hx => ?_⟩
          simp only [List.mem_cons, List.not_mem_nil, or_false] at hx
          rcases hx with rfl | rfl | rfl | rfl
          · exact hdi _ hn.1.1.1
          · exact hdi _ hn.1.1.2
          · exact hdi _ hn.1.2
          · omega
        · rw [if_neg e4] at hn ⊢
          by_cases e8 : k = 8
          · rw [if_pos e8] at hn ⊢
            simp only [Bool.and_eq_true, Bool.or_eq_true, beq_iff_eq] at hn
            by_cases ea : a = -1
            · rw [if_pos ea]
              exact ⟨by simp, fun x hx => by rw [List.mem_singleton] at hx; rw [hx]; decide⟩
            · rw [if_neg ea]
              exact ⟨by simp, fun x hx => by rw [List.mem_singleton] at hx; rw [hx]; exact hdi _ (hn.1.resolve_right ea)⟩
          · rw [if_neg e8]
            by_cases e9 : k = 9
            · rw [if_pos e9]
              refine ⟨by simp, fun x hx => ?_⟩
              simp only [List.mem_cons, List.not_mem_nil, or_false] at hx
              rcases hx with rfl | rfl | rfl | rfl
              · decide
              · have := putL_len (p := decI) (l := keep) (N := 9) (fun x hx => decI_len (List.all_eq_true.1 h1 x hx))
                omega
              · decide
              · have := putL_len (p := putT) (l := torn) (N := 8300) (fun x hx => by
                  have hok := List.all_eq_true.1 h2 x hx
                  unfold tornOk at hok
                  simp only [Bool.and_eq_true, decide_eq_true_eq] at hok
                  have := putT_len hok.1
                  omega)
                omega
            · rw [if_neg e9]; exact ⟨by simp, fun x hx => by cases hx⟩
def lineR (A : Ac) : Bs := if rightA A then lineA A else []
set_option maxRecDepth 100000 in
set_option maxHeartbeats 4000000 in
theorem line_any {w : World} {k a b c n : Int} {vb vk vt : Value} {bs : Bs} {keep : List Int} {torn : List (Int × Bs)} (hp : PowAt w) (hW : WordsAt w) (hkl : keep.length ≤ 2000000) (htl : torn.length ≤ 2000000) (hA : ActI w vb vk vt bs keep torn) :
    Calls Tryz.prog 13 #[.agg (acCells k a b c n vb vk vt)] w fun e w' => e = .returned (.string (strB (lineR ⟨k, a, b, c, n, bs, keep, torn⟩))) ∧ Below w.heap.size w w' := by
  obtain ⟨W0, hW0⟩ : ∃ W0, W0 = w.alloc (.cells (acCells k a b c n vb vk vt) 26) := ⟨_, rfl⟩
  obtain ⟨g, hg⟩ : ∃ g, g = w.heap.size := ⟨_, rfl⟩
  have hb : Below w.heap.size w W0 := by rw [hW0]; exact (Below.refl _ _).alloc (Nat.le_refl _) _
  have hc : CellsAt W0 g 26 (acCells k a b c n vb vk vt) := by rw [hW0, hg]; exact CellsAt.new w _ _
  have HC : Hid (∀ W, Below W0.heap.size W0 W → CellsAt W g 26 (acCells k a b c n vb vk vt)) := fun W h => hc.stays h
  have HR := Lib.hid (right_any (k := k) (a := a) (b := b) (c := c) (n := n) (hW.stays hb) hkl htl (hA.stays hb))
  have HWD : Hid (∀ W, Below W0.heap.size W0 W → Calls Tryz.prog 16 #[.int .i64 k] W fun e w' => e = .returned (.string (strB (wordOf k))) ∧ w' = W) := fun W h => word_any ((hW.stays hb).stays h) k
  have HRE : Hid (rightA ⟨k, a, b, c, n, bs, keep, torn⟩ = true → ∀ W, Below W0.heap.size W0 W → Calls Tryz.prog 31 #[.agg #[.int .i64 k, .int .i64 a, .int .i64 b, .int .i64 c, .int .i64 n, vb, vk, vt]] W (RestPost W (restA ⟨k, a, b, c, n, bs, keep, torn⟩))) := fun hr W h => rest_any ((hp.stays hb).stays h) ((hA.stays hb).stays h) hr
  have HLEN : Hid (rightA ⟨k, a, b, c, n, bs, keep, torn⟩ = true → (restA ⟨k, a, b, c, n, bs, keep, torn⟩).length ≤ 4 ∧ ∀ x ∈ restA ⟨k, a, b, c, n, bs, keep, torn⟩, x.length ≤ 2000000) := rest_len
  have HLI : Hid (lineR ⟨k, a, b, c, n, bs, keep, torn⟩ = if rightA ⟨k, a, b, c, n, bs, keep, torn⟩ then joi 32 ([wordOf k] ++ restA ⟨k, a, b, c, n, bs, keep, torn⟩) else []) := rfl
  obtain ⟨c0, c1, c2, c3, c4, c5, c6, c7⟩ : W0.cell? ⟨g, 0, none⟩ = some (.int .i64 k) ∧ W0.cell? ⟨g, 1, none⟩ = some (.int .i64 a) ∧ W0.cell? ⟨g, 2, none⟩ = some (.int .i64 b) ∧ W0.cell? ⟨g, 3, none⟩ = some (.int .i64 c) ∧ W0.cell? ⟨g, 4, none⟩ = some (.int .i64 n) ∧ W0.cell? ⟨g, 5, none⟩ = some vb ∧ W0.cell? ⟨g, 6, none⟩ = some vk ∧ W0.cell? ⟨g, 7, none⟩ = some vt :=
    ⟨hc.cell 0 rfl, hc.cell 1 rfl, hc.cell 2 rfl, hc.cell 3 rfl, hc.cell 4 rfl, hc.cell 5 rfl, hc.cell 6 rfl, hc.cell 7 rfl⟩
  have HCS : Hid (∀ W, Below W0.heap.size W0 W → W.cell? ⟨g, 0, none⟩ = some (.int .i64 k) ∧ W.cell? ⟨g, 1, none⟩ = some (.int .i64 a) ∧ W.cell? ⟨g, 2, none⟩ = some (.int .i64 b) ∧ W.cell? ⟨g, 3, none⟩ = some (.int .i64 c) ∧ W.cell? ⟨g, 4, none⟩ = some (.int .i64 n) ∧ W.cell? ⟨g, 5, none⟩ = some vb ∧ W.cell? ⟨g, 6, none⟩ = some vk ∧ W.cell? ⟨g, 7, none⟩ = some vt) := fun W h =>
    ⟨(HC.out W h).cell 0 rfl, (HC.out W h).cell 1 rfl, (HC.out W h).cell 2 rfl, (HC.out W h).cell 3 rfl, (HC.out W h).cell 4 rfl, (HC.out W h).cell 5 rfl, (HC.out W h).cell 6 rfl, (HC.out W h).cell 7 rfl⟩
  have HW := Lib.hid hW0
  have HG := Lib.hid hg
  have HB := Lib.hid hb
  generalize lineR ⟨k, a, b, c, n, bs, keep, torn⟩ = LL at HLI ⊢
  generalize restA ⟨k, a, b, c, n, bs, keep, torn⟩ = RR at HRE HLEN HLI
  generalize rightA ⟨k, a, b, c, n, bs, keep, torn⟩ = BB at HR HRE HLEN HLI
  have hwl := wordOf_len k
  obtain ⟨WD, hWD⟩ : ∃ WD, WD = wordOf k := ⟨_, rfl⟩
  rw [← hWD] at HLI HWD hwl
  clear hW0 hg hb hc hA hp hW hkl htl HC hWD
  go_enter Tryz.func13, Tryz.ntmps13
  go_upto_region 1 with fail
  rw [← HW.out, ← HG.out]
  clear HW HG
  go_wp2_with fail
  refine HR.out.mono ?_
  rintro e w1 ⟨rfl, hb1⟩
  obtain ⟨d0, d1, d2, d3, d4, d5, d6, d7⟩ := HCS.out w1 hb1
  have HB1 := Lib.hid hb1
  clear HR c0 c1 c2 c3 c4 c5 c6 c7 hb1
  cases BB with
  | false =>
    have HZ : Hid (LL = []) := by show _ = _; rw [HLI.out]; rfl
    clear HLI HLEN HRE
    go_wp2_with fail
    go_ret
    exact ⟨by rw [HZ.out]; rfl, HB.out.trans (HB1.out.mono HB.out.size)⟩
  | true =>
    have HZ : Hid (LL = joi 32 ([WD] ++ RR)) := by show _ = _; rw [HLI.out]; rfl
    have HRE2 : Hid (∀ W, Below w1.heap.size w1 W → Calls Tryz.prog 31 #[.agg #[.int .i64 k, .int .i64 a, .int .i64 b, .int .i64 c, .int .i64 n, vb, vk, vt]] W (RestPost W RR)) := fun W h => HRE.out rfl W (HB1.out.trans (h.mono HB1.out.size))
    have HWD2 : Hid (∀ W, Below w1.heap.size w1 W → Calls Tryz.prog 16 #[.int .i64 k] W fun e w' => e = .returned (.string (strB WD)) ∧ w' = W) := fun W h => HWD.out W (HB1.out.trans (h.mono HB1.out.size))
    have HCS2 : Hid (∀ W, Below w1.heap.size w1 W → W.cell? ⟨g, 0, none⟩ = some (.int .i64 k) ∧ W.cell? ⟨g, 1, none⟩ = some (.int .i64 a) ∧ W.cell? ⟨g, 2, none⟩ = some (.int .i64 b) ∧ W.cell? ⟨g, 3, none⟩ = some (.int .i64 c) ∧ W.cell? ⟨g, 4, none⟩ = some (.int .i64 n) ∧ W.cell? ⟨g, 5, none⟩ = some vb ∧ W.cell? ⟨g, 6, none⟩ = some vk ∧ W.cell? ⟨g, 7, none⟩ = some vt) := fun W h => HCS.out W (HB1.out.trans (h.mono HB1.out.size))
    obtain ⟨hl1, hl2⟩ := HLEN.out rfl
    have hjl : ([WD] ++ RR).length ≤ 1000000 := by simp; omega
    have hjs : (joi 32 ([WD] ++ RR)).length ≤ 1000000000 := by
      have := joi_len 32 2000000 ([WD] ++ RR) (fun x hx => by
        rcases List.mem_append.1 hx with h | h
        · rw [List.mem_singleton] at h; rw [h]; omega
        · exact hl2 x h)
      have h2 : ([WD] ++ RR).length ≤ 5 := by simp; omega
      omega
    have HJ : Hid (∀ (W : World) (a' : Option Addr) (c' : Nat), OwnL 9 SV w1.heap.size W (.slice a' ([WD] ++ RR).length c') ([WD] ++ RR) → Calls Tryz.prog 30 #[.slice a' ([WD] ++ RR).length c', .string ⟨#[32]⟩] W fun e w' => e = .returned (.string (strB LL)) ∧ Below W.heap.size W w') := fun W a' c' h => by
      rw [HZ.out]
      exact join_any 32 (OwnL.row h) hjl hjs
    have HLN : Hid ([WD].length + RR.length ≤ 1000000) := by show _ ≤ _; rw [← List.length_append]; exact hjl
    obtain ⟨XS, hXS⟩ : ∃ XS, XS = [WD] ++ RR := ⟨_, rfl⟩
    rw [← hXS] at HJ HZ
    have HXS := Lib.hid hXS
    have hd0 : Below w1.heap.size w1 w1 := Below.refl _ _
    have hd1 : Below w1.heap.size w1 w1.drew := hd0.drew
    clear HLI HRE HWD HCS HLEN hl1 hl2 hjl hjs hXS
    have hgl : g < w1.heap.size := World.block_lt_of_cell? w1 _ d0
    go_wp2_with fail
    go_region_law ((first
      | (go_simp; go_at_call 16; (with_reducible refine (HWD2.out _ hd1).mono ?_); rintro e w2 ⟨rfl, rfl⟩)
      | (go_simp; go_at_call 31; (with_reducible refine (HRE2.out _ hd1).mono ?_); rintro e w3 ⟨v3, rfl, ho3, hb3⟩; have hd3 := hd1.trans (hb3.mono hd1.size); obtain ⟨e0, e1, e2, e3, e4, e5, e6, e7⟩ := HCS2.out w3 hd3)
      | (go_simp; go_at_call 31; (with_reducible refine (HRE2.out _ (hd0.alloc hd0.size _).drew).mono ?_); rintro e w3 ⟨v3, rfl, ho3, hb3⟩; have hd3 := (hd0.alloc hd0.size _).drew.trans (hb3.mono (hd0.alloc hd0.size _).drew.size); obtain ⟨e0, e1, e2, e3, e4, e5, e6, e7⟩ := HCS2.out w3 hd3)
      | (refine step_appendL (B := w1.heap.size) (xs := [WD]) (own_stays (own_drewL (lit_own w1 (Nat.le_refl _) [WD] _ rfl (by simp))) hb3) (OwnL.row ho3) HLN.out hd3.size (by rfl) _ _ (by rfl) (by rfl) (by rfl) ?_; rw [← HXS.out]; intro a4 c4 w4 ho4 hg4; have hd4 := hd3.grown hg4 hd3.size (fun k hk => by cases hk; exact Nat.le_refl _))
      | (refine step_appendL (B := w1.heap.size) (xs := [WD]) (lit_own w3 hd3.size [WD] _ rfl (by simp)) ((OwnL.alloc ho3 _).row) HLN.out (hd3.alloc hd3.size _).size (by rfl) _ _ (by rfl) (by rfl) (by rfl) ?_; rw [← HXS.out]; intro a4 c4 w4 ho4 hg4; have hd4 := (hd3.alloc hd3.size _).grown hg4 (hd3.alloc hd3.size _).size (fun k hk => by cases hk; exact hd3.size))
      | (go_simp; go_at_call 30; (with_reducible refine (HJ.out _ _ _ ho4).mono ?_); rintro e w5 ⟨rfl, hb5⟩; have hd5 := hd4.trans (hb5.mono hd4.size))))
    all_goals
      have HB5 := Lib.hid (HB.out.trans (HB1.out.mono HB.out.size))
    all_goals
      go_wp2_with fail
      go_ret
      exact ⟨rfl, HB5.out.trans (hd5.mono HB5.out.size)⟩
end Go.Proofs.YtbcpciegdmminaaGreatDoor
