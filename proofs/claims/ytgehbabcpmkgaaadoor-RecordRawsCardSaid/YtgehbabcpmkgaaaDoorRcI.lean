/- A record's bytes: the reference's Put, record.Put. -/
import Derived.Test.YtgehbabcpmkgaaaDoorRcH
import Derived.Test.YtgehbabcpmkgaaaDoorJoin
import Derived.Test.YtgehbabcpmkgaaaDoorVputR
import Derived.Deep.RegionWith
namespace Go.Proofs.YtgehbabcpmkgaaaDoor
open Go Go.RowKit
set_option linter.unusedVariables false
theorem rtail_1 {n : Int} {bits : Nat} {text raw : List UInt8} : rput ⟨n, 1, bits, text, raw⟩ = vput (tcode n 1) ++ fput 8 bits := rfl
theorem rtail_5 {n : Int} {bits : Nat} {text raw : List UInt8} : rput ⟨n, 5, bits, text, raw⟩ = vput (tcode n 5) ++ fput 4 bits := rfl
theorem rtail_2 {n : Int} {bits : Nat} {text raw : List UInt8} : rput ⟨n, 2, bits, text, raw⟩ = vput (tcode n 2) ++ (vput text.length ++ text) := rfl
theorem rtail_0 {n : Int} {bits : Nat} {text raw : List UInt8} : rput ⟨n, 0, bits, text, raw⟩ = vput (tcode n 0) ++ vput bits := rfl
section
variable (n k : Int) (bits : Nat) (text raw : List UInt8) (w : World) (hc : rcheck ⟨n, k, bits, text, raw⟩ = 0) (hb : bits < 18446744073709551616) (hl : text.length ≤ 1000)
include hc hb hl
set_option maxRecDepth 100000 in
set_option maxHeartbeats 4000000 in
theorem rcPutR_any :
    Calls Tryd.prog 61 #[.agg #[.int .i64 n, .int .i64 k, .int .u64 bits, .string (strB text), .string (strB raw)]] w fun e w' => ∃ v', e = .returned v' ∧ OwnB w.heap.size w' v' (rput ⟨n, k, bits, text, raw⟩) ∧ Below w.heap.size w w' := by
  obtain ⟨ht, hform, hrange⟩ := rcheck_zero hc
  obtain ⟨h1, h2, hk⟩ := tcheck_zero ht
  replace hk : k = 0 ∨ k = 1 ∨ k = 2 ∨ k = 5 := hk
  have hb0 : Below w.heap.size w (w.alloc (.cells #[.int .i64 n, .int .i64 k, .int .u64 bits, .string (strB text), .string (strB raw)] 73)) := (Below.refl _ _).alloc (Nat.le_refl _) _
  have hct := CellsAt.new w #[.int .i64 n, .int .i64 k, .int .u64 bits, .string (strB text), .string (strB raw)] 73
  have hbi : (bits : Int) ≤ 18446744073709551615 := by omega
  have hsz := strB_size text
  have hq := vput_len10 (tcode n k) (tcode_lt (by exact h2) (by omega))
  have HP := Lib.hid (tPutR_any n k (w.alloc (.cells #[.int .i64 n, .int .i64 k, .int .u64 bits, .string (strB text), .string (strB raw)] 73)) (by exact h1) (by exact h2) (by omega) (by omega))
  have HW0 : Hid (w.heap.size < (w.alloc (.cells #[.int .i64 n, .int .i64 k, .int .u64 bits, .string (strB text), .string (strB raw)] 73)).heap.size) := hct.lt
  have HCT := Lib.hid hct
  have HB0 := Lib.hid hb0
  have HFO := Lib.hid hform
  have HBB := Lib.hid hb
  clear hc ht hform hrange hct hb0 hb
  go_enter Tryd.func61, Tryd.ntmps61
  go_wp2_with fail
  refine HP.out.mono ?_
  rintro e w1 ⟨v1, rfl, ho1, hb1⟩
  have hc1 := HCT.out.stays hb1
  generalize w.alloc (.cells #[.int .i64 n, .int .i64 k, .int .u64 bits, .string (strB text), .string (strB raw)] 73) = W0 at HW0 HCT HB0 HP ho1 hb1
  have hbe1 : Below W0.heap.size W0 w1 := hb1
  have ho1' : OwnB W0.heap.size w1 v1 (vput (tcode n k)) := ho1
  have c1 := hc1.cell 1 (v := .int .i64 k) rfl
  have c2 := hc1.cell 2 (v := .int .u64 bits) rfl
  have c3 := hc1.cell 3 (v := .string (strB text)) rfl
  have hs1 := hbe1.size
  have HBE1 := Lib.hid hbe1
  have HC1 := Lib.hid hc1
  clear HP HCT ho1 hb1 hbe1 hc1
  rcases hk with rfl | rfl | rfl | rfl
  · have HV := Lib.hid (vPutR_all bits w1 HBB.out)
    have HRP : Hid (rput ⟨n, 0, bits, text, raw⟩ = vput (tcode n 0) ++ vput bits) := rtail_0
    generalize vput (tcode n 0) = q at ho1' hq HRP
    have hvl := vput_len10 bits HBB.out
    go_wp2_with fail
    refine HV.out.mono ?_
    rintro e w2 ⟨v2, rfl, ho2, hb2⟩
    have ho1w : OwnB W0.heap.size w2 v1 q := ho1'.stays hb2
    have hr2 := ho2.row
    have hbe2 := HBE1.out.trans (hb2.mono hs1)
    have hs2 := hbe2.size
    clear HV ho1' ho2 hb2 HBE1
    go_wp2_with (at_builtin; go_must (refine wpList_appendB ho1w hr2 (by omega) hs2 rfl _ _ rfl rfl rfl ?_))
    intro v5 w5 ho5 hg5 hn5 _
    have hbe5 := OwnB.below ho1w hbe2 hg5 hs2
    clear ho1w hr2 hg5
    go_wp2_with fail
    go_ret
    exact ⟨v5, rfl, by rw [HRP.out]; exact ho5.mono HB0.out.size, HB0.out.trans (hbe5.mono HB0.out.size)⟩
  · have HV := Lib.hid (rput_any v1 (vput (tcode n 1)) bits 8 w1 HBB.out (by omega) (by decide) ho1'.row)
    clear ho1'
    go_wp2_with fail
    refine HV.out.mono ?_
    rintro e w2 ⟨v2, rfl, ho2, hb2⟩
    have hbe2 := HBE1.out.trans (hb2.mono hs1)
    go_wp2_with fail
    go_ret
    exact ⟨v2, rfl, ho2.mono (Nat.le_trans HB0.out.size hs1), HB0.out.trans (hbe2.mono HB0.out.size)⟩
  · have HV := Lib.hid (vPutR_all text.length w1 (by omega))
    have HRP : Hid (rput ⟨n, 2, bits, text, raw⟩ = vput (tcode n 2) ++ (vput text.length ++ text)) := rtail_2
    generalize vput (tcode n 2) = q at ho1' hq HRP
    have hvl := vput_len10 text.length (by omega)
    go_wp2_with fail
    refine HV.out.mono ?_
    rintro e w2 ⟨v2, rfl, ho2, hb2⟩
    have ho1w : OwnB W0.heap.size w2 v1 q := ho1'.stays hb2
    have hr2 := ho2.row
    have hbe2 := HBE1.out.trans (hb2.mono hs1)
    have hs2 := hbe2.size
    have hc2 := HC1.out.stays hb2
    have hkl : ∀ i, v1.ownBlock = some i → i ≠ w.heap.size := fun i hi => by
      have := (ho1w.lt i hi).1
      have := HW0.out
      omega
    clear HV ho1' ho2 hb2 HBE1 c1 c2 c3
    go_wp2_with (at_builtin; go_must (refine wpList_appendB ho1w hr2 (by omega) hs2 rfl _ _ rfl rfl rfl ?_))
    intro v5 w5 ho5 hg5 hn5 _
    have hbe5 := OwnB.below ho1w hbe2 hg5 hs2
    have hs5 := hbe5.size
    have hc5 := hc2.grown hg5 (fun h => hkl _ h rfl)
    have c3 := hc5.cell 3 (v := .string (strB text)) rfl
    clear ho1w hr2 hg5 hc2 hc5
    go_wp2_with (at_builtin; go_must (refine wpList_appendStr ho5 (strB text) text rfl (by rw [List.length_append]; omega) hs5 rfl _ _ rfl rfl rfl ?_))
    intro v6 w6 ho6 hg6 hn6
    have hbe6 := OwnB.below ho5 hbe5 hg6 hs5
    clear ho5 hg6
    go_wp2_with fail
    go_ret
    exact ⟨v6, rfl, by rw [HRP.out]; exact ho6.mono HB0.out.size, HB0.out.trans (hbe6.mono HB0.out.size)⟩
  · have HV := Lib.hid (rput_any v1 (vput (tcode n 5)) bits 4 w1 HBB.out (by omega) (by decide) ho1'.row)
    clear ho1'
    go_wp2_with fail
    refine HV.out.mono ?_
    rintro e w2 ⟨v2, rfl, ho2, hb2⟩
    have hbe2 := HBE1.out.trans (hb2.mono hs1)
    go_wp2_with fail
    go_ret
    exact ⟨v2, rfl, ho2.mono (Nat.le_trans HB0.out.size hs1), HB0.out.trans (hbe2.mono HB0.out.size)⟩
end
/-- two slices in a new block -/
theorem row2R (w : World) (T : TypeId) (x y : Value) (p q : List UInt8) : RowL Prod.fst (w.alloc (.cells #[x, y] T)) (.slice (some ⟨w.heap.size, 0, none⟩) 2 2) [(x, p), (y, q)] := by
  refine .inr ⟨w.heap.size, 0, 2, rfl, Nat.le_refl _, by decide, by simp, fun j u hj => ?_⟩
  rw [Nat.zero_add, cell_of_row (w.alloc (.cells #[x, y] T)) w.heap.size j _ T (0, 0) (heap_alloc_new w _)]
  simpa using hj
theorem joined2R (x y : Value) (p q : List UInt8) : joined [(x, p), (y, q)] = p ++ q := by simp [joined]
/-- []byte(s) -/
theorem conv_bytesR (bs : List UInt8) (w : World) (hl : bs.length ≤ 1000000) : ∃ p : Nat × World, (convert 9 23 (.string (strB bs))).run Tryd.prog w = .ok (.slice (some ⟨w.heap.size, 0, none⟩) bs.length p.1) p.2 ∧ RowB p.2 (.slice (some ⟨w.heap.size, 0, none⟩) bs.length p.1) bs ∧ Below w.heap.size w p.2 := by
  have hsz := strB_size bs
  have hrun := run_bytes_of_string (P := Tryd.prog) w 9 23 5 (strB bs) Tryd.underlying9 Tryd.underlying23 Tryd.underlying5
  have hge := grownCap_ge w (strB bs).size 0 5
  have hle := grownCap_le_maxLen w (strB bs).size 0 5 (by rw [hsz]; unfold maxLen; omega)
  generalize grownCap w (strB bs).size 0 5 = C at *
  rw [hsz] at hrun
  refine ⟨(C, _), hrun, ?_, ((Below.refl _ _).drew).alloc (Nat.le_refl _) _⟩
  rw [hsz] at hge
  have hh := heap_alloc_new w.drew (.cells (bytesRow (strB bs) C) 5 ((bytesRow (strB bs) C).size, (bytesRow (strB bs) C).size + 1))
  refine .inr ⟨w.heap.size, 0, C, rfl, hge, hle, lt_of_block hh, fun j u hu => ?_⟩
  rw [Nat.zero_add]
  refine (cell_of_row _ _ _ _ _ _ hh).trans ?_
  rw [List.getElem?_map] at hu
  obtain ⟨x, hx, rfl⟩ := Option.map_eq_some_iff.1 hu
  obtain ⟨hj, rfl⟩ := List.getElem?_eq_some_iff.1 hx
  rw [bytesRow_at (strB bs) C j (by simpa [strB] using hj)]
  simp [strB, BV]
section
variable (n k : Int) (bits : Nat) (text raw : List UInt8) (w : World) (hn1 : -9223372036854775808 ≤ n) (hn2 : n ≤ 9223372036854775807) (hk1 : -9223372036854775808 ≤ k) (hk2 : k ≤ 9223372036854775807) (hb : bits < 18446744073709551616) (hl : text.length ≤ 1000)
include hn1 hn2 hk1 hk2 hb hl
set_option maxRecDepth 100000 in
set_option maxHeartbeats 4000000 in
theorem rcPut_any (ea : Nat → Addr) (he1 : ErrAt w 2 (ea 1)) (he5 : ErrAt w 10 (ea 5)) (he6 : ErrAt w 11 (ea 6)) (he9 : ErrAt w 4 (ea 9)) (he12 : ErrAt w 1 (ea 12)) :
    Calls Tryd.prog 59 #[.agg #[.int .i64 n, .int .i64 k, .int .u64 bits, .string (strB text), .string (strB raw)]] w fun e w' => ∃ v', e = .returned (.tuple #[v', EV ea (rcheck ⟨n, k, bits, text, raw⟩)]) ∧ OwnB w.heap.size w' v' (if rcheck ⟨n, k, bits, text, raw⟩ = 0 then rput ⟨n, k, bits, text, raw⟩ else []) ∧ Below w.heap.size w w' := by
  have hb0 : Below w.heap.size w (w.alloc (.cells #[.int .i64 n, .int .i64 k, .int .u64 bits, .string (strB text), .string (strB raw)] 69)) := (Below.refl _ _).alloc (Nat.le_refl _) _
  have hct := CellsAt.new w #[.int .i64 n, .int .i64 k, .int .u64 bits, .string (strB text), .string (strB raw)] 69
  have HC := Lib.hid (rcCheck_any n k bits text raw (w.alloc (.cells #[.int .i64 n, .int .i64 k, .int .u64 bits, .string (strB text), .string (strB raw)] 69)) hn1 hn2 hk1 hk2 hb (by omega) ea (he1.stays hb0) (he5.stays hb0) (he6.stays hb0) (he9.stays hb0) (he12.stays hb0))
  have hbi : (bits : Int) ≤ 18446744073709551615 := by omega
  have hsz := strB_size text
  have HTP : Hid (∀ W, Below w.heap.size w W → Calls Tryd.prog 103 #[.agg #[.int .i64 n, .int .i64 k]] W fun e w' => ∃ v', e = .returned (.tuple #[v', EV ea (tcheck n k)]) ∧ OwnB W.heap.size w' v' (tput n k) ∧ Below W.heap.size W w') := fun W h => tPut_any ea n k W hn1 hn2 hk1 hk2 (he5.stays h) (he6.stays h) (he12.stays h)
  have HCT := Lib.hid hct
  have HB0 := Lib.hid hb0
  have HBB := Lib.hid hb
  clear he1 he5 he6 he9 he12 hct hb0 hb
  by_cases hc : rcheck ⟨n, k, bits, text, raw⟩ = 0
  · obtain ⟨ht, hform, hrange⟩ := rcheck_zero hc
    obtain ⟨h1, h2, hk⟩ := tcheck_zero ht
    replace hk : k = 0 ∨ k = 1 ∨ k = 2 ∨ k = 5 := hk
    have hq := vput_len10 (tcode n k) (tcode_lt (by exact h2) (by omega))
    have htp : tput n k = vput (tcode n k) := if_pos ht
    rw [if_pos hc, hc]
    rw [hc] at HC
    rw [show tcheck n k = 0 from ht, htp] at HTP
    have hr32 : k = 5 → bits < 4294967296 := fun h => by
      by_cases h9 : 4294967295 < bits
      · exact absurd ⟨h, h9⟩ hrange
      · omega
    have HR32 := Lib.hid hr32
    rw [EV_zero] at HC HTP ⊢
    clear hc ht hform hrange htp hr32
    go_enter Tryd.func59, Tryd.ntmps59
    go_wp2_with fail
    refine HC.out.mono ?_
    rintro e w1 ⟨rfl, hb1⟩
    have hc1 := HCT.out.stays hb1
    have hbe1 := HB0.out.trans (hb1.mono HB0.out.size)
    have hHT := HTP.out w1 hbe1
    have HHT := Lib.hid hHT
    have c0 := hc1.cell 0 (v := .int .i64 n) rfl
    have c1 := hc1.cell 1 (v := .int .i64 k) rfl
    have HC1 := Lib.hid hc1
    have HBE1 := Lib.hid hbe1
    have hs1 := hbe1.size
    clear HC HCT HB0 HTP hb1 hbe1 hc1 hHT
    go_wp2_with fail
    refine HHT.out.mono ?_
    rintro e w2 ⟨v2, rfl, ho2, hb2⟩
    have hc2 := HC1.out.stays hb2
    have hbe2 := HBE1.out.trans (hb2.mono hs1)
    have hs2 := hbe2.size
    have c1 := hc2.cell 1 (v := .int .i64 k) rfl
    have c2 := hc2.cell 2 (v := .int .u64 bits) rfl
    have c3 := hc2.cell 3 (v := .string (strB text)) rfl
    have HC2 := Lib.hid hc2
    have HBE2 := Lib.hid hbe2
    clear HHT HC1 HBE1 hb2 hc2 hbe2
    rcases hk with rfl | rfl | rfl | rfl
    · have HV := Lib.hid (vPut_any v2 (vput (tcode n 0)) bits w2 HBB.out (by omega) ho2.row)
      clear ho2
      go_wp2_with fail
      refine HV.out.mono ?_
      rintro e w3 ⟨v3, rfl, ho3, hb3⟩
      have hbe3 := HBE2.out.trans (hb3.mono hs2)
      go_wp2_with fail
      go_ret2
      exact ⟨v3, rfl, by rw [rtail_0]; exact ho3.mono hs2, hbe3⟩
    · have HV := Lib.hid (put64_any v2 (vput (tcode n 1)) bits w2 HBB.out (by omega) ho2.row)
      clear ho2
      go_wp2_with fail
      refine HV.out.mono ?_
      rintro e w3 ⟨v3, rfl, ho3, hb3⟩
      have hbe3 := HBE2.out.trans (hb3.mono hs2)
      go_wp2_with fail
      go_ret2
      exact ⟨v3, rfl, by rw [rtail_1]; exact ho3.mono hs2, hbe3⟩
    · obtain ⟨cv, hcv⟩ := Classical.axiomOfChoice (fun W => conv_bytesR text W (by omega))
      have hq1 : ∀ W : World, (convert 9 23 (.string (strB text))).run Tryd.prog W = .ok (.slice (some ⟨W.heap.size, 0, none⟩) text.length (cv W).1) (cv W).2 := fun W => (hcv W).1
      have HQ2 : Hid (∀ W : World, RowB (cv W).2 (.slice (some ⟨W.heap.size, 0, none⟩) text.length (cv W).1) text ∧ Below W.heap.size W (cv W).2) := fun W => (hcv W).2
      obtain ⟨a2, c2', hv2, -, -⟩ := ho2.row.gen.shape
      obtain ⟨Q, hQ⟩ : ∃ Q, Q = vput (tcode n 2) ++ vput text.length := ⟨_, rfl⟩
      have HQ : Hid (rput ⟨n, 2, bits, text, raw⟩ = Q ++ text) := by show _ = _; rw [rtail_2, hQ, List.append_assoc]
      have hQl : Q.length ≤ 20 := by
        have := vput_len10 text.length (by omega)
        rw [hQ, List.length_append]; omega
      have HV : Hid (∀ W, Below w2.heap.size w2 W → Calls Tryd.prog 81 #[v2, .int .u64 text.length] W fun e w' => ∃ v', e = .returned v' ∧ OwnB W.heap.size w' v' Q ∧ Below W.heap.size W w') := fun W h => by rw [hQ]; exact vPut_any v2 (vput (tcode n 2)) text.length W (by omega) (by omega) (ho2.row.stays h)
      have HJ : Hid (∀ (W : World) (a3 : Option Addr) (c3 g C : Nat) (T : TypeId), Below w2.heap.size w2 W → RowB W (.slice a3 Q.length c3) Q → RowB W (.slice (some ⟨g, 0, none⟩) text.length C) text → Calls Tryd.prog 75 #[.slice (some ⟨W.heap.size, 0, none⟩) 2 2] (W.alloc (.cells #[.slice a3 Q.length c3, .slice (some ⟨g, 0, none⟩) text.length C] T)) fun e w' => ∃ v', e = .returned v' ∧ OwnB w2.heap.size w' v' (Q ++ text) ∧ Below w2.heap.size w2 w') := fun W a3 c3 g C T hb h1 h2 => by
        have hbn : Below W.heap.size W (W.alloc (.cells #[.slice a3 Q.length c3, .slice (some ⟨g, 0, none⟩) text.length C] T)) := (Below.refl _ _).alloc (Nat.le_refl _) _
        have hJ := join_any (.slice (some ⟨W.heap.size, 0, none⟩) 2 2) [(.slice a3 Q.length c3, Q), (.slice (some ⟨g, 0, none⟩) text.length C, text)] (W.alloc (.cells #[.slice a3 Q.length c3, .slice (some ⟨g, 0, none⟩) text.length C] T)) (row2R W T _ _ _ _)
          (fun p hp => by
            simp only [List.mem_cons, List.not_mem_nil, or_false] at hp
            rcases hp with rfl | rfl
            · exact h1.stays hbn
            · exact h2.stays hbn) (by rw [joined2R]; simp; omega) (by simp)
        rw [joined2R] at hJ
        have hbB := hb.trans (hbn.mono hb.size)
        exact hJ.mono fun e w' ⟨v', h3, h4, h5⟩ => ⟨v', h3, h4.mono hbB.size, hbB.trans (h5.mono hbB.size)⟩
      have kt : IntKind.u64.wrap (text.length : Int) = text.length := IntWalk.u64_in _ (by omega)
      have hbd : Below w2.heap.size w2 w2.drew := (Below.refl _ _).drew
      have hbc : Below w2.heap.size w2 (cv w2.drew).2 := hbd.trans ((HQ2.out w2.drew).2.mono hbd.size)
      have c3C := (HC2.out.stays hbc).cell 3 (v := .string (strB text)) rfl
      subst hv2
      clear hcv ho2 hQ
      go_upto_region 13 with fail
      go_region_with ((first
        | (go_at_call 81; (with_reducible refine (HV.out _ hbd).mono ?_); rintro e wA ⟨vA, rfl, hoA, hbA⟩; obtain ⟨aA, cA, rfl, -, -⟩ := hoA.row.gen.shape; have hb1 : Below w2.heap.size w2 wA := hbd.trans (hbA.mono hbd.size); have c3A := (HC2.out.stays hb1).cell 3 (v := .string (strB text)) rfl; have hb2 : Below w2.heap.size w2 (cv wA).2 := hb1.trans ((HQ2.out wA).2.mono hb1.size); have HJ1 := Lib.hid (HJ.out (cv wA).2 aA cA wA.heap.size (cv wA).1 23 hb2 (hoA.row.stays (HQ2.out wA).2) (HQ2.out wA).1))
        | (go_at_call 81; (with_reducible refine (HV.out _ hbc).mono ?_); rintro e wA ⟨vA, rfl, hoA, hbA⟩; obtain ⟨aA, cA, rfl, -, -⟩ := hoA.row.gen.shape; have hb1 : Below w2.heap.size w2 wA := hbc.trans (hbA.mono hbc.size); have c3A := (HC2.out.stays hb1).cell 3 (v := .string (strB text)) rfl; have HJ1 := Lib.hid (HJ.out wA aA cA w2.heap.size (cv w2.drew).1 23 hb1 hoA.row ((HQ2.out w2.drew).1.stays hbA)))
        | (go_at_call 75; (with_reducible refine HJ1.out.mono ?_); rintro e wB ⟨vB, rfl, hoB, hbB⟩)))
      all_goals go_wp2_with fail
      all_goals go_ret2
      all_goals exact ⟨vB, rfl, by rw [HQ.out]; exact hoB.mono hs2, HBE2.out.trans (hbB.mono hs2)⟩
    · have HV := Lib.hid (put32_any v2 (vput (tcode n 5)) bits w2 (HR32.out rfl) (by omega) ho2.row)
      have hb32 : (bits : Int) ≤ 4294967295 := by have := HR32.out rfl; omega
      clear ho2
      go_wp2_with fail
      refine HV.out.mono ?_
      rintro e w3 ⟨v3, rfl, ho3, hb3⟩
      have hbe3 := HBE2.out.trans (hb3.mono hs2)
      go_wp2_with fail
      go_ret2
      exact ⟨v3, rfl, by rw [rtail_5]; exact ho3.mono hs2, hbe3⟩
  · rw [if_neg hc]
    rw [EV_pos ea hc] at HC ⊢
    clear HTP hc
    go_enter Tryd.func59, Tryd.ntmps59
    go_wp2_with fail
    refine HC.out.mono ?_
    rintro e w1 ⟨rfl, hb1⟩
    have hbe1 := HB0.out.trans (hb1.mono HB0.out.size)
    clear HC HCT HB0 hb1
    go_wp2_with fail
    go_ret2
    exact ⟨.slice none 0 0, rfl, OwnB.nil _ _, hbe1⟩
end
end Go.Proofs.YtgehbabcpmkgaaaDoor
