/- Scripts: which acts are the same. -/
import Derived.Test.YtbcpciegdmminaaGreatDoorScR
import Derived.Test.YtbcpciegdmminaaGreatDoorInts
namespace Go.Proofs.YtbcpciegdmminaaGreatDoor
open Go Go.RowKit
set_option linter.unusedVariables false
theorem strB_eqL (a b : List UInt8) : ((strB a).toList == (strB b).toList) = decide (a = b) := by
  rw [ByteArray.toList_eq, ByteArray.toList_eq]
  show (a == b) = _
  by_cases h : a = b
  · subst h; simp
  · rw [decide_eq_false h]; simpa using h
theorem bequal_any (va vb : Value) (a b : List UInt8) (w : World) (ha : RowB w va a) (hb : RowB w vb b) :
    Calls Tryz.prog 32 #[va, vb] w fun e w' => e = .returned (.bool (decide (a = b))) ∧ w' = w := by
  have sa := convert_str ha
  have sb := convert_str hb
  clear ha hb
  go_enter Tryz.func32, Tryz.ntmps32
  go_wp2
  go_ret
  exact ⟨ret1 (congrArg Value.bool (strB_eqL a b)), rfl⟩
set_option maxRecDepth 100000 in
theorem sameT_any {w : World} {m n : Int} {a b : Bs} {p q : Option Addr} {c d : Nat} (ha : RowB w (.slice p a.length c) a) (hb : RowB w (.slice q b.length d) b) :
    Calls Tryz.prog 35 #[.agg #[.int .i64 m, .slice p a.length c], .agg #[.int .i64 n, .slice q b.length d]] w fun e w' => e = .returned (.bool (decide ((m, a) = (n, b)))) ∧ Below w.heap.size w w' := by
  obtain ⟨R, hR⟩ : ∃ R, R = decide ((m, a) = (n, b)) := ⟨_, rfl⟩
  rw [← hR]
  have HR : Hid (R = (decide (m = n) && decide (a = b))) := by
    show _ = _
    rw [hR, ← Bool.decide_and]
    exact decide_eq_decide.2 (by constructor <;> intro h <;> simpa using h)
  have hbel : Below w.heap.size w ((w.alloc (.cells #[.int .i64 m, .slice p a.length c] 57)).alloc (.cells #[.int .i64 n, .slice q b.length d] 57)) := ((Below.refl _ _).alloc (Nat.le_refl _) _).alloc (by simp) _
  have HB := Lib.hid hbel
  have HE : Hid (∀ W, Below w.heap.size w W → Calls Tryz.prog 32 #[.slice p a.length c, .slice q b.length d] W fun e w' => e = .returned (.bool (decide (a = b))) ∧ w' = W) := fun W h => bequal_any _ _ _ _ W (Row.stays ha h) (Row.stays hb h)
  clear ha hb hbel hR
  by_cases h : m = n
  · have e1 : (m == n) = true := by simpa using h
    rw [decide_eq_true h, Bool.true_and] at HR
    clear h
    go_enter Tryz.func35, Tryz.ntmps35
    go_wp2_with fail
    refine (HE.out _ HB.out).mono ?_
    rintro e w1 ⟨rfl, rfl⟩
    go_wp2_with fail
    go_ret
    exact ⟨congrArg (fun z => Ending.returned (Value.bool z)) HR.out.symm, HB.out⟩
  · have e1 : (m == n) = false := by simpa using h
    rw [decide_eq_false h, Bool.false_and] at HR
    clear h
    go_enter Tryz.func35, Tryz.ntmps35
    go_wp2_with fail
    go_ret
    exact ⟨congrArg (fun z => Ending.returned (Value.bool z)) HR.out.symm, HB.out⟩
theorem drop_eq {α : Type} {xs ys : List α} {i : Nat} {x y : α} (hx : xs[i]? = some x) (hy : ys[i]? = some y) : xs.drop i = ys.drop i ↔ x = y ∧ xs.drop (i + 1) = ys.drop (i + 1) := by
  have h1 := (List.getElem?_eq_some_iff.1 hx).1
  have h2 := (List.getElem?_eq_some_iff.1 hy).1
  rw [List.drop_eq_getElem_cons h1, List.drop_eq_getElem_cons h2, List.cons.injEq, (List.getElem?_eq_some_iff.1 hx).2, (List.getElem?_eq_some_iff.1 hy).2]
set_option maxRecDepth 100000 in
set_option maxHeartbeats 1000000 in
theorem equalT_any {w : World} {xs ys : List TQ} {p q : Option Addr} {c d : Nat} (hx : RowS tqC w (.slice p xs.length c) xs) (hy : RowS tqC w (.slice q ys.length d) ys) (hbx : ∀ y ∈ xs, RowB w (tqV y) y.1.2) (hby : ∀ y ∈ ys, RowB w (tqV y) y.1.2) (hl : xs.length ≤ 2000000) (hl2 : ys.length ≤ 2000000) :
    Calls Tryz.prog 34 #[.slice p xs.length c, .slice q ys.length d, .func (.func 35) #[] #[]] w fun e w' => e = .returned (.bool (decide (xs.map Prod.fst = ys.map Prod.fst))) ∧ Below w.heap.size w w' := by
  have HX : Hid (∀ W, Below w.heap.size w W → RowS tqC W (.slice p xs.length c) xs ∧ RowS tqC W (.slice q ys.length d) ys ∧ (∀ y ∈ xs, RowB W (tqV y) y.1.2) ∧ ∀ y ∈ ys, RowB W (tqV y) y.1.2) := fun W h => ⟨hx.stays h, hy.stays h, fun y m => Row.stays (hbx y m) h, fun y m => Row.stays (hby y m) h⟩
  obtain ⟨R, hR⟩ : ∃ R, R = decide (xs.map Prod.fst = ys.map Prod.fst) := ⟨_, rfl⟩
  rw [← hR]
  have HR0 := Lib.hid hR
  clear hx hy hbx hby hR
  by_cases hlen : xs.length = ys.length
  · have HALL : Hid (decide ((xs.map Prod.fst).drop 0 = (ys.map Prod.fst).drop 0) = R) := HR0.out.symm
    have HL := Lib.hid hlen
    clear hlen
    have t1 : ((xs.length : Int) != (ys.length : Int)) = false := by rw [HL.out]; exact bne_self_eq_false _
    go_enter Tryz.func34, Tryz.ntmps34
    go_wp2_with fail
    go_loopw [17] (fun i wr => ∃ m : Nat, m ≤ xs.length ∧ i = .int .i64 m ∧ Hid (decide ((xs.map Prod.fst).drop m = (ys.map Prod.fst).drop m) = R) ∧ Below w.heap.size w wr) (fun i _ => xs.length - (intOf i).toNat)
    case atStart => exact ⟨0, Nat.zero_le _, rfl, HALL.out, Below.refl _ _⟩
    case round =>
      obtain ⟨m, hm, rfl, HI, hbe⟩ := hrel
      by_cases h1 : m < xs.length
      · have h2 : m < ys.length := by rw [← HL.out]; exact h1
        obtain ⟨⟨⟨n, bs⟩, ⟨ay, cy⟩⟩, hx⟩ : ∃ x, xs[m]? = some x := ⟨_, List.getElem?_eq_getElem h1⟩
        obtain ⟨⟨⟨n2, bs2⟩, ⟨ay2, cy2⟩⟩, hy⟩ : ∃ x, ys[m]? = some x := ⟨_, List.getElem?_eq_getElem h2⟩
        obtain ⟨r1, r2, r3, r4⟩ := HX.out wr hbe
        obtain ⟨aq, cq, hv, -, hcl⟩ := r1.shape tqC_len
        cases hv
        obtain ⟨b, o, rfl, hc⟩ := hcl m _ hx
        obtain ⟨aq2, cq2, hv2, -, hcl2⟩ := r2.shape tqC_len
        cases hv2
        obtain ⟨b2, o2, rfl, hc2⟩ := hcl2 m _ hy
        have c0 := hc 0 _ rfl
        have c1 := hc 1 _ rfl
        have d0 := hc2 0 _ rfl
        have d1 := hc2 1 _ rfl
        have hbb : b < wr.heap.size := World.block_lt_of_cell? wr _ c0
        have hbb2 : b2 < wr.heap.size := World.block_lt_of_cell? wr _ d0
        have hI := HI.out
        have hx' : (xs.map Prod.fst)[m]? = some (n, bs) := by rw [List.getElem?_map, hx]; rfl
        have hy' : (ys.map Prod.fst)[m]? = some (n2, bs2) := by rw [List.getElem?_map, hy]; rfl
        have hI3 : decide ((xs.map Prod.fst).drop m = (ys.map Prod.fst).drop m) = (decide ((n, bs) = (n2, bs2)) && decide ((xs.map Prod.fst).drop (m + 1) = (ys.map Prod.fst).drop (m + 1))) := by
          rw [← Bool.decide_and]
          exact decide_eq_decide.2 (drop_eq hx' hy')
        rw [hI3] at hI
        have HC : Hid (∀ W, Below wr.heap.size wr W → Calls Tryz.prog 35 #[.agg #[.int .i64 n, .slice ay bs.length cy], .agg #[.int .i64 n2, .slice ay2 bs2.length cy2]] W fun e w' => e = .returned (.bool (decide ((n, bs) = (n2, bs2)))) ∧ Below W.heap.size W w') := fun W hW => sameT_any (Row.stays (r3 _ (List.mem_of_getElem? hx)) hW) (Row.stays (r4 _ (List.mem_of_getElem? hy)) hW)
        generalize decide ((n, bs) = (n2, bs2)) = D at HC hI
        have HI2 := Lib.hid hI
        have HB2 : Hid (∀ x y : Array Value, Below wr.heap.size wr ((wr.alloc (.cells x 57)).alloc (.cells y 57))) := fun x y => ((Below.refl _ _).alloc (Nat.le_refl _) _).alloc (by simp) _
        clear hI HI hx hy hc hcl hc2 hcl2 r1 r2 r3 r4 hx' hy' hI3
        have m0 : (0 : Int) ≤ (m : Int) := by omega
        have m1 : (m : Int) < (ys.length : Int) := by omega
        replace c0 : wr.cell? ⟨b, o + m * 2, none⟩ = some (.int .i64 n) := c0
        replace c1 : wr.cell? ⟨b, o + m * 2 + 1, none⟩ = some (.slice ay bs.length cy) := c1
        replace d0 : wr.cell? ⟨b2, o2 + m * 2, none⟩ = some (.int .i64 n2) := d0
        replace d1 : wr.cell? ⟨b2, o2 + m * 2 + 1, none⟩ = some (.slice ay2 bs2.length cy2) := d1
        go_wp2_with fail
        refine (HC.out _ (HB2.out _ _)).mono ?_
        rintro e w2 ⟨rfl, hb2⟩
        have hbe2 : Below w.heap.size w w2 := hbe.trans (((HB2.out _ _).trans (hb2.mono (HB2.out _ _).size)).mono hbe.size)
        have HBE2 := Lib.hid hbe2
        clear HC hb2 c0 c1 d0 d1 hbe2 HB2
        cases D with
        | true =>
          go_wp2_with fail
          go_roundw
          case rel =>
            exact ⟨m + 1, h1, by go_num, by show _ = _; simpa using HI2.out, HBE2.out⟩
          case measure => simp only [intOf]; omega
        | false =>
          have HZ : Hid (false = R) := by have := HI2.out; rw [Bool.false_and] at this; exact this
          go_wp2_with fail
          go_ret
          exact ⟨congrArg (fun z => Ending.returned (Value.bool z)) HZ.out, HBE2.out⟩
      · have HZ : Hid (true = R) := by show _ = _; rw [← HI.out, List.drop_of_length_le (by rw [List.length_map]; omega), List.drop_of_length_le (by rw [List.length_map, ← HL.out]; omega)]; rfl
        clear HI
        go_wp2_with fail
        go_ret
        exact ⟨congrArg (fun z => Ending.returned (Value.bool z)) HZ.out, hbe⟩
  · have HZ : Hid (false = R) := by
      show _ = _
      rw [HR0.out, decide_eq_false]
      intro h
      exact hlen (by have := congrArg List.length h; rwa [List.length_map, List.length_map] at this)
    have t1 : ((xs.length : Int) == (ys.length : Int)) = false := by simpa using (show ¬ (xs.length : Int) = (ys.length : Int) from by omega)
    clear hlen HX
    go_enter Tryz.func34, Tryz.ntmps34
    go_wp2_with fail
    go_ret
    exact ⟨congrArg (fun z => Ending.returned (Value.bool z)) HZ.out, Below.refl _ _⟩
def sameA (x y : Ac) : Bool := (x.k == y.k && x.a == y.a && x.b == y.b && x.c == y.c && x.n == y.n) && decide (x.bs = y.bs) && eqB x.keep y.keep && decide (x.torn = y.torn)
theorem sameA_iff (x y : Ac) : sameA x y = true ↔ x = y := by
  obtain ⟨k, a, b, c, n, bs, keep, torn⟩ := x
  obtain ⟨k', a', b', c', n', bs', keep', torn'⟩ := y
  unfold sameA eqB
  simp only [Bool.and_eq_true, beq_iff_eq, decide_eq_true_eq, Ac.mk.injEq]
  constructor
  · rintro ⟨⟨⟨⟨⟨⟨⟨h1, h2⟩, h3⟩, h4⟩, h5⟩, h6⟩, h7⟩, h8⟩; exact ⟨h1, h2, h3, h4, h5, h6, h7, h8⟩
  · rintro ⟨h1, h2, h3, h4, h5, h6, h7, h8⟩; exact ⟨⟨⟨⟨⟨⟨⟨h1, h2⟩, h3⟩, h4⟩, h5⟩, h6⟩, h7⟩, h8⟩
set_option maxRecDepth 100000 in
set_option maxHeartbeats 4000000 in
theorem same_any {w : World} {k a b c n k' a' b' c' n' : Int} {vb vk vt vb' vk' vt' : Value} {bs bs' : Bs} {keep keep' : List Int} {torn torn' : List (Int × Bs)} (hA : ActI w vb vk vt bs keep torn) (hA' : ActI w vb' vk' vt' bs' keep' torn')
    (l1 : keep.length ≤ 2000000) (l2 : keep'.length ≤ 2000000) (l3 : torn.length ≤ 2000000) (l4 : torn'.length ≤ 2000000) :
    Calls Tryz.prog 14 #[.agg (acCells k a b c n vb vk vt), .agg (acCells k' a' b' c' n' vb' vk' vt')] w fun e w' => e = .returned (.bool (sameA ⟨k, a, b, c, n, bs, keep, torn⟩ ⟨k', a', b', c', n', bs', keep', torn'⟩)) ∧ Below w.heap.size w w' := by
  obtain ⟨R, hR⟩ : ∃ R, R = sameA ⟨k, a, b, c, n, bs, keep, torn⟩ ⟨k', a', b', c', n', bs', keep', torn'⟩ := ⟨_, rfl⟩
  rw [← hR]
  have HR : Hid (R = ((k == k' && a == a' && b == b' && c == c' && n == n') && decide (bs = bs') && eqB keep keep' && decide (torn = torn'))) := hR
  obtain ⟨W0, hW0⟩ : ∃ W0, W0 = (w.alloc (.cells (acCells k a b c n vb vk vt) 26)).alloc (.cells (acCells k' a' b' c' n' vb' vk' vt') 26) := ⟨_, rfl⟩
  obtain ⟨g, hg⟩ : ∃ g, g = w.heap.size := ⟨_, rfl⟩
  obtain ⟨g', hg'⟩ : ∃ g', g' = w.heap.size + 1 := ⟨_, rfl⟩
  have hb : Below w.heap.size w W0 := by rw [hW0]; exact ((Below.refl _ _).alloc (Nat.le_refl _) _).alloc (by simp) _
  have hc : CellsAt W0 g 26 (acCells k a b c n vb vk vt) := by rw [hW0, hg]; exact CellsAt.stays (CellsAt.new w _ _) ((Below.refl _ _).alloc (Nat.le_refl _) _)
  have hc' : CellsAt W0 g' 26 (acCells k' a' b' c' n' vb' vk' vt') := by
    have := CellsAt.new (w.alloc (.cells (acCells k a b c n vb vk vt) 26)) (acCells k' a' b' c' n' vb' vk' vt') 26
    rw [hW0, hg']
    simpa using this
  obtain ⟨h1, h2, acc, h3, h4, h5⟩ := hA.stays hb
  obtain ⟨k1, k2, acc', k3, k4, k5⟩ := hA'.stays hb
  obtain ⟨ab, cb, rfl, -, -⟩ := h1.gen.shape
  obtain ⟨ak, ck, rfl, -, -⟩ := h2.shape
  obtain ⟨at', ct, rfl, -, -⟩ := h3.shape tqC_len
  obtain ⟨ab', cb', rfl, -, -⟩ := k1.gen.shape
  obtain ⟨ak', ck', rfl, -, -⟩ := k2.shape
  obtain ⟨at'', ct', rfl, -, -⟩ := k3.shape tqC_len
  have HE1 := Lib.hid (bequal_any _ _ _ _ W0 h1 k1)
  have HE2 : Hid (∀ W, Below W0.heap.size W0 W → Calls Tryz.prog 33 #[.slice ak keep.length ck, .slice ak' keep'.length ck'] W fun e w' => e = .returned (.bool (eqB keep keep')) ∧ Below W.heap.size W w') := fun W h => equalZ_any _ _ _ _ W (Row.stays h2 h) (Row.stays k2 h) (by omega) (by omega)
  have HE3 : Hid (∀ W, Below W0.heap.size W0 W → Calls Tryz.prog 34 #[.slice at' acc.length ct, .slice at'' acc'.length ct', .func (.func 35) #[] #[]] W fun e w' => e = .returned (.bool (decide (torn = torn'))) ∧ Below W.heap.size W w') := fun W h => by
    have e1 : acc.length = torn.length := by rw [← h5, List.length_map]
    have e2 : acc'.length = torn'.length := by rw [← k5, List.length_map]
    have := equalT_any (RowS.stays h3 h) (RowS.stays k3 h) (fun y m => Row.stays (h4 y m) h) (fun y m => Row.stays (k4 y m) h) (by omega) (by omega)
    rw [h5, k5] at this
    exact this
  have c0 := hc.cell 0 (v := .int .i64 k) rfl
  have c1 := hc.cell 1 (v := .int .i64 a) rfl
  have c2 := hc.cell 2 (v := .int .i64 b) rfl
  have c3 := hc.cell 3 (v := .int .i64 c) rfl
  have c4 := hc.cell 4 (v := .int .i64 n) rfl
  have c5 := hc.cell 5 (v := .slice ab bs.length cb) rfl
  have d0 := hc'.cell 0 (v := .int .i64 k') rfl
  have d1 := hc'.cell 1 (v := .int .i64 a') rfl
  have d2 := hc'.cell 2 (v := .int .i64 b') rfl
  have d3 := hc'.cell 3 (v := .int .i64 c') rfl
  have d4 := hc'.cell 4 (v := .int .i64 n') rfl
  have d5 := hc'.cell 5 (v := .slice ab' bs'.length cb') rfl
  have HC : Hid (∀ W, Below W0.heap.size W0 W → W.cell? ⟨g, 6, none⟩ = some (.slice ak keep.length ck) ∧ W.cell? ⟨g', 6, none⟩ = some (.slice ak' keep'.length ck') ∧ W.cell? ⟨g, 7, none⟩ = some (.slice at' acc.length ct) ∧ W.cell? ⟨g', 7, none⟩ = some (.slice at'' acc'.length ct')) := fun W h => ⟨(hc.stays h).cell 6 rfl, (hc'.stays h).cell 6 rfl, (hc.stays h).cell 7 rfl, (hc'.stays h).cell 7 rfl⟩
  obtain ⟨z1, z2, z3, z4⟩ := HC.out W0 (Below.refl _ _)
  have HW := Lib.hid hW0
  have HG := Lib.hid hg
  have HG' := Lib.hid hg'
  have HB := Lib.hid hb
  clear hR hW0 hg hg' hb hc hc' hA hA' h1 h2 h3 h4 h5 k1 k2 k3 k4 k5
  go_enter Tryz.func14, Tryz.ntmps14
  go_upto_region 1 with fail
  rw [← HW.out, ← HG'.out, ← HG.out]
  clear HW HG HG'
  cases e0 : (k == k') with
  | false =>
    have HZ : Hid (R = false) := by show _ = _; rw [HR.out, e0]; rfl
    clear HR
    go_wp2_with fail
    go_ret
    exact ⟨congrArg (fun z => Ending.returned (Value.bool z)) HZ.out.symm, HB.out⟩
  | true =>
    cases e1 : (a == a') with
    | false =>
      have HZ : Hid (R = false) := by show _ = _; rw [HR.out, e0, e1]; rfl
      clear HR
      go_wp2_with fail
      go_ret
      exact ⟨congrArg (fun z => Ending.returned (Value.bool z)) HZ.out.symm, HB.out⟩
    | true =>
      cases e2 : (b == b') with
      | false =>
        have HZ : Hid (R = false) := by show _ = _; rw [HR.out, e0, e1, e2]; rfl
        clear HR
        go_wp2_with fail
        go_ret
        exact ⟨congrArg (fun z => Ending.returned (Value.bool z)) HZ.out.symm, HB.out⟩
      | true =>
        cases e3 : (c == c') with
        | false =>
          have HZ : Hid (R = false) := by show _ = _; rw [HR.out, e0, e1, e2, e3]; rfl
          clear HR
          go_wp2_with fail
          go_ret
          exact ⟨congrArg (fun z => Ending.returned (Value.bool z)) HZ.out.symm, HB.out⟩
        | true =>
          cases e4 : (n == n') with
          | false =>
            have HZ : Hid (R = false) := by show _ = _; rw [HR.out, e0, e1, e2, e3, e4]; rfl
            clear HR
            go_wp2_with fail
            go_ret
            exact ⟨congrArg (fun z => Ending.returned (Value.bool z)) HZ.out.symm, HB.out⟩
          | true =>
            have HR2 : Hid (R = (decide (bs = bs') && eqB keep keep' && decide (torn = torn'))) := by show _ = _; rw [HR.out, e0, e1, e2, e3, e4]; rfl
            clear HR
            generalize decide (bs = bs') = B1 at HR2 HE1
            generalize eqB keep keep' = B2 at HR2 HE2
            generalize decide (torn = torn') = B3 at HR2 HE3
            go_wp2_with fail
            refine HE1.out.mono ?_
            rintro e w1 ⟨rfl, rfl⟩
            clear HE1
            cases B1 with
            | false =>
              have HZ : Hid (R = false) := by show _ = _; rw [HR2.out]; rfl
              clear HR2
              go_wp2_with fail
              go_ret
              exact ⟨congrArg (fun z => Ending.returned (Value.bool z)) HZ.out.symm, HB.out⟩
            | true =>
              go_wp2_with fail
              refine (HE2.out _ (Below.refl _ _)).mono ?_
              rintro e w2 ⟨rfl, hb2⟩
              obtain ⟨y1, y2, y3, y4⟩ := HC.out w2 hb2
              have HB2 := Lib.hid (HB.out.trans (hb2.mono HB.out.size))
              have HB02 := Lib.hid hb2
              clear HE2 hb2
              cases B2 with
              | false =>
                have HZ : Hid (R = false) := by show _ = _; rw [HR2.out]; rfl
                clear HR2
                go_wp2_with fail
                go_ret
                exact ⟨congrArg (fun z => Ending.returned (Value.bool z)) HZ.out.symm, HB2.out⟩
              | true =>
                have HZ : Hid (R = B3) := by show _ = _; rw [HR2.out]; rfl
                clear HR2
                go_wp2_with fail
                refine (HE3.out _ HB02.out).mono ?_
                rintro e w3 ⟨rfl, hb3⟩
                have HB3 := Lib.hid (HB2.out.trans (hb3.mono HB2.out.size))
                clear HE3 hb3
                go_wp2_with fail
                go_ret
                exact ⟨congrArg (fun z => Ending.returned (Value.bool z)) HZ.out.symm, HB3.out⟩
end Go.Proofs.YtbcpciegdmminaaGreatDoor
