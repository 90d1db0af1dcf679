/- Scripts: lists told with commas between. -/
import Derived.Test.YtbcpciegdmminaaGreatDoorScT
namespace Go.Proofs.YtbcpciegdmminaaGreatDoor
open Go Go.RowKit
set_option linter.unusedVariables false
theorem join_joi (c : UInt8) : ∀ xs : List Bs, Lib.join xs [c] = joi c xs
  | [] => rfl
  | [x] => by rw [Lib.join_one]; rfl
  | x :: y :: r => by
    have ih := join_joi c (y :: r)
    rw [Lib.join_cons] at ih ⊢
    rw [joi_cons c x (by simp), ← ih]
    simp [Lib.joinTail]
theorem map_strB (xs : List Bs) : (xs.map strB).map (fun x : ByteArray => x.data.toList) = xs := by
  rw [List.map_map]
  conv => rhs; rw [← List.map_id xs]
  exact List.map_congr_left fun x _ => by simp [strB]
theorem join_any {w : World} {a : Option Addr} {cp : Nat} {xs : List Bs} (c : UInt8) (hr : RowL SV w (.slice a xs.length cp) xs) (hl : xs.length ≤ 1000000) (hs : (joi c xs).length ≤ 1000000000) :
    Calls Tryz.prog 30 #[.slice a xs.length cp, .string ⟨#[c]⟩] w fun e w' => e = .returned (.string (strB (joi c xs))) ∧ Below w.heap.size w w' := by
  by_cases h0 : xs = []
  · subst h0
    exact (Any.strings_Join_none Tryz.lays156 Tryz.Builder_Extra_156 a cp ⟨#[c]⟩ w).mono fun e w' ⟨h1, h2⟩ => ⟨h1, by rw [h2]; exact Below.refl _ _⟩
  · obtain ⟨x, t, rfl⟩ := List.exists_cons_of_ne_nil h0
    obtain ⟨b, o, rfl, -⟩ := rowCell hr (i := 0) rfl
    have hcap := hr.cap
    have hlt : b < w.heap.size := by
      obtain ⟨b', o', h1, h2⟩ := rowCell hr (i := 0) rfl
      cases h1
      exact World.block_lt_of_cell? w _ h2
    have hm := map_strB (x :: t)
    have hj := Any.strings_Join Tryz.lays156 Tryz.Builder_Extra_156 b o cp ((x :: t).map strB) ⟨#[c]⟩ w (fun j y hy => by
      rw [List.getElem?_map] at hy
      obtain ⟨z, hz, rfl⟩ := Option.map_eq_some_iff.1 hy
      obtain ⟨b', o', h1, h2⟩ := rowCell hr hz
      cases h1
      exact h2) hlt (by rw [List.length_map]; omega) (by rw [List.length_map]; exact hcap) (by
      rw [hm, show (⟨#[c]⟩ : ByteArray).data.toList = [c] from rfl, join_joi]; omega)
    rw [hm, show (⟨#[c]⟩ : ByteArray).data.toList = [c] from rfl, join_joi, List.length_map] at hj
    exact hj
theorem SV_one (x : Bs) : (SV x).oneCell' = true := rfl
theorem joi_len (c : UInt8) (N : Nat) : ∀ xs : List Bs, (∀ x ∈ xs, x.length ≤ N) → (joi c xs).length ≤ (N + 1) * xs.length
  | [], _ => by simp [joi]
  | [x], h => by
    have := h x (by simp)
    show x.length ≤ _
    simp; omega
  | x :: y :: r, h => by
    have ih := joi_len c N (y :: r) (fun z hz => h z (by simp [hz]))
    have h1 := h x (by simp)
    rw [joi_cons c x (by simp), List.length_append, List.length_cons]
    rw [List.length_cons (a := x), Nat.mul_add]
    omega
set_option maxRecDepth 100000 in
set_option maxHeartbeats 1000000 in
theorem listI_any {w : World} (hp : PowAt w) {a : Option Addr} {c : Nat} {xs : List Int} (hr : RowL IV w (.slice a xs.length c) xs) (hin : xs.all inN = true) (hl : xs.length ≤ 200) :
    Calls Tryz.prog 53 #[.slice a xs.length c, .func (.func 52) #[] #[]] w fun e w' => e = .returned (.string (strB (putL decI xs))) ∧ Below w.heap.size w w' := by
  by_cases h0 : xs = []
  · subst h0
    clear hr hin hp
    go_enter Tryz.func53, Tryz.ntmps53
    go_wp2_with fail
    go_ret
    exact ⟨rfl, Below.refl _ _⟩
  · have HP : Hid (putL decI xs = joi 44 (xs.map decI)) := by show _ = _; unfold putL; rw [if_neg h0]
    have hne : xs.length ≠ 0 := fun e => h0 (List.length_eq_zero_iff.1 e)
    have t0 : ((xs.length : Int) == 0) = false := by simpa using hne
    have HR : Hid (∀ W, Below w.heap.size w W → RowL IV W (.slice a xs.length c) xs) := fun W h => Row.stays hr h
    have HF : Hid (∀ W n, Below w.heap.size w W → inN n = true → Calls Tryz.prog 52 #[.int .i64 n] W fun e w' => e = .returned (.string (strB (decI n))) ∧ Below W.heap.size W w') := fun W n h hn => fig_any (hp.stays h) hn
    have HIN : Hid (∀ x ∈ xs, inN x = true) := List.all_eq_true.1 hin
    clear hr h0 hne hp hin
    go_enter Tryz.func53, Tryz.ntmps53
    go_wp2_with fail
    go_loopw [5, 13] (fun v i wr => ∃ m : Nat, m ≤ xs.length ∧ i = .int .i64 m ∧ OwnL 9 SV w.heap.size wr v ((xs.take m).map decI) ∧ Below w.heap.size w wr) (fun _ i _ => xs.length - (intOf i).toNat)
    case atStart => exact ⟨0, Nat.zero_le _, rfl, OwnL.nil _ _, Below.refl _ _⟩
    case round =>
      obtain ⟨m, hm, rfl, how, hbe⟩ := hrel
      by_cases h1 : m < xs.length
      · obtain ⟨x, hx⟩ : ∃ x, xs[m]? = some x := ⟨_, List.getElem?_eq_getElem h1⟩
        obtain ⟨b, o, rfl, c0⟩ := rowCell (HR.out wr hbe) hx
        replace c0 : wr.cell? ⟨b, o + m, none⟩ = some (.int .i64 x) := c0
        have HC := Lib.hid (HF.out wr x hbe (HIN.out x (List.mem_of_getElem? hx)))
        have HT : Hid ((xs.take (m + 1)).map decI = (xs.take m).map decI ++ [decI x]) := by
          show _ = _
          rw [List.take_add_one, hx, Option.toList_some, List.map_append, List.map_singleton]
        have hal : ((xs.take m).map decI).length = m := by rw [List.length_map, List.length_take]; omega
        have HAL := Lib.hid hal
        have HOW := Lib.hid how
        clear hx hal how
        go_wp2_with fail
        refine HC.out.mono ?_
        rintro e w2 ⟨rfl, hb2⟩
        have how2 := own_stays HOW.out hb2
        have hbe2 := hbe.trans (hb2.mono hbe.size)
        have HBE2 := Lib.hid hbe2
        have hsz := hbe2.size
        clear HC hb2 HOW c0 hbe2
        go_wp2_with (at_builtin; go_must (refine wpList_pushL SV_one Tryz.underlying33 infoSt rfl (by decide) how2 (decI x) (by rw [HAL.out]; omega) hsz rfl _ _ rfl (by rfl) _ _ _ (by rfl) (by rfl) ?_))
        intro v3 w3 ho3 hg3 hn3
        have hb3 := below_own HBE2.out how2 hg3 hsz
        have HB3 := Lib.hid hb3
        rw [← List.map_take, ← HT.out] at ho3
        clear how2 hg3 hn3 hb3
        go_wp2_with fail
        go_roundw
        case rel => exact ⟨m + 1, h1, by go_num, ho3, HB3.out⟩
        case measure => simp only [intOf]; omega
      · rw [show xs.take m = xs from List.take_of_length_le (by omega)] at how
        have hlm : (xs.map decI).length = xs.length := List.length_map _
        have hln : ∀ z ∈ xs.map decI, z.length ≤ 9 := fun z hz => by obtain ⟨n, h1, rfl⟩ := List.mem_map.1 hz; exact decI_len (HIN.out n h1)
        obtain ⟨YS, hY⟩ : ∃ YS, YS = xs.map decI := ⟨_, rfl⟩
        rw [← hY] at how hlm hln HP
        obtain ⟨a2, c2, rfl, -, -⟩ := (OwnL.row how).shape
        have HJ := Lib.hid (join_any 44 (OwnL.row how) (by omega) (by have := joi_len 44 9 YS hln; omega))
        clear hY hln
        clear how hlm
        go_wp2_with fail
        refine HJ.out.mono ?_
        rintro e w1 ⟨rfl, hb1⟩
        have HB1 := Lib.hid (hbe.trans (hb1.mono hbe.size))
        clear HJ hb1
        go_wp2_with fail
        go_ret
        exact ⟨congrArg (fun z => Ending.returned (Value.string (strB z))) HP.out.symm, HB1.out⟩
set_option maxRecDepth 100000 in
set_option maxHeartbeats 1000000 in
theorem listT_any {w : World} (hp : PowAt w) {a : Option Addr} {c : Nat} {xs : List TQ} (hr : RowS tqC w (.slice a xs.length c) xs) (hin : (xs.map Prod.fst).all tornOk = true) (hby : ∀ y ∈ xs, RowB w (tqV y) y.1.2) (hl : xs.length ≤ 200) :
    Calls Tryz.prog 54 #[.slice a xs.length c, .func (.func 55) #[] #[]] w fun e w' => e = .returned (.string (strB (putL putT (xs.map Prod.fst)))) ∧ Below w.heap.size w w' := by
  by_cases h0 : xs = []
  · subst h0
    clear hr hin hp hby
    go_enter Tryz.func54, Tryz.ntmps54
    go_wp2_with fail
    go_ret
    exact ⟨rfl, Below.refl _ _⟩
  · have HP : Hid (putL putT (xs.map Prod.fst) = joi 44 ((xs.map Prod.fst).map putT)) := by show _ = _; unfold putL; rw [if_neg (fun e => h0 (List.map_eq_nil_iff.1 e))]
    have hne : xs.length ≠ 0 := fun e => h0 (List.length_eq_zero_iff.1 e)
    have t0 : ((xs.length : Int) == 0) = false := by simpa using hne
    have HR : Hid (∀ W, Below w.heap.size w W → RowS tqC W (.slice a xs.length c) xs) := fun W h => Row.stays hr h
    have HF : Hid (∀ W (y : TQ), Below w.heap.size w W → y ∈ xs → Calls Tryz.prog 55 #[.agg #[.int .i64 y.1.1, tqV y]] W fun e w' => e = .returned (.string (strB (putT y.1))) ∧ Below W.heap.size W w') := fun W y h hm => by
      have hok := List.all_eq_true.1 hin y.1 (List.mem_map_of_mem hm)
      unfold tornOk at hok
      simp only [Bool.and_eq_true, decide_eq_true_eq] at hok
      exact putT_any (hp.stays h) hok.1 (Row.stays (hby y hm) h) hok.2
    have HIN : Hid (∀ x ∈ xs, (putT x.1).length ≤ 8300) := fun y hm => by
      have hok := List.all_eq_true.1 hin y.1 (List.mem_map_of_mem hm)
      unfold tornOk at hok
      simp only [Bool.and_eq_true, decide_eq_true_eq] at hok
      have := putT_len hok.1
      omega
    clear hr h0 hne hp hin hby
    go_enter Tryz.func54, Tryz.ntmps54
    go_wp2_with fail
    go_loopw [5, 13] (fun v i wr => ∃ m : Nat, m ≤ xs.length ∧ i = .int .i64 m ∧ OwnL 9 SV w.heap.size wr v ((xs.take m).map (fun y => putT y.1)) ∧ Below w.heap.size w wr) (fun _ i _ => xs.length - (intOf i).toNat)
    case atStart => exact ⟨0, Nat.zero_le _, rfl, OwnL.nil _ _, Below.refl _ _⟩
    case round =>
      obtain ⟨m, hm, rfl, how, hbe⟩ := hrel
      by_cases h1 : m < xs.length
      · obtain ⟨⟨⟨n, bs⟩, ⟨ay, cy⟩⟩, hx⟩ : ∃ x, xs[m]? = some x := ⟨_, List.getElem?_eq_getElem h1⟩
        obtain ⟨aq, cq, hv, -, hcl⟩ := (HR.out wr hbe).shape tqC_len
        cases hv
        obtain ⟨b, o, rfl, hc⟩ := hcl m _ hx
        have c0 := hc 0 _ rfl
        have c1 := hc 1 _ rfl
        have hbb : b < wr.heap.size := World.block_lt_of_cell? wr _ c0
        replace c0 : wr.cell? ⟨b, o + m * 2, none⟩ = some (.int .i64 n) := c0
        replace c1 : wr.cell? ⟨b, o + m * 2 + 1, none⟩ = some (.slice ay bs.length cy) := c1
        have HC : Hid (∀ W, Below w.heap.size w W → Calls Tryz.prog 55 #[.agg #[.int .i64 n, .slice ay bs.length cy]] W fun e w' => e = .returned (.string (strB (putT (n, bs)))) ∧ Below W.heap.size W w') := fun W h => HF.out W _ h (List.mem_of_getElem? hx)
        have HBA : Hid (∀ x : Array Value, Below w.heap.size w (wr.alloc (.cells x 57))) := fun x => hbe.alloc hbe.size _
        have HT : Hid ((xs.take (m + 1)).map (fun y => putT y.1) = (xs.take m).map (fun y => putT y.1) ++ [putT (n, bs)]) := by
          show _ = _
          rw [List.take_add_one, hx, Option.toList_some, List.map_append, List.map_singleton]
        have hal : ((xs.take m).map (fun y => putT y.1)).length = m := by rw [List.length_map, List.length_take]; omega
        have HAL := Lib.hid hal
        have HOW := Lib.hid how
        clear hx hal how hc hcl
        go_wp2_with fail
        refine (HC.out _ (HBA.out _)).mono ?_
        rintro e w2 ⟨rfl, hb2⟩
        have how2 := own_stays (own_stays HOW.out ((Below.refl _ _).alloc (Nat.le_refl _) _)) hb2
        have hbe2 := (HBA.out _).trans (hb2.mono (HBA.out _).size)
        have HBE2 := Lib.hid hbe2
        have hsz := hbe2.size
        clear HC hb2 HOW c0 c1 hbe2
        go_wp2_with (at_builtin; go_must (refine wpList_pushL SV_one Tryz.underlying33 infoSt rfl (by decide) how2 (putT (n, bs)) (by rw [HAL.out]; omega) hsz rfl _ _ rfl (by rfl) _ _ _ (by rfl) (by rfl) ?_))
        intro v3 w3 ho3 hg3 hn3
        have hb3 := below_own HBE2.out how2 hg3 hsz
        have HB3 := Lib.hid hb3
        rw [← List.map_take, ← HT.out] at ho3
        clear how2 hg3 hn3 hb3
        go_wp2_with fail
        go_roundw
        case rel => exact ⟨m + 1, h1, by go_num, ho3, HB3.out⟩
        case measure => simp only [intOf]; omega
      · rw [show xs.take m = xs from List.take_of_length_le (by omega)] at how
        have hlm : ((xs.map Prod.fst).map putT).length = xs.length := by rw [List.length_map, List.length_map]
        rw [show xs.map (fun y => putT y.1) = (xs.map Prod.fst).map putT from by rw [List.map_map]; rfl] at how
        have hln : ∀ z ∈ (xs.map Prod.fst).map putT, z.length ≤ 8300 := fun z hz => by
          obtain ⟨q, h1, rfl⟩ := List.mem_map.1 hz
          obtain ⟨y, h2, rfl⟩ := List.mem_map.1 h1
          exact HIN.out y h2
        obtain ⟨YS, hY⟩ : ∃ YS, YS = (xs.map Prod.fst).map putT := ⟨_, rfl⟩
        rw [← hY] at how hlm hln HP
        obtain ⟨a2, c2, rfl, -, -⟩ := (OwnL.row how).shape
        have HJ := Lib.hid (join_any 44 (OwnL.row how) (by omega) (by have := joi_len 44 8300 YS hln; omega))
        clear hY hln
        clear how hlm
        go_wp2_with fail
        refine HJ.out.mono ?_
        rintro e w1 ⟨rfl, hb1⟩
        have HB1 := Lib.hid (hbe.trans (hb1.mono hbe.size))
        clear HJ hb1
        go_wp2_with fail
        go_ret
        exact ⟨congrArg (fun z => Ending.returned (Value.string (strB z))) HP.out.symm, HB1.out⟩
end Go.Proofs.YtbcpciegdmminaaGreatDoor
