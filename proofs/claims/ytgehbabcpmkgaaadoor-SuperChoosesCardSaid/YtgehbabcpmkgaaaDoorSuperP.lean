/- super.Parse: the block of bytes; bytes.CutPrefix; super.numbers. -/
import Derived.Test.YtgehbabcpmkgaaaDoorSuperR
import Derived.Test.YtgehbabcpmkgaaaDoorOpen
import Derived.Test.YtgehbabcpmkgaaaDoorLits
import Derived.Test.YtgehbabcpmkgaaaDoorStr
import Derived.Test.YtgehbabcpmkgaaaDoorFput
namespace Go.Proofs.YtgehbabcpmkgaaaDoor
open Go Go.RowKit
set_option linter.unusedVariables false
theorem strB_eqL (a b : List UInt8) : ((strB a).toList == (strB b).toList) = decide (a = b) := by
  rw [ByteArray.toList_eq, ByteArray.toList_eq]
  show (a == b) = _
  by_cases h : a = b
  · subst h; simp
  · rw [decide_eq_false h]; simpa using h
theorem bequal_any (va vb : Value) (a b : List UInt8) (w : World) (ha : RowB w va a) (hb : RowB w vb b) :
    Calls Tryd.prog 137 #[va, vb] w fun e w' => e = .returned (.bool (decide (a = b))) ∧ w = w' := by
  have sa := convert_str ha
  have sb := convert_str hb
  clear ha hb
  go_enter Tryd.func137, Tryd.ntmps137
  go_wp2
  go_ret
  exact ⟨ret1 (congrArg Value.bool (strB_eqL a b)), rfl⟩
set_option maxRecDepth 100000 in
theorem hasPrefix_any (va vb : Value) (a b : List UInt8) (w : World) (ha : RowB w va a) (hb : RowB w vb b) (hl1 : a.length ≤ 1000000) (hl2 : b.length ≤ 1000000) :
    Calls Tryd.prog 123 #[va, vb] w fun e w' => e = .returned (.bool (decide (a.take b.length = b))) ∧ w = w' := by
  obtain ⟨aa, ca, rfl, hla, -⟩ := ha.gen.shape
  obtain ⟨ab, cb, rfl, hlb, -⟩ := hb.gen.shape
  clear hla hlb
  by_cases hl : b.length ≤ a.length
  · have HE := Lib.hid (bequal_any _ _ _ _ w (ha.gen.to b.length hl) hb)
    have hli : (b.length : Int) ≤ a.length := by omega
    have hcap := ha.gen.cap
    have hci : (b.length : Int) ≤ ca := by omega
    clear ha hb
    go_enter Tryd.func123, Tryd.ntmps123
    go_wp2_with fail
    refine HE.out.mono ?_
    rintro e w1 ⟨rfl, rfl⟩
    go_wp2_with fail
    go_ret
    exact ⟨rfl, rfl⟩
  · have hlt : (a.length : Int) < b.length := by omega
    have hD : Hid (decide (a.take b.length = b) = false) := decide_eq_false fun e => by
      have := congrArg List.length e
      simp at this; omega
    clear ha hb
    go_enter Tryd.func123, Tryd.ntmps123
    go_wp2_with fail
    go_ret
    exact ⟨ret1 (congrArg Value.bool hD.out.symm), rfl⟩
set_option maxRecDepth 100000 in
theorem cutPrefix_yes (va vb : Value) (a b : List UInt8) (w : World) (ha : RowB w va a) (hb : RowB w vb b) (hl1 : a.length ≤ 1000000) (hl2 : b.length ≤ 1000000) (h : a.take b.length = b) :
    Calls Tryd.prog 86 #[va, vb] w fun e w' => ∃ v', e = .returned (.tuple #[v', .bool true]) ∧ RowB w v' (a.drop b.length) ∧ w = w' := by
  obtain ⟨aa, ca, rfl, hla, -⟩ := ha.gen.shape
  obtain ⟨ab, cb, rfl, hlb, -⟩ := hb.gen.shape
  have HP := hasPrefix_any _ _ a b w ha hb hl1 hl2
  rw [decide_eq_true h] at HP
  have HP := Lib.hid HP
  have HA := Lib.hid ha
  have hl : b.length ≤ a.length := by
    have := congrArg List.length h
    simp at this; omega
  clear ha hb h
  go_enter Tryd.func86, Tryd.ntmps86
  go_wp2_with fail
  refine HP.out.mono ?_
  rintro e w1 ⟨rfl, rfl⟩
  go_wp2_with (refine wpList_sliceFrom (o := ⟨some 14, _, _, _, _, _⟩) (f := BV) HA.out b.length hl Tryd.underlying23 infoB rfl _ _ rfl rfl .i64 _ rfl rfl ?_)
  intro v14 hr
  go_wp2_with fail
  go_ret2
  exact ⟨v14, rfl, hr, rfl⟩
set_option maxRecDepth 100000 in
theorem cutPrefix_no (va vb : Value) (a b : List UInt8) (w : World) (ha : RowB w va a) (hb : RowB w vb b) (hl1 : a.length ≤ 1000000) (hl2 : b.length ≤ 1000000) (h : ¬ a.take b.length = b) :
    Calls Tryd.prog 86 #[va, vb] w fun e w' => e = .returned (.tuple #[va, .bool false]) ∧ w = w' := by
  obtain ⟨aa, ca, rfl, hla, -⟩ := ha.gen.shape
  obtain ⟨ab, cb, rfl, hlb, -⟩ := hb.gen.shape
  have HP := hasPrefix_any _ _ a b w ha hb hl1 hl2
  rw [decide_eq_false h] at HP
  have HP := Lib.hid HP
  clear ha hb h
  go_enter Tryd.func86, Tryd.ntmps86
  go_wp2_with fail
  refine HP.out.mono ?_
  rintro e w1 ⟨rfl, rfl⟩
  go_wp2_with fail
  go_ret2
  exact ⟨rfl, rfl⟩
/-- the four numbers -/
def num4 (X : List UInt8) (k : Nat) : Nat := fixedV ((X.drop k).take 4)
theorem num4_le (X : List UInt8) (k : Nat) : num4 X k ≤ 4294967295 := by
  unfold num4
  have h1 := fixedV_lt ((X.drop k).take 4)
  have h2 : ((X.drop k).take 4).length ≤ 4 := List.length_take_le _ _
  have h3 := Nat.pow_le_pow_right (n := 256) (by omega) h2
  rw [show 256 ^ 4 = 4294967296 from by decide +kernel] at h3
  omega
def nums (X : List UInt8) (k : Nat) : Array Value := #[.int .u32 (if 0 < k then num4 X 0 else 0 : Nat), .int .u32 (if 1 < k then num4 X 4 else 0 : Nat), .int .u32 (if 2 < k then num4 X 8 else 0 : Nat), .int .u32 (if 3 < k then num4 X 12 else 0 : Nat)]
theorem nums_set (X : List UInt8) (k : Nat) (hk : k < 4) : (nums X k).setIfInBounds k (.int .u32 (num4 X (4 * k) : Nat)) = nums X (k + 1) := by
  rcases (by omega : k = 0 ∨ k = 1 ∨ k = 2 ∨ k = 3) with rfl | rfl | rfl | rfl <;> rfl
theorem nums_get (X : List UInt8) (k j : Nat) (hj : j < 4) : ∃ z : Int, (nums X k)[j]? = some (.int .u32 z) := by
  rcases (by omega : j = 0 ∨ j = 1 ∨ j = 2 ∨ j = 3) with rfl | rfl | rfl | rfl <;> exact ⟨_, rfl⟩
theorem num4_read (X : List UInt8) (k : Nat) (h : 4 * k + 4 ≤ X.length) : ask X (4 * k) 4 = 0 ∧ rat X (4 * k) 4 = 4 * (k + 1) ∧ fixedV (rgot X (4 * k) 4) = num4 X (4 * k) := by
  have h1 : ask X (4 * k) 4 = 0 := ask_ok (by decide) (by omega)
  refine ⟨h1, by unfold rat; rw [if_pos h1]; show 4 * k + 4 = _; omega, ?_⟩
  unfold rgot num4
  rw [if_pos h1]
  show fixedV ((X.take (4 * k + 4)).drop (4 * k)) = _
  rw [List.drop_take, Nat.add_sub_cancel_left]
set_option maxRecDepth 100000 in
theorem numbers_any (ea : Nat → Addr) (v : Value) (X : List UInt8) (w : World) (hr : RowB w v X) (hX : X.length = 16) (he1 : ErrAt w 2 (ea 1)) (he2 : ErrAt w 3 (ea 2)) :
    Calls Tryd.prog 87 #[v] w fun e w' => e = .returned (.tuple #[.agg #[.int .u32 (num4 X 0), .int .u32 (num4 X 4), .int .u32 (num4 X 8), .int .u32 (num4 X 12)], .nilIface]) ∧ Below w.heap.size w w' := by
  have hb1 : Below w.heap.size w (w.alloc (.cells #[.int .u32 0, .int .u32 0, .int .u32 0, .int .u32 0] 165)) := (Below.refl _ _).alloc (Nat.le_refl _) _
  have hc1 := CellsAt.new w #[.int .u32 0, .int .u32 0, .int .u32 0, .int .u32 0] 165
  have hb2 : Below (w.alloc (.cells #[.int .u32 0, .int .u32 0, .int .u32 0, .int .u32 0] 165)).heap.size (w.alloc (.cells #[.int .u32 0, .int .u32 0, .int .u32 0, .int .u32 0] 165)) ((w.alloc (.cells #[.int .u32 0, .int .u32 0, .int .u32 0, .int .u32 0] 165)).alloc (.cells #[.int .u32 0, .int .u32 0, .int .u32 0, .int .u32 0] 165)) := (Below.refl _ _).alloc (Nat.le_refl _) _
  have hc2 := CellsAt.new (w.alloc (.cells #[.int .u32 0, .int .u32 0, .int .u32 0, .int .u32 0] 165)) #[.int .u32 0, .int .u32 0, .int .u32 0, .int .u32 0] 165
  have hc1 := hc1.stays hb2
  have hb12 := hb1.trans (hb2.mono hb1.size)
  have HN := newReader_any v X _ (hr.stays hb12) (by omega)
  obtain ⟨W, hW⟩ : ∃ W, W = (w.alloc (.cells #[.int .u32 0, .int .u32 0, .int .u32 0, .int .u32 0] 165)).alloc (.cells #[.int .u32 0, .int .u32 0, .int .u32 0, .int .u32 0] 165) := ⟨_, rfl⟩
  have hs1 : (w.alloc (.cells #[.int .u32 0, .int .u32 0, .int .u32 0, .int .u32 0] 165)).heap.size = w.heap.size + 1 := by simp
  rw [hs1] at hc2
  rw [← hW] at HN hc1 hc2 hb12
  have HN := Lib.hid HN
  have HVB := Lib.hid (row_apart hr (g := w.heap.size + 1) (by omega))
  have he1 := Lib.hid (fun w' (hb : Below w.heap.size w w') => he1.stays hb)
  have he2 := Lib.hid (fun w' (hb : Below w.heap.size w w') => he2.stays hb)
  clear hb1 hb2 hr hs1
  go_enter Tryd.func87, Tryd.ntmps87
  go_wp2_with fail
  rw [← hW]
  refine HN.out.mono ?_
  rintro e w3 ⟨rfl, hrd3, hb3⟩
  have hc1 := hc1.stays hb3
  have hc2 := hc2.stays hb3
  have hbe3 := hb12.trans (hb3.mono hb12.size)
  have hgl := hb12.size
  obtain ⟨g, hg⟩ : ∃ g, g = W.heap.size := ⟨_, rfl⟩
  have hgn : w.heap.size + 2 = g := by rw [hg, hW]; simp
  rw [← hg] at hrd3 hgl ⊢
  clear HN hb3 hb12 hW hg
  go_wp2_with fail
  go_loopw [11] (fun i wr => ∃ k : Nat, k ≤ 4 ∧ i = .int .i64 k ∧ Rd wr g v X (4 * k) ∧ CellsAt wr (w.heap.size + 1) 165 (nums X k) ∧ CellsAt wr w.heap.size 165 (nums X 0) ∧ Below w.heap.size w wr) (fun i _ => 4 - (intOf i).toNat)
  case atStart => exact ⟨0, by omega, rfl, hrd3, hc2, hc1, hbe3⟩
  case round =>
    obtain ⟨k, hk, rfl, hrd, hca, hcb, hbe⟩ := hrel
    by_cases hlt : k < 4
    · obtain ⟨ha, hb, hc⟩ := num4_read X k (by omega)
      have HF := fixed32_any ea g v X (4 * k) wr hrd (he1.out wr hbe) (he2.out wr hbe)
      rw [ha, hb, hc, EV_zero] at HF
      have HF := Lib.hid HF
      have hni := num4_le X (4 * k)
      obtain ⟨n, hn⟩ : ∃ n, n = num4 X (4 * k) := ⟨_, rfl⟩
      rw [← hn] at HF hni
      have HNE := Lib.hid hn
      obtain ⟨z, hz⟩ := nums_get X k k hlt
      clear ha hb hc hrd hn
      go_wp2_with fail
      refine HF.out.mono ?_
      rintro e w5 ⟨rfl, hrd5, hg5⟩
      have hca5 := hca.grown hg5 (by intro e; cases e; omega)
      have hcb5 := hcb.grown hg5 (by intro e; cases e; omega)
      have hbe5 := hbe.grown hg5 hbe.size (fun k hk => by cases hk; exact hgl)
      have hcz := hca5.cell k hz
      have hfz := hca5.free k
      clear HF hca hcb hg5 hbe hz
      go_wp2_with fail
      go_roundw
      case rel =>
        refine ⟨k + 1, by omega, by go_num, ?_, ?_, hcb5.other _ (by show w.heap.size ≠ w.heap.size + 1; omega) _, hbe5.setCell (by show w.heap.size ≤ w.heap.size + 1; omega) _⟩
        · rw [show 4 * (k + 1) = 4 * (k + 1) from rfl]; exact hrd5.other (g' := w.heap.size + 1) (grownBy_setCell (grownBy_refl _ _) ⟨w.heap.size + 1, k, none⟩ (.inl rfl) _) (by omega) HVB.out
        · have := hca5.set k (.int .u32 (n : Int))
          rw [HNE.out, nums_set X k hlt] at this
          rw [HNE.out]; exact this
      case measure => simp [intOf]; omega
    · obtain rfl : k = 4 := by omega
      have c0 := hca.cell 0 (v := .int .u32 (num4 X 0 : Nat)) rfl
      have c1 := hca.cell 1 (v := .int .u32 (num4 X 4 : Nat)) rfl
      have c2 := hca.cell 2 (v := .int .u32 (num4 X 8 : Nat)) rfl
      have c3 := hca.cell 3 (v := .int .u32 (num4 X 12 : Nat)) rfl
      have d0 := hcb.cell 0 (v := .int .u32 0) rfl
      have d1 := hcb.cell 1 (v := .int .u32 0) rfl
      have d2 := hcb.cell 2 (v := .int .u32 0) rfl
      have d3 := hcb.cell 3 (v := .int .u32 0) rfl
      have f0 := hcb.free 0
      have f1 := hcb.free 1
      have f2 := hcb.free 2
      have f3 := hcb.free 3
      have hsz := hcb.lt
      clear hrd hca hcb
      go_wp2_with fail
      exact bodyPost_ret (v := .tuple #[.agg #[.int .u32 (num4 X 0 : Nat), .int .u32 (num4 X 4 : Nat), .int .u32 (num4 X 8 : Nat), .int .u32 (num4 X 12 : Nat)], .nilIface]) (by simp [results, Tryd.results87, go_sem, d0, d1, d2, d3]) rfl
        ⟨rfl, (((hbe.setCell (Nat.le_refl _) _).setCell (Nat.le_refl _) _).setCell (Nat.le_refl _) _).setCell (Nat.le_refl _) _⟩
/-- the block of bytes -/
def supK (bs : List UInt8) : Nat := if bs.length < 24 then 2 else if openK (bs.take 24) ≠ 0 then 18 else if bs.take 4 = [82, 68, 76, 49] ∧ blkR (num4 bs 4) (num4 bs 8) (num4 bs 12) (num4 bs 16) = true then 0 else 9
def supB (bs : List UInt8) (k : Nat) : Nat := if supK bs = 0 then num4 bs k else 0
theorem supK_le (bs : List UInt8) : supK bs ≤ 19 := by unfold supK; split <;> (try split) <;> (try split) <;> decide
theorem supB_bad {bs : List UInt8} {k : Nat} (h : ¬ supK bs = 0) : supB bs k = 0 := if_neg h
theorem supB_ok {bs : List UInt8} {k : Nat} (h : supK bs = 0) : supB bs k = num4 bs k := if_pos h
theorem openK24 {bs : List UInt8} (h : bs.length = 24) : openK bs = 0 ∨ openK bs = 18 := by
  unfold openK; rw [if_neg (by omega)]; split
  · exact .inl rfl
  · exact .inr rfl
theorem num4_X (bs : List UInt8) (k : Nat) (hk : k + 4 ≤ 16) : num4 (((bs.take 24).take 20).drop 4) k = num4 bs (4 + k) := by
  unfold num4
  rw [List.take_take, List.drop_drop, List.drop_take, List.take_take]
  congr 1
  congr 1
  · omega
set_option maxRecDepth 100000 in
theorem sParse_short (ea : Nat → Addr) (v : Value) (bs : List UInt8) (w : World) (hr : RowB w v bs) (hl : bs.length < 24) (he2 : ErrAt w 3 (ea 2)) :
    Calls Tryd.prog 38 #[v] w fun e w' => e = .returned (.tuple #[.agg #[.int .u32 0, .int .u32 0, .int .i64 0, .int .i64 0], EV ea 2]) ∧ Below w.heap.size w w' := by
  obtain ⟨a, c, rfl, -, -⟩ := hr.gen.shape
  have hb : Below w.heap.size w (w.alloc (.cells #[.int .u32 0, .int .u32 0, .int .i64 0, .int .i64 0] 51)) := (Below.refl _ _).alloc (Nat.le_refl _) _
  have hlt := he2.lt
  have hne : (w.heap.size == 3) = false := by simp; omega
  have HB := Lib.hid hb
  unfold ErrAt at he2
  rw [EV_pos ea (show (2 : Nat) ≠ 0 by decide)]
  clear hr hb
  go_enter Tryd.func38, Tryd.ntmps38
  go_wp2_with fail
  go_region
  all_goals go_wp2_with fail
  all_goals exact bodyPost_ret (v := .tuple #[.agg #[.int .u32 0, .int .u32 0, .int .i64 0, .int .i64 0], .iface 248 (.pointer (some (ea 2)))]) (by simp [results, Tryd.results38, go_sem]) rfl ⟨rfl, HB.out.drew⟩
def zb : Array Value := #[.int .u32 0, .int .u32 0, .int .i64 0, .int .i64 0]
set_option maxRecDepth 100000 in
set_option maxHeartbeats 2000000 in
theorem sParse_long (ea : Nat → Addr) (v : Value) (bs : List UInt8) (w : World) (hr : RowB w v bs) (hl : ¬ bs.length < 24) (hlen : bs.length ≤ 1000000) (he1 : ErrAt w 2 (ea 1)) (he2 : ErrAt w 3 (ea 2)) (he9 : ErrAt w 4 (ea 9)) (he18 : ErrAt w 8 (ea 18)) :
    Calls Tryd.prog 38 #[v] w fun e w' => e = .returned (.tuple #[.agg #[.int .u32 (supB bs 4), .int .u32 (supB bs 8), .int .i64 (supB bs 12), .int .i64 (supB bs 16)], EV ea (supK bs)]) ∧ Below w.heap.size w w' := by
  obtain ⟨a, c, rfl, -, -⟩ := hr.gen.shape
  have hb0 : Below w.heap.size w (w.alloc (.cells #[.int .u32 0, .int .u32 0, .int .i64 0, .int .i64 0] 51)) := (Below.refl _ _).alloc (Nat.le_refl _) _
  have hc0 := CellsAt.new w #[.int .u32 0, .int .u32 0, .int .i64 0, .int .i64 0] 51
  have HB0 := Lib.hid hb0
  obtain ⟨W, hW⟩ : ∃ W, W = w.alloc (.cells #[.int .u32 0, .int .u32 0, .int .i64 0, .int .i64 0] 51) := ⟨_, rfl⟩
  rw [← hW] at hb0 hc0
  have HROW : Hid (∀ w', Below w.heap.size w w' → RowB w' (.slice a bs.length c) bs) := fun w' hb => hr.stays hb
  have HE1 := Lib.hid (fun w' (hb : Below w.heap.size w w') => he1.stays hb)
  have HE2 := Lib.hid (fun w' (hb : Below w.heap.size w w') => he2.stays hb)
  have HE9 := Lib.hid (fun w' (hb : Below w.heap.size w w') => he9.stays hb)
  have HE18 := Lib.hid (fun w' (hb : Below w.heap.size w w') => he18.stays hb)
  have HL9 := Lib.hid he9.lt
  have hnl : 24 ≤ bs.length := by omega
  have hli : (24 : Int) ≤ bs.length := by omega
  have HBS := Lib.hid hl
  clear hr he1 he2 he9 he18 hl
  go_enter Tryd.func38, Tryd.ntmps38
  go_wp2_with (refine wpList_sliceTo (o := ⟨some 17, _, _, _, _, _⟩) (f := BV) (HROW.out _ HB0.out) 24 hnl Tryd.underlying23 infoB rfl _ _ rfl rfl .i64 24 rfl rfl ?_)
  intro v17 hr17
  rw [← hW] at hr17 ⊢
  clear hW HB0
  have HO := open_any ea v17 (bs.take 24) W hr17 (by simp; omega) (HE1.out _ hb0) (HE2.out _ hb0) (HE18.out _ hb0)
  have h24 : (bs.take 24).length = 24 := by simp; omega
  rcases openK24 h24 with hk | hk
  · have hop : opened (bs.take 24) = (bs.take 24).take 20 := by unfold opened; rw [if_pos hk, h24]
    rw [hk, hop, EV_zero] at HO
    have HO := Lib.hid HO
    have HOK := Lib.hid hk
    clear hr17 hop hk h24
    go_wp2_with fail
    refine HO.out.mono ?_
    rintro e w1 ⟨v4, rfl, ho1, hb1⟩
    have hc1 := hc0.stays hb1
    have hbe1 := hb0.trans (hb1.mono hb0.size)
    have kc := fun (w : World) (C : Array Value) (n c : Nat) => Lib.run_convert_bytes_const (P := Tryd.prog) w 23 5 C n c Tryd.underlying23 Tryd.underlying5
    have hb2 : Below w1.heap.size w1 (w1.alloc (.cells #[.int .u8 82, .int .u8 68, .int .u8 76, .int .u8 49] 5 (4, 5))) := (Below.refl _ _).alloc (Nat.le_refl _) _
    have hm := rowB_lits w1 [82, 68, 76, 49] _ (4, 5) rfl 4 rfl (by decide)
    have ho2 := ho1.row.stays hb2
    have hc2 := hc1.stays hb2
    have hbe2 := hbe1.trans (hb2.mono hbe1.size)
    clear HO ho1 hb1 hc1 hc0 hb0 hbe1
    have htk : ((bs.take 24).take 20).take 4 = bs.take 4 := by simp [List.take_take]
    have hY : ((bs.take 24).take 20).length = 20 := by simp; omega
    have hXl : (((bs.take 24).take 20).drop 4).length = 16 := by simp; omega
    have nx := num4_X bs
    obtain ⟨Y, hYe⟩ : ∃ Y, Y = (bs.take 24).take 20 := ⟨_, rfl⟩
    rw [← hYe] at htk hY hXl ho2 nx
    obtain ⟨X, hXe⟩ : ∃ X, X = Y.drop 4 := ⟨_, rfl⟩
    rw [← hXe] at hXl nx
    have HNX := Lib.hid nx
    have HXL := Lib.hid hXl
    clear hYe nx hXl
    by_cases hmag : bs.take 4 = [82, 68, 76, 49]
    · have hcp := cutPrefix_yes v4 _ _ _ _ ho2 hm (by omega) (by simp) (htk.trans hmag)
      rw [show ([82, 68, 76, 49] : List UInt8).length = 4 from rfl, ← hXe] at hcp
      have HC := Lib.hid hcp
      have HMAG := Lib.hid hmag
      clear hcp hmag htk hY hXe ho2 hm
      go_wp2_with fail
      refine HC.out.mono ?_
      rintro e w3 ⟨v6, rfl, hr6, rfl⟩
      have hnm := numbers_any ea v6 X _ hr6 HXL.out (HE1.out _ hbe2) (HE2.out _ hbe2)
      have e0 := HNX.out 0 (by decide)
      have e1 := HNX.out 4 (by decide)
      have e2 := HNX.out 8 (by decide)
      have e3 := HNX.out 12 (by decide)
      rw [e0, e1, e2, e3] at hnm
      have l0 := num4_le bs 4
      have l1 := num4_le bs 8
      have l2 := num4_le bs 12
      have l3 := num4_le bs 16
      have HNM := Lib.hid hnm
      have HSK : Hid (supK bs = if blkR (num4 bs 4) (num4 bs 8) (num4 bs 12) (num4 bs 16) = true then 0 else 9) := by
        show _ = _
        unfold supK
        rw [if_neg HBS.out, if_neg (by rw [HOK.out]; decide)]
        by_cases hb : blkR (num4 bs 4) (num4 bs 8) (num4 bs 12) (num4 bs 16) = true
        · rw [if_pos ⟨HMAG.out, hb⟩, if_pos hb]
        · rw [if_neg (fun h => hb h.2), if_neg hb]
      have HSB : Hid ((supB bs 4 = if supK bs = 0 then num4 bs 4 else 0) ∧ (supB bs 8 = if supK bs = 0 then num4 bs 8 else 0) ∧ (supB bs 12 = if supK bs = 0 then num4 bs 12 else 0) ∧ (supB bs 16 = if supK bs = 0 then num4 bs 16 else 0)) := ⟨rfl, rfl, rfl, rfl⟩
      clear HC hnm e0 e1 e2 e3 hr6
      generalize num4 bs 4 = n0 at *
      generalize num4 bs 8 = n1 at *
      generalize num4 bs 12 = n2 at *
      generalize num4 bs 16 = n3 at *
      have li0 : (n0 : Int) ≤ 4294967295 := by omega
      have li1 : (n1 : Int) ≤ 4294967295 := by omega
      have li2 : (n2 : Int) ≤ 4294967295 := by omega
      have li3 : (n3 : Int) ≤ 4294967295 := by omega
      go_wp2_with fail
      refine HNM.out.mono ?_
      rintro e w4 ⟨rfl, hb4⟩
      have hc4 := hc2.stays hb4
      have hbe4 := hbe2.trans (hb4.mono hbe2.size)
      have ha : Below w4.heap.size w4 (w4.alloc (.cells #[.int .u32 n0, .int .u32 n1, .int .u32 n2, .int .u32 n3] 165)) := (Below.refl _ _).alloc (Nat.le_refl _) _
      have hs4 : (w4.alloc (.cells #[.int .u32 n0, .int .u32 n1, .int .u32 n2, .int .u32 n3] 165)).heap.size = w4.heap.size + 1 := by simp
      have hcB := CellsAt.new (w4.alloc (.cells #[.int .u32 n0, .int .u32 n1, .int .u32 n2, .int .u32 n3] 165)) #[.int .u32 n0, .int .u32 n1, .int .i64 n2, .int .i64 n3] 51
      have hb : Below (w4.alloc (.cells #[.int .u32 n0, .int .u32 n1, .int .u32 n2, .int .u32 n3] 165)).heap.size (w4.alloc (.cells #[.int .u32 n0, .int .u32 n1, .int .u32 n2, .int .u32 n3] 165)) ((w4.alloc (.cells #[.int .u32 n0, .int .u32 n1, .int .u32 n2, .int .u32 n3] 165)).alloc (.cells #[.int .u32 n0, .int .u32 n1, .int .i64 n2, .int .i64 n3] 51)) := (Below.refl _ _).alloc (Nat.le_refl _) _
      have hab := ha.trans (hb.mono ha.size)
      have hc5 := hc4.stays hab
      have hbe5 := hbe4.trans (hab.mono hbe4.size)
      rw [hs4] at hcB
      have HRT := sRight_any n0 n1 n2 n3 ((w4.alloc (.cells #[.int .u32 n0, .int .u32 n1, .int .u32 n2, .int .u32 n3] 165)).alloc (.cells #[.int .u32 n0, .int .u32 n1, .int .i64 n2, .int .i64 n3] 51)) (by omega) (by omega) (by omega) (by omega) (by omega)
      have HBE5 := Lib.hid hbe5
      have HC5 := Lib.hid hc5
      have HCB := Lib.hid hcB
      have hw4 := hbe4.size
      clear HNM hb4 hc2 hbe2 ha hb hab hc4 hbe4 hc5 hbe5 hcB hs4
      by_cases hR : blkR n0 n1 n2 n3 = true
      · have hK0 : supK bs = 0 := by rw [HSK.out, if_pos hR]
        have hS := HSB.out
        rw [hK0, if_pos rfl, if_pos rfl, if_pos rfl, if_pos rfl] at hS
        have HZ : Hid (.returned (.tuple #[.agg #[.int .u32 n0, .int .u32 n1, .int .i64 n2, .int .i64 n3], .nilIface]) = Ending.returned (.tuple #[.agg #[.int .u32 (supB bs 4), .int .u32 (supB bs 8), .int .i64 (supB bs 12), .int .i64 (supB bs 16)], EV ea (supK bs)])) := by
          show _ = _
          rw [hS.1, hS.2.1, hS.2.2.1, hS.2.2.2, hK0]; rfl
        rw [hR] at HRT
        have HRT := Lib.hid HRT
        clear hS hK0 hR HSK HSB
        go_wp2_with fail
        refine HRT.out.mono ?_
        rintro e w6 ⟨rfl, hb6⟩
        have hc6 := HC5.out.stays hb6
        have hcB6 := HCB.out.stays hb6
        have hbe6 := HBE5.out.trans (hb6.mono HBE5.out.size)
        have b0 := hcB6.cell 0 (v := .int .u32 n0) rfl
        have b1 := hcB6.cell 1 (v := .int .u32 n1) rfl
        have b2 := hcB6.cell 2 (v := .int .i64 n2) rfl
        have b3 := hcB6.cell 3 (v := .int .i64 n3) rfl
        have c0 := hc6.cell 0 (v := .int .u32 0) rfl
        have c1 := hc6.cell 1 (v := .int .u32 0) rfl
        have c2 := hc6.cell 2 (v := .int .i64 0) rfl
        have c3 := hc6.cell 3 (v := .int .i64 0) rfl
        have f0 := hc6.free 0
        have f1 := hc6.free 1
        have f2 := hc6.free 2
        have f3 := hc6.free 3
        have hsz := hc6.lt
        clear HRT hb6 hc6 hcB6
        go_wp2_with fail
        exact bodyPost_ret (v := .tuple #[.agg #[.int .u32 n0, .int .u32 n1, .int .i64 n2, .int .i64 n3], .nilIface]) (by simp [results, Tryd.results38, go_sem, c0, c1, c2, c3]) rfl ⟨HZ.out, (((hbe6.setCell (Nat.le_refl _) _).setCell (Nat.le_refl _) _).setCell (Nat.le_refl _) _).setCell (Nat.le_refl _) _⟩
      · have hK : supK bs = 9 := by rw [HSK.out, if_neg hR]
        have HZ : Hid (.returned (.tuple #[.agg #[.int .u32 0, .int .u32 0, .int .i64 0, .int .i64 0], .iface 248 (.pointer (some (ea 9)))]) = Ending.returned (.tuple #[.agg #[.int .u32 (supB bs 4), .int .u32 (supB bs 8), .int .i64 (supB bs 12), .int .i64 (supB bs 16)], EV ea (supK bs)])) := by
          show _ = _
          rw [supB_bad (by rw [hK]; decide), supB_bad (by rw [hK]; decide), supB_bad (by rw [hK]; decide), supB_bad (by rw [hK]; decide), hK]; rfl
        have hR' : blkR n0 n1 n2 n3 = false := by simpa using hR
        rw [hR'] at HRT
        have HRT := Lib.hid HRT
        clear hK hR hR' HSK HSB
        go_wp2_with fail
        refine HRT.out.mono ?_
        rintro e w6 ⟨rfl, hb6⟩
        have hc6 := HC5.out.stays hb6
        have hbe6 := HBE5.out.trans (hb6.mono HBE5.out.size)
        have he9 := HE9.out _ hbe6
        have hn9 := HL9.out
        have c0 := hc6.cell 0 (v := .int .u32 0) rfl
        have c1 := hc6.cell 1 (v := .int .u32 0) rfl
        have c2 := hc6.cell 2 (v := .int .i64 0) rfl
        have c3 := hc6.cell 3 (v := .int .i64 0) rfl
        have f0 := hc6.free 0
        have f1 := hc6.free 1
        have f2 := hc6.free 2
        have f3 := hc6.free 3
        have hsz := hc6.lt
        have hne : (w.heap.size == 4) = false := by simp; omega
        unfold ErrAt at he9
        clear HRT hb6 hc6
        go_wp2_with fail
        go_region
        all_goals go_wp2_with fail
        all_goals exact bodyPost_ret (v := .tuple #[.agg #[.int .u32 0, .int .u32 0, .int .i64 0, .int .i64 0], .iface 248 (.pointer (some (ea 9)))]) (by simp [results, Tryd.results38, go_sem, c0, c1, c2, c3]) rfl ⟨HZ.out, ((((hbe6.setCell (Nat.le_refl _) _).setCell (Nat.le_refl _) _).setCell (Nat.le_refl _) _).setCell (Nat.le_refl _) _).drew⟩
    · have hK : supK bs = 9 := by unfold supK; rw [if_neg HBS.out, if_neg (by rw [HOK.out]; decide), if_neg (fun h => hmag h.1)]
      have HZ : Hid (.returned (.tuple #[.agg #[.int .u32 0, .int .u32 0, .int .i64 0, .int .i64 0], .iface 248 (.pointer (some (ea 9)))]) = Ending.returned (.tuple #[.agg #[.int .u32 (supB bs 4), .int .u32 (supB bs 8), .int .i64 (supB bs 12), .int .i64 (supB bs 16)], EV ea (supK bs)])) := by
        show _ = _
        rw [supB_bad (by rw [hK]; decide), supB_bad (by rw [hK]; decide), supB_bad (by rw [hK]; decide), supB_bad (by rw [hK]; decide), hK]; rfl
      have hcp := cutPrefix_no v4 _ _ _ _ ho2 hm (by omega) (by simp) (fun h => hmag (htk.symm.trans h))
      have HC := Lib.hid hcp
      have he9 := HE9.out _ hbe2
      have hn9 := HL9.out
      have c0 := hc2.cell 0 (v := .int .u32 0) rfl
      have c1 := hc2.cell 1 (v := .int .u32 0) rfl
      have c2 := hc2.cell 2 (v := .int .i64 0) rfl
      have c3 := hc2.cell 3 (v := .int .i64 0) rfl
      have f0 := hc2.free 0
      have f1 := hc2.free 1
      have f2 := hc2.free 2
      have f3 := hc2.free 3
      have hsz := hc2.lt
      have hne : (w.heap.size == 4) = false := by simp; omega
      unfold ErrAt at he9
      clear hcp hmag htk hY hXe ho2 hm hK HNX HXL hc2
      go_wp2_with fail
      refine HC.out.mono ?_
      rintro e w3 ⟨rfl, rfl⟩
      go_wp2_with fail
      go_region
      all_goals go_wp2_with fail
      all_goals exact bodyPost_ret (v := .tuple #[.agg #[.int .u32 0, .int .u32 0, .int .i64 0, .int .i64 0], .iface 248 (.pointer (some (ea 9)))]) (by simp [results, Tryd.results38, go_sem, c0, c1, c2, c3]) rfl ⟨HZ.out, ((((hbe2.setCell (Nat.le_refl _) _).setCell (Nat.le_refl _) _).setCell (Nat.le_refl _) _).setCell (Nat.le_refl _) _).drew⟩
  · have hK : supK bs = 18 := by unfold supK; rw [if_neg HBS.out, if_pos (by rw [hk]; decide)]
    rw [hk, EV_pos ea (show (18 : Nat) ≠ 0 by decide)] at HO
    have HO := Lib.hid HO
    have HZ : Hid (.returned (.tuple #[.agg #[.int .u32 0, .int .u32 0, .int .i64 0, .int .i64 0], .iface 248 (.pointer (some (ea 18)))]) = Ending.returned (.tuple #[.agg #[.int .u32 (supB bs 4), .int .u32 (supB bs 8), .int .i64 (supB bs 12), .int .i64 (supB bs 16)], EV ea (supK bs)])) := by
      show _ = _
      rw [supB_bad (by rw [hK]; decide), supB_bad (by rw [hK]; decide), supB_bad (by rw [hK]; decide), supB_bad (by rw [hK]; decide), hK]; rfl
    clear hk hK hr17 h24
    go_wp2_with fail
    refine HO.out.mono ?_
    rintro e w1 ⟨v4, rfl, ho1, hb1⟩
    have hc1 := hc0.stays hb1
    have hbe1 := hb0.trans (hb1.mono hb0.size)
    have c0 := hc1.cell 0 (v := .int .u32 0) rfl
    have c1 := hc1.cell 1 (v := .int .u32 0) rfl
    have c2 := hc1.cell 2 (v := .int .i64 0) rfl
    have c3 := hc1.cell 3 (v := .int .i64 0) rfl
    have f0 := hc1.free 0
    have f1 := hc1.free 1
    have f2 := hc1.free 2
    have f3 := hc1.free 3
    have hsz := hc1.lt
    clear HO ho1 hb1 hc1 hc0 hb0
    go_wp2_with fail
    exact bodyPost_ret (v := .tuple #[.agg #[.int .u32 0, .int .u32 0, .int .i64 0, .int .i64 0], .iface 248 (.pointer (some (ea 18)))]) (by simp [results, Tryd.results38, go_sem, c0, c1, c2, c3]) rfl ⟨HZ.out, (((hbe1.setCell (Nat.le_refl _) _).setCell (Nat.le_refl _) _).setCell (Nat.le_refl _) _).setCell (Nat.le_refl _) _⟩
end Go.Proofs.YtgehbabcpmkgaaaDoor
