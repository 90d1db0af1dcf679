/- The program's part, fields, ContainsFunc over parts, pairs; Right. -/
import Derived.Test.YtcjflglpkpkflaaDoorVj
namespace Go.Proofs.YtcjflglpkpkflaaDoor
open Go Go.RowKit
set_option linter.unusedVariables false
def RightC (v : V) : Prop := ∀ (a : A3) (S : Nat → Prop) (w : World), Rep S w v a → Calls Tryd.prog 66 #[vG (v, a)] w fun e w' => e = .returned (.bool (rightV v)) ∧ Below w.heap.size w w'
section
variable {k : Int} {n : Nat} {t r : List UInt8} {fs : List (Int × V)} {ls : List V} {ps : List (V × V)} {fa la pa : Option Addr} {fc lc pc : Nat} {S : Nat → Prop} {w : World}
theorem RightC.lit (h : RightC (.mk k n t fs r ls ps)) (hr : Rep S w (.mk k n t fs r ls ps) ⟨fa, fc, la, lc, pa, pc⟩) : Calls Tryd.prog 66 #[.agg #[.int .i64 k, .int .u64 (n : Int), .string (strB t), .slice fa fs.length fc, .string (strB r), .slice la ls.length lc, .slice pa ps.length pc]] w fun e w' => e = .returned (.bool (rightV (.mk k n t fs r ls ps))) ∧ Below w.heap.size w w' := by
  have := h _ S w hr
  rw [vG_lit] at this
  exact this
theorem singleK_iff (k : Int) : singleK k = (decide (1 ≤ k) && decide (k ≤ 3)) := by
  unfold singleK
  rw [Bool.eq_iff_iff]
  simp only [Bool.or_eq_true, beq_iff_eq, Bool.and_eq_true, decide_eq_true_eq]
  omega
set_option maxRecDepth 100000 in
set_option maxHeartbeats 4000000 in
theorem part_lit (h : RightC (.mk k n t fs r ls ps)) (hr : Rep S w (.mk k n t fs r ls ps) ⟨fa, fc, la, lc, pa, pc⟩) : Calls Tryd.prog 73 #[.agg #[.int .i64 k, .int .u64 (n : Int), .string (strB t), .slice fa fs.length fc, .string (strB r), .slice la ls.length lc, .slice pa ps.length pc]] w fun e w' => e = .returned (.bool (singleK k && rightV (.mk k n t fs r ls ps))) ∧ Below w.heap.size w w' := by
  have HC : Hid (∀ W, Below w.heap.size w W → Calls _ _ _ W _) := fun W hb => RightC.lit h (hr.stays hb)
  have HBA : Hid (Below w.heap.size w (w.alloc (.cells #[.int .i64 k, .int .u64 (n : Int), .string (strB t), .slice fa fs.length fc, .string (strB r), .slice la ls.length lc, .slice pa ps.length pc] 27))) := (Below.refl _ _).alloc (Nat.le_refl _) _
  clear h hr
  generalize rightV (.mk k n t fs r ls ps) = R at HC ⊢
  by_cases h1 : 1 ≤ k
  · by_cases h2 : k ≤ 3
    · have HZ : Hid (singleK k = true) := by show _ = _; rw [singleK_iff, decide_eq_true h1, decide_eq_true h2]; rfl
      go_enter Tryd.func73, Tryd.ntmps73
      go_wp2_with fail
      refine (HC.out _ HBA.out).mono ?_
      rintro e w1 ⟨rfl, hb1⟩
      have HB1 := Lib.hid (HBA.out.trans (hb1.mono HBA.out.size))
      clear hb1
      go_wp2_with fail
      go_ret
      exact ⟨congrArg (fun z => Ending.returned (Value.bool z)) (by rw [HZ.out]; rfl), HB1.out⟩
    · have HZ : Hid (singleK k = false) := by show _ = _; rw [singleK_iff, decide_eq_false h2]; simp
      go_enter Tryd.func73, Tryd.ntmps73
      go_wp2_with fail
      go_ret
      exact ⟨congrArg (fun z => Ending.returned (Value.bool z)) (by rw [HZ.out]; rfl), HBA.out⟩
  · have HZ : Hid (singleK k = false) := by show _ = _; rw [singleK_iff, decide_eq_false h1]; rfl
    go_enter Tryd.func73, Tryd.ntmps73
    go_wp2_with fail
    go_ret
    exact ⟨congrArg (fun z => Ending.returned (Value.bool z)) (by rw [HZ.out]; rfl), HBA.out⟩
set_option maxRecDepth 100000 in
set_option maxHeartbeats 4000000 in
theorem rclo_lit (h : RightC (.mk k n t fs r ls ps)) (hr : Rep S w (.mk k n t fs r ls ps) ⟨fa, fc, la, lc, pa, pc⟩) : Calls Tryd.prog 72 #[.agg #[.int .i64 k, .int .u64 (n : Int), .string (strB t), .slice fa fs.length fc, .string (strB r), .slice la ls.length lc, .slice pa ps.length pc]] w fun e w' => e = .returned (.bool (!(singleK k && rightV (.mk k n t fs r ls ps)))) ∧ Below w.heap.size w w' := by
  have HC : Hid (∀ W, Below w.heap.size w W → Calls _ _ _ W _) := fun W hb => part_lit h (hr.stays hb)
  have HBA : Hid (Below w.heap.size w (w.alloc (.cells #[.int .i64 k, .int .u64 (n : Int), .string (strB t), .slice fa fs.length fc, .string (strB r), .slice la ls.length lc, .slice pa ps.length pc] 27))) := (Below.refl _ _).alloc (Nat.le_refl _) _
  clear h hr
  generalize (singleK k && rightV (.mk k n t fs r ls ps)) = R at HC ⊢
  go_enter Tryd.func72, Tryd.ntmps72
  go_wp2_with fail
  refine (HC.out _ HBA.out).mono ?_
  rintro e w1 ⟨rfl, hb1⟩
  have HB1 := Lib.hid (HBA.out.trans (hb1.mono HBA.out.size))
  clear hb1
  go_wp2_with fail
  go_ret
  exact ⟨rfl, HB1.out⟩
theorem rightF_cons (last n : Int) (v : V) (r : List (Int × V)) : rightF last ((n, v) :: r) = (decide (last < n) && decide (n ≤ 536870911) && (v.k != 0) && rightV v && rightF n r) := by rw [rightF]
theorem rightL_cons (v : V) (r : List V) : rightL (v :: r) = (singleK v.k && rightV v && rightL r) := by rw [rightL]
set_option maxRecDepth 100000 in
set_option maxHeartbeats 4000000 in
theorem fields_any (ihf : ∀ p ∈ fs, RightC p.2) (hr : Rep S w (.mk k n t fs r ls ps) ⟨fa, fc, la, lc, pa, pc⟩) :
    Calls Tryd.prog 70 #[.slice fa fs.length fc] w fun e w' => e = .returned (.bool (rightF 0 fs)) ∧ Below w.heap.size w w' := by
  obtain ⟨hk, hn, hfl, hll, hpl⟩ := hr.bds
  unfold maxLen at hfl hll hpl
  have HR : Hid (∀ W, Below w.heap.size w W → Rep S W (.mk k n t fs r ls ps) ⟨fa, fc, la, lc, pa, pc⟩) := fun W hb => hr.stays hb
  have IHF := Lib.hid ihf
  clear ihf hr
  go_enter Tryd.func70, Tryd.ntmps70
  go_wp2_with fail
  go_loopw [3, 8] (fun x i wr => ∃ (m : Nat) (L : Int), m ≤ fs.length ∧ i = .int .i64 m ∧ x = .int .i64 L ∧ Hid (rightF L (fs.drop m) = rightF 0 fs) ∧ Below w.heap.size w wr) (fun _ i _ => fs.length - (intOf i).toNat)
  case atStart => exact ⟨0, 0, Nat.zero_le _, rfl, rfl, rfl, Below.refl _ _⟩
  case round =>
    obtain ⟨m, L, hm, rfl, rfl, HI, hbe⟩ := hrel
    by_cases h1 : m < fs.length
    · obtain ⟨⟨num, ⟨k', n', t', fs', r', ls', ps'⟩⟩, hq⟩ : ∃ p, fs[m]? = some p := ⟨_, List.getElem?_eq_getElem h1⟩
      obtain ⟨b, o, fa', la', pa', fc', lc', pc', rfl, hnum, hrx, c0, c1, c2, c3, c4, c5, c6, c7⟩ := (HR.out wr hbe).fieldAt hq
      have hI := HI.out
      rw [drop_fields hq, rightF_cons] at hI
      have HBA : Hid (Below w.heap.size w (wr.alloc (.cells #[.int .i64 num, .int .i64 k', .int .u64 (n' : Int), .string (strB t'), .slice fa' fs'.length fc', .string (strB r'), .slice la' ls'.length lc', .slice pa' ps'.length pc'] 51))) := hbe.alloc hbe.size _
      have HBR : Hid (Below wr.heap.size wr (wr.alloc (.cells #[.int .i64 num, .int .i64 k', .int .u64 (n' : Int), .string (strB t'), .slice fa' fs'.length fc', .string (strB r'), .slice la' ls'.length lc', .slice pa' ps'.length pc'] 51))) := (Below.refl _ _).alloc (Nat.le_refl _) _
      have HC : Hid (∀ W, Below wr.heap.size wr W → Calls _ _ _ W _) := fun W hb => RightC.lit (IHF.out _ (List.mem_of_getElem? hq)) (hrx.stays hb)
      generalize rightV (.mk k' n' t' fs' r' ls' ps') = R at HC hI
      have HI2 := Lib.hid hI
      clear hI HI hrx hq
      by_cases t1 : num ≤ L
      · have HZ : Hid (false = rightF 0 fs) := by have := HI2.out; rw [decide_eq_false (by omega : ¬ L < num)] at this; exact this
        go_wp2_with fail
        go_ret
        exact ⟨congrArg (fun z => Ending.returned (Value.bool z)) HZ.out, HBA.out⟩
      · by_cases t2 : 536870911 < num
        · have HZ : Hid (false = rightF 0 fs) := by have := HI2.out; rw [decide_eq_false (by omega : ¬ num ≤ 536870911)] at this; show _ = _; simpa using this
          go_wp2_with fail
          go_ret
          exact ⟨congrArg (fun z => Ending.returned (Value.bool z)) HZ.out, HBA.out⟩
        · by_cases t3 : k' = 0
          · subst t3
            have HZ : Hid (false = rightF 0 fs) := by have := HI2.out; rw [show (V.mk 0 n' t' fs' r' ls' ps').k = 0 from rfl] at this; show _ = _; simpa using this
            go_wp2_with fail
            go_ret
            exact ⟨congrArg (fun z => Ending.returned (Value.bool z)) HZ.out, HBA.out⟩
          · have f3 : (k' == 0) = false := by simpa using t3
            have HI3 : Hid ((R && rightF num (fs.drop (m + 1))) = rightF 0 fs) := by
              have := HI2.out
              rw [decide_eq_true (by omega : L < num), decide_eq_true (by omega : num ≤ 536870911), show ((V.mk k' n' t' fs' r' ls' ps').k != 0) = true from (by simpa using t3 : (k' != 0) = true)] at this
              show _ = _
              simpa using this
            clear t3 HI2
            go_wp2_with fail
            refine (HC.out _ HBR.out).mono ?_
            rintro e w2 ⟨rfl, hb2⟩
            have hbe2 : Below w.heap.size w w2 := HBA.out.trans (hb2.mono HBA.out.size)
            have hcx := (CellsAt.new wr #[.int .i64 num, .int .i64 k', .int .u64 (n' : Int), .string (strB t'), .slice fa' fs'.length fc', .string (strB r'), .slice la' ls'.length lc', .slice pa' ps'.length pc'] 51).stays hb2
            have d0 := hcx.cell 0 (v := .int .i64 num) rfl
            have hlt := hcx.lt
            clear HC hb2 hcx HBA HBR c0 c1 c2 c3 c4 c5 c6 c7
            cases R with
            | true =>
              go_wp2_with fail
              go_roundw
              case rel => exact ⟨m + 1, num, h1, by go_num, rfl, by show _ = _; simpa using HI3.out, hbe2⟩
              case measure => simp only [intOf]; omega
            | false =>
              have HZ : Hid (false = rightF 0 fs) := HI3.out
              go_wp2_with fail
              go_ret
              exact ⟨congrArg (fun z => Ending.returned (Value.bool z)) HZ.out, hbe2⟩
    · have HZ : Hid (true = rightF 0 fs) := by show _ = _; rw [← HI.out, List.drop_of_length_le (by omega), rightF]
      clear HI
      go_wp2_with fail
      go_ret
      exact ⟨congrArg (fun z => Ending.returned (Value.bool z)) HZ.out, hbe⟩
set_option maxRecDepth 100000 in
set_option maxHeartbeats 4000000 in
/-- where the first stands that is no part; below 0: all are -/
theorem indexPart_any (ihl : ∀ x ∈ ls, RightC x) (hr : Rep S w (.mk k n t fs r ls ps) ⟨fa, fc, la, lc, pa, pc⟩) :
    Calls Tryd.prog 76 #[.slice la ls.length lc, .func (.func 72) #[] #[]] w fun e w' => (∃ z : Int, e = .returned (.int .i64 z) ∧ decide (0 ≤ z) = !(rightL ls)) ∧ Below w.heap.size w w' := by
  obtain ⟨hk, hn, hfl, hll, hpl⟩ := hr.bds
  unfold maxLen at hfl hll hpl
  have HR : Hid (∀ W, Below w.heap.size w W → Rep S W (.mk k n t fs r ls ps) ⟨fa, fc, la, lc, pa, pc⟩) := fun W hb => hr.stays hb
  have IHL := Lib.hid ihl
  clear ihl hr
  go_enter Tryd.func76, Tryd.ntmps76
  go_wp2_with fail
  go_loopw [8] (fun i wr => ∃ (m : Nat), m ≤ ls.length ∧ i = .int .i64 m ∧ Hid (rightL (ls.drop m) = rightL ls) ∧ Below w.heap.size w wr) (fun i _ => ls.length - (intOf i).toNat)
  case atStart => exact ⟨0, Nat.zero_le _, rfl, rfl, Below.refl _ _⟩
  case round =>
    obtain ⟨m, hm, rfl, HI, hbe⟩ := hrel
    by_cases h1 : m < ls.length
    · obtain ⟨⟨k', n', t', fs', r', ls', ps'⟩, hq⟩ : ∃ p, ls[m]? = some p := ⟨_, List.getElem?_eq_getElem h1⟩
      obtain ⟨b, o, fa', la', pa', fc', lc', pc', rfl, hrx, c0, c1, c2, c3, c4, c5, c6⟩ := (HR.out wr hbe).partAt hq
      have hI := HI.out
      rw [drop_fields hq, rightL_cons] at hI
      replace hI : (singleK k' && rightV (.mk k' n' t' fs' r' ls' ps') && rightL (ls.drop (m + 1))) = rightL ls := hI
      have HC := Lib.hid (rclo_lit (IHL.out _ (List.mem_of_getElem? hq)) hrx)
      generalize (singleK k' && rightV (.mk k' n' t' fs' r' ls' ps')) = R at HC hI
      have HI2 := Lib.hid hI
      clear hI HI hrx hq
      go_wp2_with fail
      refine HC.out.mono ?_
      rintro e w2 ⟨rfl, hb2⟩
      have hbe2 : Below w.heap.size w w2 := hbe.trans (hb2.mono hbe.size)
      clear HC hb2 c0 c1 c2 c3 c4 c5 c6
      cases R with
      | true =>
        go_wp2_with fail
        go_roundw
        case rel => exact ⟨m + 1, h1, by go_num, by show _ = _; simpa using HI2.out, hbe2⟩
        case measure => simp only [intOf]; omega
      | false =>
        have HZ : Hid (decide (0 ≤ (m : Int)) = !(rightL ls)) := by have := HI2.out; rw [Bool.false_and] at this; show _ = _; rw [← this, decide_eq_true (by omega)]; rfl
        go_wp2_with fail
        go_ret
        exact ⟨⟨m, rfl, HZ.out⟩, hbe2⟩
    · have HZ : Hid (decide (0 ≤ (-1 : Int)) = !(rightL ls)) := by show _ = _; rw [← HI.out, List.drop_of_length_le (by omega), rightL]; rfl
      clear HI
      go_wp2_with fail
      go_ret
      exact ⟨⟨-1, rfl, HZ.out⟩, hbe⟩
set_option maxRecDepth 100000 in
set_option maxHeartbeats 4000000 in
theorem containsPart_any (ihl : ∀ x ∈ ls, RightC x) (hr : Rep S w (.mk k n t fs r ls ps) ⟨fa, fc, la, lc, pa, pc⟩) :
    Calls Tryd.prog 71 #[.slice la ls.length lc, .func (.func 72) #[] #[]] w fun e w' => e = .returned (.bool (!(rightL ls))) ∧ Below w.heap.size w w' := by
  have HC := Lib.hid (indexPart_any ihl hr)
  clear ihl hr
  go_enter Tryd.func71, Tryd.ntmps71
  go_wp2_with fail
  refine HC.out.mono ?_
  rintro e w1 ⟨⟨z, rfl, hz⟩, hb1⟩
  have HZ := Lib.hid hz
  clear hz
  go_wp2_with fail
  go_ret
  exact ⟨congrArg (fun z => Ending.returned (Value.bool z)) HZ.out, hb1⟩
end
end Go.Proofs.YtcjflglpkpkflaaDoor
