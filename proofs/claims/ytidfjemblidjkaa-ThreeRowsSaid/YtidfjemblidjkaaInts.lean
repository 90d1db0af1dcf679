/- slices.Clone, Reverse, Equal at []int. -/
import Derived.Test.YtidfjemblidjkaaLib
import Derived.Lib.SliceRun
namespace Go.Proofs.Ytidfjemblidjkaa
open Go Go.RowKit
set_option linter.unusedVariables false
theorem infoZ0 : (Try.prog.info? 3).map (fun i => (i.zero, i.size, i.bytes)) = some (some (.int .i64 0), 1, 8) := by kernel_rfl
set_option maxRecDepth 100000 in
theorem cloneZ_any (v : Value) (xs : List Int) (w : World) (hr : RowZ w v xs) (hlen : xs.length ≤ 100000000) :
    Calls Try.prog 50 #[v] w fun e w' => ∃ v', e = .returned v' ∧ OwnL 3 IV w.heap.size w' v' xs ∧ Below w.heap.size w w' := by
  have hr' : ∀ o, RowL IV (w.alloc o) v xs := fun o => hr.gen.alloc o
  obtain ⟨a, n, c, rfl, hnil⟩ : ∃ a n c, v = .slice a n c ∧ (a = none → xs = []) := by
    obtain ⟨a, c, h, _, h2⟩ := hr.gen.shape
    refine ⟨a, _, c, h, fun h3 => ?_⟩
    cases xs with
    | nil => rfl
    | cons x xs => obtain ⟨b, o, h4, _⟩ := h2 0 x rfl; rw [h3] at h4; cases h4
  clear hr
  have hown : Hid (OwnL 3 IV w.heap.size (w.alloc (.cells #[] 3)) (.slice (some ⟨w.heap.size, 0, none⟩) 0 0) []) := OwnL.made w
  have qT : ∀ (w : World) (a : Option Addr) (n c n' c' : Nat), (binOp .eql 22 (.slice a n c) (.slice none n' c')).run Try.prog w = .ok (.bool a.isNone) w := fun w a n c n' c' => Lib.run_eql_slice_nil w _ _ a n c n' c' Try.underlying22
  rcases a with _ | ad
  · obtain rfl := hnil rfl
    go_enter Try.func50, Try.ntmps50
    go_wp2
    go_ret
    exact ⟨_, rfl, OwnL.nil _ _, Below.refl _ _⟩
  · go_enter Try.func50, Try.ntmps50
    go_wp2_with (at_builtin; go_must (refine wpList_appendL IV_one Try.underlying22 infoZ0 rfl (by decide) hown.out (hr' _) (by simp; omega) (by simp) rfl _ _ rfl (by rfl) (by rfl) ?_))
    intro v' w' how hg _ _
    have hb : Below w.heap.size w w' := ((Below.refl _ _).alloc (Nat.le_refl _) _).grown hg (by simp) (fun k hk => by simp [Value.ownBlock] at hk; omega)
    clear hg
    go_wp2
    go_ret
    exact ⟨_, rfl, how, hb⟩
def eqB (xs ys : List Int) : Bool := xs == ys
theorem eqB_yes {xs ys : List Int} (h : xs = ys) : eqB xs ys = true := by unfold eqB; simpa using h
theorem eqB_no {xs ys : List Int} (h : xs ≠ ys) : eqB xs ys = false := by unfold eqB; simpa using h
set_option maxRecDepth 100000 in
theorem equalZ_any (va vb : Value) (xs ys : List Int) (w : World) (ha : RowZ w va xs) (hb : RowZ w vb ys) (hlx : xs.length ≤ 100000000) (hly : ys.length ≤ 100000000) :
    Calls Try.prog 38 #[va, vb] w fun e w' => e = .returned (.bool (eqB xs ys)) ∧ Below w.heap.size w w' := by
  obtain ⟨aa, ca, rfl, -, hia⟩ := ha.gen.shape
  obtain ⟨ab, cb, rfl, -, hib⟩ := hb.gen.shape
  have HIA := Lib.hid hia
  have HIB := Lib.hid hib
  clear ha hb hia hib
  by_cases h : xs.length = ys.length
  · have e1 : ((xs.length : Int) != ys.length) = false := by simp [h]
    have e1' : (xs.length != ys.length) = false := by simp [h]
    have HL := Lib.hid h
    clear h
    go_enter Try.func38, Try.ntmps38
    go_wp2_with fail
    go_loopw [13] (fun x wr => ∃ k : Nat, k ≤ xs.length ∧ x = .int .i64 k ∧ Hid (xs.take k = ys.take k) ∧ Below w.heap.size w wr) (fun x _ => xs.length - (intOf x).toNat)
    case atStart => exact ⟨0, Nat.zero_le _, rfl, rfl, Below.refl _ _⟩
    case round =>
      obtain ⟨k, hk, rfl, HT, hbe⟩ := hrel
      by_cases h1 : k < xs.length
      · have h2 : k < ys.length := by have := HL.out; omega
        obtain ⟨gb, ob, rfl, hcb⟩ := HIB.out k _ (List.getElem?_eq_getElem h2)
        obtain ⟨ga, oa, rfl, hca⟩ := HIA.out k _ (List.getElem?_eq_getElem h1)
        have d3 : wr.cell? ⟨ga, oa + k, none⟩ = some (.int .i64 xs[k]) := (hbe.cell (p := ⟨ga, oa + k, none⟩) (World.block_lt_of_cell? w ⟨ga, oa + k, none⟩ hca)).trans hca
        have d4 : wr.cell? ⟨gb, ob + k, none⟩ = some (.int .i64 ys[k]) := (hbe.cell (p := ⟨gb, ob + k, none⟩) (World.block_lt_of_cell? w ⟨gb, ob + k, none⟩ hcb)).trans hcb
        clear hca hcb
        by_cases h3 : xs[k] = ys[k]
        · have e3 : (xs[k] != ys[k]) = false := by simp [h3]
          have HT2 : Hid (xs.take (k + 1) = ys.take (k + 1)) := by show _ = _; rw [List.take_succ_eq_append_getElem h1, List.take_succ_eq_append_getElem h2, HT.out, h3]
          clear h3
          go_wp2_with fail
          go_region
          all_goals go_wp2_with fail
          all_goals go_roundw
          case rel => exact ⟨k + 1, h1, by go_num, HT2, hbe.drew⟩
          case measure => simp only [intOf]; omega
        · have e3 : (xs[k] != ys[k]) = true := by simp [h3]
          have HN : Hid (eqB xs ys = false) := eqB_no (fun h => h3 (by subst h; rfl))
          clear h3
          go_wp2_with fail
          go_region
          all_goals go_wp2_with fail
          all_goals go_ret
          all_goals exact ⟨ret1 (by rw [HN.out]; rfl), hbe.drew⟩
      · obtain rfl : xs.length = k := by omega
        have HN : Hid (eqB xs ys = true) := eqB_yes (by have := HT.out; rw [List.take_length, HL.out, List.take_length] at this; exact this)
        clear HT
        go_wp2_with fail
        go_ret
        exact ⟨ret1 (by rw [HN.out]; rfl), hbe⟩
  · have e1 : ((xs.length : Int) != ys.length) = true := by simp; omega
    have e1' : (xs.length != ys.length) = true := by simp; omega
    have HN : Hid (eqB xs ys = false) := eqB_no (fun h2 => h (by rw [h2]))
    clear h
    go_enter Try.func38, Try.ntmps38
    go_wp2_with fail
    go_ret
    exact ⟨ret1 (by rw [HN.out]; rfl), Below.refl _ _⟩
/-- i numbers on either side are changed for each other -/
def rev1 (xs : List Int) (i : Nat) (p : Nat) : Nat := if p < i ∨ xs.length ≤ p + i then xs.length - 1 - p else p
theorem rev_done {xs ys : List Int} {i : Nat} (hl : ys.length = xs.length) (h : ∀ p, p < xs.length → ys[p]? = xs[rev1 xs i p]?) (hi : xs.length ≤ 2 * i + 1) (hi2 : 2 * i ≤ xs.length) : ys = xs.reverse := by
  apply List.ext_getElem?
  intro p
  by_cases hp : p < xs.length
  · rw [h p hp, List.getElem?_reverse hp]
    unfold rev1
    split
    · rfl
    · congr 1; omega
  · rw [List.getElem?_eq_none (by omega), List.getElem?_eq_none (by simp; omega)]
theorem rev_step {xs ys : List Int} {i j : Nat} {x y : Int} (hl : ys.length = xs.length) (h : ∀ p, p < xs.length → ys[p]? = xs[rev1 xs i p]?) (hij : i < j) (hj : j + i + 1 = xs.length) (hx : ys[i]? = some x) (hy : ys[j]? = some y) :
    ∀ p, p < xs.length → ((ys.set i y).set j x)[p]? = xs[rev1 xs (i + 1) p]? := fun p hp => by
  have hxi := h i (by omega)
  have hyj := h j (by omega)
  have r1 : rev1 xs i i = i := by unfold rev1; rw [if_neg (by omega)]
  have r2 : rev1 xs i j = j := by unfold rev1; rw [if_neg (by omega)]
  rw [r1, hx] at hxi
  rw [r2, hy] at hyj
  by_cases e1 : p = j
  · subst e1
    rw [List.getElem?_set_self (by rw [List.length_set]; omega)]
    have : rev1 xs (i + 1) p = i := by unfold rev1; rw [if_pos (by omega)]; omega
    rw [this, hxi]
  · rw [List.getElem?_set_ne (fun h => e1 h.symm)]
    by_cases e2 : p = i
    · subst e2
      rw [List.getElem?_set_self (by omega)]
      have : rev1 xs (p + 1) p = j := by unfold rev1; rw [if_pos (by omega)]; omega
      rw [this, hyj]
    · rw [List.getElem?_set_ne (fun h => e2 h.symm), h p hp]
      congr 1
      unfold rev1
      by_cases e3 : p < i ∨ xs.length ≤ p + i
      · rw [if_pos e3, if_pos (by omega)]
      · rw [if_neg e3, if_neg (by omega)]
set_option maxRecDepth 100000 in
set_option maxHeartbeats 1000000 in
theorem reverseZ_any (B : Nat) (v : Value) (xs : List Int) (w : World) (how : OwnL 3 IV B w v xs) (hlen : xs.length ≤ 100000000) :
    Calls Try.prog 51 #[v] w fun e w' => e = .returned (.tuple #[]) ∧ OwnL 3 IV B w' v xs.reverse ∧ w.grownBy w' v.ownBlock := by
  obtain ⟨a0, c, rfl, -, -⟩ := how.row.shape
  have hn1 : (xs.length : Int) ≤ 100000000 := by omega
  go_enter Try.func51, Try.ntmps51
  go_wp2_with fail
  go_loopw [2, 3] (fun x y wr => ∃ (i : Nat) (ys : List Int), 2 * i ≤ xs.length ∧ x = .int .i64 i ∧ y = .int .i64 ((xs.length : Int) - 1 - i) ∧ Hid (ys.length = xs.length) ∧ Hid (∀ p, p < xs.length → ys[p]? = xs[rev1 xs i p]?) ∧ OwnL 3 IV B wr (.slice a0 xs.length c) ys ∧ w.grownBy wr (Value.slice a0 xs.length c).ownBlock) (fun x _ _ => xs.length - (intOf x).toNat)
  case atStart => exact ⟨0, xs, by omega, rfl, by go_num, rfl, fun p hp => by rw [show rev1 xs 0 p = p from by unfold rev1; rw [if_neg (by omega)]], how, grownBy_refl _ _⟩
  case round =>
    obtain ⟨i, ys, hi, rfl, rfl, HL, HP, how2, hgr⟩ := hrel
    clear how
    by_cases h1 : 2 * i + 1 < xs.length
    · obtain ⟨j, hj⟩ : ∃ j, xs.length = j + i + 1 := ⟨xs.length - i - 1, by omega⟩
      have q1 : (xs.length : Int) - 1 - i = (j : Int) := by omega
      have hij : i < j := by omega
      have hjn : j < xs.length := by omega
      have hin : i < xs.length := by omega
      have e1 : decide ((i : Int) < j) = true := by simp; omega
      have HJ := Lib.hid hj
      have hiy : i < ys.length := by have := HL.out; omega
      have hjy : j < ys.length := by have := HL.out; omega
      have hgx := List.getElem?_eq_getElem hiy
      have hgy := List.getElem?_eq_getElem hjy
      generalize ys[i] = x at hgx
      generalize ys[j] = y at hgy
      have hst := rev_step HL.out HP.out hij (by omega) hgx hgy
      have HST := Lib.hid hst
      have hne : ys ≠ [] := by intro h; subst h; simp at hiy
      obtain ⟨g, c', hv, b1, b2, b3, b4, b5⟩ := how2.block hne
      have hvl : ∀ {n m : Nat} {a1 a2 : Option Addr} {c1 c2 : Nat}, Value.slice a1 n c1 = Value.slice a2 m c2 → a1 = a2 ∧ c1 = c2 := fun h => by cases h; exact ⟨rfl, rfl⟩
      obtain ⟨rfl, rfl⟩ := hvl hv
      have d1 : wr.cell? ⟨g, i, none⟩ = some (.int .i64 x) := b5 i x hgx
      have d2 : wr.cell? ⟨g, j, none⟩ = some (.int .i64 y) := b5 j y hgy
      have d3 := b4 i
      have d4 := b4 j
      clear b4 b5 hv hst hj hne hgx hgy HP
      rw [q1]
      go_wp2_with fail
      go_region
      all_goals go_wp2_with fail
      all_goals go_roundw
      case rel => exact ⟨i + 1, (ys.set i y).set j x, by omega, by go_num, by go_num, by show _ = _; rw [List.length_set, List.length_set]; exact HL.out, HST, ((how2.set i y).set j x).stays (Below.refl _ _).drew, grownBy_drew (grownBy_setCell (grownBy_setCell hgr ⟨g, i, none⟩ (.inl rfl) _) ⟨g, j, none⟩ (.inl rfl) _)⟩
      case measure => simp only [intOf]; omega
    · have e1 : decide ((i : Int) < (xs.length : Int) - 1 - i) = false := by simp; omega
      have HD := Lib.hid (rev_done HL.out HP.out (by omega) (by omega))
      go_wp2_with fail
      go_end0
      exact ⟨rfl, by rw [← HD.out]; exact how2, hgr⟩
end Go.Proofs.Ytidfjemblidjkaa
