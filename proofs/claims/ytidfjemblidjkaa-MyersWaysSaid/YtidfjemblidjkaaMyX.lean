/- The walks of the program's Tidy. -/
import Derived.Test.YtidfjemblidjkaaMyJ
import Derived.Lib.SliceRun
namespace Go.Proofs.Ytidfjemblidjkaa
open Go Go.RowKit
set_option linter.unusedVariables false
theorem RowS.to {α : Type} {cs : α → List Value} {w : World} {a : Option Addr} {c : Nat} {xs : List α} (h : RowS cs w (.slice a xs.length c) xs) (m : Nat) (hm : m ≤ xs.length) : RowS cs w (.slice a m c) (xs.take m) := by
  have hl : (xs.take m).length = m := by simp; omega
  unfold RowS
  rw [hl]
  rcases h with ⟨h1, h2, _⟩ | ⟨b, o, c', hv, h1, h2, h3, h4⟩
  · obtain rfl : m = 0 := by omega
    exact .inl ⟨rfl, by simp, a, c, rfl⟩
  · cases hv
    refine .inr ⟨b, o, c, rfl, by omega, h2, h3, fun j u hu => h4 j u ?_⟩
    have e : xs.flatMap cs = (xs.take m).flatMap cs ++ (xs.drop m).flatMap cs := by rw [← List.flatMap_append, List.take_append_drop]
    rw [e, List.getElem?_append_left (List.getElem?_eq_some_iff.1 hu).1]
    exact hu
set_option maxRecDepth 100000 in
theorem cloneR_any (v : Value) (rs : List Rn) (w : World) (hr : RowS rnC w v rs) (hlen : rs.length ≤ 100000) :
    Calls Try.prog 39 #[v] w fun e w' => ∃ v', e = .returned v' ∧ OwnP w.heap.size w' v' rs ∧ Below w.heap.size w w' := by
  have hr' : ∀ o, RowS rnC (w.alloc o) v rs := fun o => RowS.stays hr ((Below.refl _ _).alloc (Nat.le_refl _) o)
  obtain ⟨a, n, c, rfl, hnil⟩ : ∃ a n c, v = .slice a n c ∧ (a = none → rs = []) := by
    obtain ⟨a, c, h, _, h2⟩ := hr.shape rnC_len
    refine ⟨a, _, c, h, fun h3 => ?_⟩
    cases rs with
    | nil => rfl
    | cons x xs => obtain ⟨b, o, h4, _⟩ := h2 0 x rfl; rw [h3] at h4; cases h4
  clear hr
  have hown : Hid (OwnP w.heap.size (w.alloc (.cells #[] 41)) (.slice (some ⟨w.heap.size, 0, none⟩) 0 0) []) := World.ownsRow_made (base := w.heap.size) (e := 41) (size := 2) w #[] 0 (Nat.le_refl _) (Nat.zero_le _) rfl
  have qT : ∀ (w : World) (a : Option Addr) (n c n' c' : Nat), (binOp .eql 28 (.slice a n c) (.slice none n' c')).run Try.prog w = .ok (.bool a.isNone) w := fun w a n c n' c' => Lib.run_eql_slice_nil w _ _ a n c n' c' Try.underlying28
  rcases a with _ | ad
  · obtain rfl := hnil rfl
    go_enter Try.func39, Try.ntmps39
    go_wp2
    go_ret
    exact ⟨_, rfl, OwnS.nil _ _, Below.refl _ _⟩
  · go_enter Try.func39, Try.ntmps39
    go_wp2_with (at_builtin; go_must (refine wpList_appendS rnC_len rnC_one Try.underlying28 infoP rfl (by decide) hown.out (hr' _) (by simp; omega) (by simp) rfl _ _ rfl (by rfl) (by rfl) ?_))
    intro v' w' how hg _ _
    have hb : Below w.heap.size w w' := ((Below.refl _ _).alloc (Nat.le_refl _) _).grown hg (by simp) (fun k hk => by simp [Value.ownBlock] at hk; omega)
    clear hg
    go_wp2
    go_ret
    exact ⟨_, rfl, how, hb⟩
set_option maxRecDepth 100000 in
set_option maxHeartbeats 2000000 in
theorem trim_any (B : Nat) (v : Value) (L : List Rn) (k d : Int) (w : World) (how : OwnP B w v (L ++ [(k, d)])) (hl : L.length ≤ 100000) (hd1 : 0 ≤ d) (hd2 : d ≤ 1000000000) :
    Calls Try.prog 40 #[v] w fun e w' => ∃ v', e = .returned v' ∧ RowS rnC w' v' (trimR (L ++ [(k, d)]) 1048576) ∧ w.grownBy w' v.ownBlock := by
  obtain ⟨g, c, rfl, b1, b2, b3, b4, b5⟩ := how.block rnC_len (by simp)
  have d5 := b5 L.length (k, d) (by simp) 1 (.int .i64 d) rfl
  have d6 := b4 (L.length * 2 + 1)
  have hlr : (L ++ [(k, d)]).length = L.length + 1 := by simp
  have hrow : RowS rnC (w.setCell ⟨g, L.length * 2 + 1, none⟩ (.int .i64 (d - 1048576))) (.slice (some ⟨g, 0, none⟩) (L.length + 1) c) (L ++ [(k, d - 1048576)]) := by
    rw [hlr] at how
    have := OwnS.set how rnC_len L.length 1 (k, d) (k, d - 1048576) (.int .i64 (d - 1048576)) (by simp) (by omega) rfl
    rw [List.set_append_right _ _ (Nat.le_refl _), Nat.sub_self] at this
    exact this.row
  have HG : Hid (w.grownBy (w.setCell ⟨g, L.length * 2 + 1, none⟩ (.int .i64 (d - 1048576))) (some g)) := grown_setCell _ _ _ _
  have hlr2 : (L ++ [(k, d - 1048576)]).length = L.length + 1 := by simp
  have hT : trimR (L ++ [(k, d)]) 1048576 = if d - 1048576 = 0 then L else L ++ [(k, d - 1048576)] := by unfold trimR; simp
  rw [hlr] at b3 ⊢
  clear b4 b5 how hlr
  by_cases h : d - 1048576 = 0
  · have HT := Lib.hid (hT.trans (if_pos h))
    have hr2 : RowS rnC (w.setCell ⟨g, L.length * 2 + 1, none⟩ (.int .i64 (d - 1048576))) (.slice (some ⟨g, 0, none⟩) L.length c) L := by
      rw [← hlr2] at hrow
      have := RowS.to hrow L.length (by omega)
      rwa [List.take_left] at this
    have HR := Lib.hid hr2
    have e1 : (d - 1048576 == 0) = true := by simpa using h
    clear hT hr2 hrow h
    go_enter Try.func40, Try.ntmps40
    go_wp2_with fail
    go_ret
    exact ⟨_, rfl, by rw [HT.out]; exact HR.out, HG.out⟩
  · have HT := Lib.hid (hT.trans (if_neg h))
    have HR := Lib.hid hrow
    have e1 : (d - 1048576 == 0) = false := by simpa using h
    clear hT hrow h
    go_enter Try.func40, Try.ntmps40
    go_wp2_with fail
    go_ret
    exact ⟨_, rfl, by rw [HT.out]; exact HR.out, HG.out⟩
theorem tdStep_bad {s : TdS} {k c : Int} (h : rightR (k, c) = false) : tdStep s k c.toNat = s := by
  unfold rightR at h
  simp at h
  by_cases h1 : 1 ≤ c
  · exact tdStep_else (by omega) (by omega) (by omega) _ _
  · rw [show c.toNat = 0 from by omega, tdStep_zero]
end Go.Proofs.Ytidfjemblidjkaa
