/- The walks of myers' add, alike. -/
import Derived.Test.YtidfjemblidjkaaMyE
namespace Go.Proofs.Ytidfjemblidjkaa
open Go Go.RowKit
set_option linter.unusedVariables false
theorem infoP : (Try.prog.info? 41).map (fun i => (i.zero, i.size, i.bytes)) = some (some (.agg #[.int .i64 0, .int .i64 0]), 2, 16) := by kernel_rfl
/-- runs in a row of the call's own, of the program -/
abbrev OwnP (B : Nat) (w : World) (v : Value) (rs : List Rn) : Prop := OwnS 41 2 rnC B w v rs
/-- what add leaves -/
def Added (B : Nat) (w : World) (v : Value) (rs : List Rn) (v' : Value) (w' : World) : Prop := OwnP B w' v' rs ∧ w.grownBy w' v.ownBlock ∧ NewOrSame w v v'
set_option maxRecDepth 100000 in
set_option maxHeartbeats 2000000 in
theorem add_any (B : Nat) (v : Value) (rs : List Rn) (k c : Int) (w : World) (n : Nat) (how : OwnP B w v rs) (hB : B ≤ w.heap.size) (hl : rs.length ≤ 1000000) (hg : GoodR n rs) (hn : n ≤ 1000000000) (hc0 : 0 ≤ c) (hc : c ≤ 2000000) :
    Calls Try.prog 34 #[v, .int .i64 k, .int .i64 c] w fun e w' => ∃ v', e = .returned v' ∧ Added B w v (addR rs k c) v' w' := by
  obtain ⟨a0, c0, hv, -, -⟩ := how.row.shape rnC_len
  subst hv
  have hrl : ((rs.length : Nat) : Int) - 1 ≤ 1000000 := by omega
  by_cases h0 : c = 0
  · subst h0
    have HA : Hid (Added B w (.slice a0 rs.length c0) (addR rs k 0) (.slice a0 rs.length c0) w) := by
      rw [addR_zero]; exact ⟨how, grownBy_refl _ _, NewOrSame.refl _ _⟩
    clear how hg
    go_enter Try.func34, Try.ntmps34
    go_wp2_with fail
    go_ret
    exact ⟨_, rfl, HA.out⟩
  · have e0 : (c == 0) = false := by simpa using h0
    rcases List.eq_nil_or_concat rs with hnil | ⟨L, r, hsn⟩
    · subst hnil
      have HA : Hid (addR [] k c = [] ++ [(k, c)]) := by show _ = _; rw [addR_nil k h0]; rfl
      have H0 := Lib.hid h0
      clear hg h0
      go_enter Try.func34, Try.ntmps34
      go_wp2_with (at_builtin; go_must (refine wpList_pushS rnC_len rnC_one Try.underlying28 infoP rfl (by decide) how (k, c) (by simp) (by omega) rfl _ _ rfl (by rfl) _ _ _ (by rfl) (by rfl) ?_))
      intro v2 w2 how3 hg3 hn3
      have HA3 : Hid (Added B w (.slice a0 0 c0) (addR [] k c) v2 w2) := by rw [HA.out]; exact ⟨by simpa using how3, hg3, hn3⟩
      clear hg3 hn3 how how3
      go_wp2_with fail
      go_ret
      exact ⟨_, rfl, HA3.out⟩
    · rw [List.concat_eq_append] at hsn
      subst hsn
      obtain ⟨k', d⟩ := r
      obtain ⟨g, cc, hv, b1, b2, b3, b4, b5⟩ := how.block rnC_len (by simp)
      cases hv
      have hd := hg (k', d) (by simp)
      have hd1 : 1 ≤ d := hd.1
      have hd2 : d ≤ 1000000000 := by have := hd.2; simp only [] at this; omega
      have d4 := b5 L.length (k', d) (by simp) 0 (.int .i64 k') rfl
      have d5 := b5 L.length (k', d) (by simp) 1 (.int .i64 d) rfl
      have d6 := b4 (L.length * 2 + 1)
      have hlr : (L ++ [(k', d)]).length = L.length + 1 := by simp
      rw [Nat.add_zero] at d4
      rw [hlr] at how hl hrl b3 ⊢
      have H0 := Lib.hid h0
      clear b4 b5 hlr hd hg
      by_cases h2 : k' = k
      · subst h2
        have HA : Hid (addR (L ++ [(k', d)]) k' c = L ++ [(k', d + c)]) := addR_same h0
        clear h0
        have HO : Hid (Added B w (.slice (some ⟨g, 0, none⟩) (L.length + 1) c0) (addR (L ++ [(k', d)]) k' c) (.slice (some ⟨g, 0, none⟩) (L.length + 1) c0) (w.setCell ⟨g, L.length * 2 + 1, none⟩ (.int .i64 (d + c)))) := by
          rw [HA.out]
          refine ⟨?_, grownBy_setCell (grownBy_refl _ _) _ (.inl rfl) _, NewOrSame.refl _ _⟩
          have := OwnS.set how rnC_len L.length 1 (k', d) (k', d + c) (.int .i64 (d + c)) (by simp) (by omega) rfl
          rw [List.set_append_right _ _ (Nat.le_refl _), Nat.sub_self] at this
          exact this
        clear how
        go_enter Try.func34, Try.ntmps34
        go_wp2_with fail
        go_ret
        exact ⟨_, rfl, HO.out⟩
      · have e2 : (k' == k) = false := by simpa using h2
        have HA : Hid (addR (L ++ [(k', d)]) k c = L ++ [(k', d)] ++ [(k, c)]) := addR_other h0 h2
        clear h0 h2
        have how2 : OwnP B w (.slice (some ⟨g, 0, none⟩) (L.length + 1) c0) (L ++ [(k', d)]) := how
        clear how
        go_enter Try.func34, Try.ntmps34
        go_wp2_with (at_builtin; go_must (refine wpList_pushS rnC_len rnC_one Try.underlying28 infoP rfl (by decide) how2 (k, c) (by simp; omega) (by omega) rfl _ _ rfl (by rfl) _ _ _ (by rfl) (by rfl) ?_))
        intro v2 w2 how3 hg3 hn3
        have HA3 : Hid (Added B w (.slice (some ⟨g, 0, none⟩) (L.length + 1) c0) (addR (L ++ [(k', d)]) k c) v2 w2) := by rw [HA.out]; exact ⟨by simpa using how3, hg3, hn3⟩
        clear hg3 hn3 how2 how3
        go_wp2_with fail
        go_ret
        exact ⟨_, rfl, HA3.out⟩
end Go.Proofs.Ytidfjemblidjkaa
