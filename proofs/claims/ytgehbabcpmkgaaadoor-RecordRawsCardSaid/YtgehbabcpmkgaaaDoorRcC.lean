/- The parser's reads through function literals: eight bytes, four bytes, a text. At most 1000000 bytes. -/
import Derived.Test.YtgehbabcpmkgaaaDoorRcP
import Derived.StillTailTactics
import Derived.Deep.DrawnRows
import Derived.Deep.RegionLaw
import Derived.Deep.CutBlock
import Derived.Deep.CutRange
import Derived.Deep.DeepCutAuto
namespace Go.Proofs.YtgehbabcpmkgaaaDoor
open Go Go.RowKit
set_option linter.unusedVariables false
theorem EV_iface (ea : Nat → Addr) (k : Nat) : EV ea k = .nilIface ∨ ∃ a, EV ea k = .iface 248 (.pointer (some a)) := by
  by_cases h : k = 0
  · subst h; exact .inl (EV_zero ea)
  · exact .inr ⟨_, EV_pos ea h⟩
section
variable (ea : Nat → Addr) (r q : Nat) (v : Value) (bs : List UInt8) (p : Nat) (w : World) (hrd : Rd w r v bs p) (hne : r ≠ q) (hvq : bs ≠ [] → v.ownBlock ≠ some q) (he1 : ErrAt w 2 (ea 1)) (he2 : ErrAt w 3 (ea 2))
include hrd hne hvq he1 he2
theorem cl64_any (x : Int) (hq : CellsAt w q 67 #[.int .u64 x]) :
    Calls Tryd.prog 139 #[.pointer (some ⟨r, 0, none⟩), .pointer (some ⟨q, 0, none⟩)] w fun e w' => e = .returned (EV ea (ask bs p 8)) ∧ Rd w' r v bs (rat bs p 8) ∧ CellsAt w' q 67 #[.int .u64 (fixedV (rgot bs p 8))] ∧ Grew [r, q] w w' := by
  have HF := Lib.hid (fixed64_any ea r v bs p w hrd he1 he2)
  have HQ := Lib.hid hq
  have HV := Lib.hid hvq
  have HN := Lib.hid hne
  obtain ⟨E, hE⟩ : ∃ E, E = EV ea (ask bs p 8) := ⟨_, rfl⟩
  obtain ⟨X, hX⟩ : ∃ X, X = fixedV (rgot bs p 8) := ⟨_, rfl⟩
  rw [← hE, ← hX] at HF
  rw [← hE, ← hX]
  clear hE hX hrd hq hvq hne he1 he2
  go_enter Tryd.func139, Tryd.ntmps139
  go_wp2_with fail
  refine HF.out.mono ?_
  rintro e w1 ⟨rfl, hrd1, hg1⟩
  have hq1 := HQ.out.grown hg1 (fun h => HN.out (by cases h; rfl))
  have c0 := hq1.cell 0 (v := .int .u64 x) rfl
  have f0 := hq1.free 0
  have HR1 := Lib.hid hrd1
  have HG1 := Lib.hid hg1
  have HQ1 := Lib.hid hq1
  clear hrd1 hg1 hq1 HF
  go_wp2_with fail
  go_ret
  have hs : w1.grownBy (w1.setCell ⟨q, 0, none⟩ (.int .u64 X)) (some q) := grownBy_setCell (grownBy_refl _ _) ⟨q, 0, none⟩ (.inl rfl) _
  refine ⟨rfl, HR1.out.other hs HN.out HV.out, HQ1.out.set 0 _, ?_⟩
  exact ((Grew.refl [r, q] w).grown HG1.out (fun i h => .inl (by cases h; simp))).grown hs (fun i h => .inl (by cases h; simp))
theorem cl32_any (x : Int) (hq : CellsAt w q 67 #[.int .u64 x]) :
    Calls Tryd.prog 141 #[.pointer (some ⟨r, 0, none⟩), .pointer (some ⟨q, 0, none⟩)] w fun e w' => e = .returned (EV ea (ask bs p 4)) ∧ Rd w' r v bs (rat bs p 4) ∧ CellsAt w' q 67 #[.int .u64 (fixedV (rgot bs p 4))] ∧ Grew [r, q] w w' := by
  have HF := Lib.hid (fixed32_any ea r v bs p w hrd he1 he2)
  have HQ := Lib.hid hq
  have HV := Lib.hid hvq
  have HN := Lib.hid hne
  have hlt : fixedV (rgot bs p 4) ≤ 4294967295 := by
    have h1 := fixedV_lt (rgot bs p 4)
    have h2 := Nat.pow_le_pow_right (n := 256) (by omega) (rgot_len bs p 4)
    have h3 : 256 ^ (4 : Int).toNat = 4294967296 := by decide +kernel
    omega
  clear hrd hq hvq hne he1 he2
  obtain ⟨E, hE⟩ : ∃ E, E = EV ea (ask bs p 4) := ⟨_, rfl⟩
  obtain ⟨X, hX⟩ : ∃ X, X = fixedV (rgot bs p 4) := ⟨_, rfl⟩
  rw [← hE, ← hX] at HF
  rw [← hX] at hlt
  rw [← hE, ← hX]
  have hlti : (X : Int) ≤ 4294967295 := by omega
  clear hE hX hlt
  go_enter Tryd.func141, Tryd.ntmps141
  go_wp2_with fail
  refine HF.out.mono ?_
  rintro e w1 ⟨rfl, hrd1, hg1⟩
  have hq1 := HQ.out.grown hg1 (fun h => HN.out (by cases h; rfl))
  have c0 := hq1.cell 0 (v := .int .u64 x) rfl
  have f0 := hq1.free 0
  have HR1 := Lib.hid hrd1
  have HG1 := Lib.hid hg1
  have HQ1 := Lib.hid hq1
  clear hrd1 hg1 hq1 HF
  go_wp2_with fail
  go_ret
  have hs : w1.grownBy (w1.setCell ⟨q, 0, none⟩ (.int .u64 X)) (some q) := grownBy_setCell (grownBy_refl _ _) ⟨q, 0, none⟩ (.inl rfl) _
  refine ⟨rfl, HR1.out.other hs HN.out HV.out, HQ1.out.set 0 _, ?_⟩
  exact ((Grew.refl [r, q] w).grown HG1.out (fun i h => .inl (by cases h; simp))).grown hs (fun i h => .inl (by cases h; simp))
/-- a text: as many bytes as block m tells, into block q -/
theorem clTk_any (m n : Nat) (s : List UInt8) (hm : CellsAt w m 67 #[.int .u64 n]) (hn : n ≤ 100000000) (hmr : m ≠ r) (hmq : m ≠ q) (hq : CellsAt w q 9 #[.string (strB s)]) :
    Calls Tryd.prog 126 #[.pointer (some ⟨r, 0, none⟩), .pointer (some ⟨m, 0, none⟩), .pointer (some ⟨q, 0, none⟩)] w fun e w' => e = .returned (EV ea (ask bs p n)) ∧ Rd w' r v bs (rat bs p n) ∧ CellsAt w' q 9 #[.string (strB (rgot bs p n))] ∧ Grew [r, q] w w' := by
  have HF := Lib.hid (take_any ea r v bs p w hrd he1 he2 n (by omega) (by omega))
  have HQ := Lib.hid hq
  have HV := Lib.hid hvq
  have HN := Lib.hid hne
  have cm := hm.cell 0 (v := .int .u64 n) rfl
  have hni : (n : Int) ≤ 100000000 := by omega
  clear hrd hq hvq hne he1 he2 hm
  obtain ⟨E, hE⟩ : ∃ E, E = EV ea (ask bs p n) := ⟨_, rfl⟩
  rw [← hE] at HF
  rw [← hE]
  obtain ⟨X, hX⟩ : ∃ X, X = rgot bs p n := ⟨_, rfl⟩
  rw [← hX] at HF
  rw [← hX]
  clear hE hX
  go_enter Tryd.func126, Tryd.ntmps126
  go_wp2_with fail
  refine HF.out.mono ?_
  rintro e w1 ⟨v1, rfl, ho1, hrd1, hg1⟩
  have hq1 := HQ.out.grown hg1 (fun h => HN.out (by cases h; rfl))
  have c0 := hq1.cell 0 (v := .string (strB s)) rfl
  have f0 := hq1.free 0
  have hcv := convert_str ho1.row
  have HR1 := Lib.hid hrd1
  have HG1 := Lib.hid hg1
  have HQ1 := Lib.hid hq1
  clear hrd1 hg1 hq1 HF ho1 cm
  go_wp2_with fail
  go_ret
  have hs : w1.grownBy (w1.setCell ⟨q, 0, none⟩ (.string (strB X))) (some q) := grownBy_setCell (grownBy_refl _ _) ⟨q, 0, none⟩ (.inl rfl) _
  refine ⟨rfl, HR1.out.other hs HN.out HV.out, HQ1.out.set 0 _, ?_⟩
  exact ((Grew.refl [r, q] w).grown HG1.out (fun i h => .inl (by cases h; simp))).grown hs (fun i h => .inl (by cases h; simp))
end
set_option maxRecDepth 100000 in
set_option maxHeartbeats 4000000 in
theorem read64_any (ea : Nat → Addr) (g : Nat) (v : Value) (bs : List UInt8) (p : Nat) (w : World) (hz : Pz ea w g v bs p 0) (he1 : ErrAt w 2 (ea 1)) (he2 : ErrAt w 3 (ea 2)) (q : Nat) (x : Int) (hne : g ≠ q) (hvq : bs ≠ [] → v.ownBlock ≠ some q) (hq : CellsAt w q 67 #[.int .u64 x]) :
    Calls Tryd.prog 125 #[.pointer (some ⟨g, 0, none⟩), .func (.func 139) #[] #[.pointer (some ⟨q, 0, none⟩)]] w fun e w' => e = .returned (.tuple #[]) ∧ Pz ea w' g v bs (p + rat (bs.drop p) 0 8) (ask (bs.drop p) 0 8) ∧ CellsAt w' q 67 #[.int .u64 (fixedV (rgot (bs.drop p) 0 8))] ∧ Grew [g, q] w w' := by
  obtain ⟨a, c, rfl, -, -⟩ := hz.row.gen.shape
  have hcap := hz.row.gen.cap
  have hle := hz.le
  have hsm := hz.small
  have c0 := hz.cells.cell 0 (v := .slice a bs.length c) rfl
  have c1 := hz.cells.cell 1 (v := .int .i64 p) rfl
  have hsl := slice_from hz.row p hle
  have hdl : (bs.drop p).length = bs.length - p := List.length_drop
  have HZ := Lib.hid hz
  have hgl := hz.cells.lt
  have hql := hq.lt
  have HVQ := Lib.hid hvq
  have HNE := Lib.hid hne
  have HQ := Lib.hid hq
  have HE1 := Lib.hid he1
  have HE2 := Lib.hid he2
  have i1 : (p : Int) ≤ bs.length := by omega
  have i2 : (p : Int) ≤ c := by omega
  have i4 : (bs.length : Int) ≤ 1000000 := by omega
  have HNR : Hid (∀ W v', Below w.heap.size w W → RowB W v' (bs.drop p) → (bs.drop p ≠ [] → v'.ownBlock = (Value.slice a bs.length c).ownBlock) → Calls Tryd.prog 121 #[v'] W fun e w' => ∃ r, e = .returned (.pointer (some ⟨r, 0, none⟩)) ∧ W.heap.size ≤ r ∧ Rd w' r v' (bs.drop p) 0 ∧ Below W.heap.size W w') := fun W v' hb h _ => (newReader_any v' _ W h (by rw [hdl]; omega)).mono fun e w' ⟨h1, h2, h3⟩ => ⟨_, h1, Nat.le_refl _, h2, h3⟩
  have HK : Hid (∀ w', Below w.heap.size w w' → Below w.heap.size w w' ∧ w'.cell? ⟨g, 0, none⟩ = some (.slice a bs.length c) ∧ w'.cell? ⟨g, 1, none⟩ = some (.int .i64 p)) := fun w' hb => ⟨hb, (HZ.out.cells.stays hb).cell 0 rfl, (HZ.out.cells.stays hb).cell 1 rfl⟩
  have hbd : Below w.heap.size w w.drew := (Below.refl _ _).drew
  have hob : ∀ n' c', bs.drop p ≠ [] → (Value.slice (a.map fun x => x.add p) n' c').ownBlock = (Value.slice a bs.length c).ownBlock := fun n' c' _ => by
    cases a with
    | none => rfl
    | some x =>
      have e : (x.add p).block = x.block := by unfold Addr.add; split <;> rfl
      simp [Value.ownBlock, e]
  have HOB := Lib.hid hob
  clear hz he1 he2 hvq hne hq hob
  obtain ⟨R, hR⟩ : ∃ R, R = rat (bs.drop p) 0 8 := ⟨_, rfl⟩
  have hRl : R ≤ bs.length - p := by
    have h1 : rat (bs.drop p) 0 8 ≤ (bs.drop p).length := by
      unfold rat
      split
      · rename_i h0
        unfold ask at h0
        split at h0
        · exact absurd h0 (by decide)
        · split at h0
          · exact absurd h0 (by decide)
          · omega
      · exact Nat.zero_le _
    rw [hR]; omega
  rw [← hR]
  have i5 : (R : Int) ≤ (bs.length : Int) - p := by omega
  have HR := Lib.hid hR
  clear hR
  go_enter Tryd.func125, Tryd.ntmps125
  go_upto_region 0 with fail
  go_cut [4] from 5 to 14 (fun v4 wx => ∃ r v', v4 = .pointer (some ⟨r, 0, none⟩) ∧ w.heap.size ≤ r ∧ Rd wx r v' (bs.drop p) 0 ∧ (bs.drop p ≠ [] → v'.ownBlock = (Value.slice a bs.length c).ownBlock) ∧ Below w.heap.size w wx)
  case first =>
    by_cases hcp : c = p
    · rw [if_pos hcp] at hsl
      have HS := Lib.hid hsl
      obtain rfl : c = bs.length := by omega
      obtain rfl : p = bs.length := hcp.symm
      rw [Nat.sub_self] at HS
      have HP : Hid (∀ W, Below w.heap.size w W → Calls Tryd.prog 121 #[.slice a 0 0] W fun e w' => ∃ r, e = .returned (.pointer (some ⟨r, 0, none⟩)) ∧ W.heap.size ≤ r ∧ Rd w' r (.slice a 0 0) (bs.drop bs.length) 0 ∧ Below W.heap.size W w') := fun W hb => HNR.out W _ hb (HS.out.stays hb) (fun h => absurd (List.drop_length) h)
      clear HNR hsl
      go_region_held3 (fun w' => Below w.heap.size w w' ∧ w'.cell? ⟨g, 0, none⟩ = some (.slice a bs.length bs.length) ∧ w'.cell? ⟨g, 1, none⟩ = some (.int .i64 bs.length))
        (exact HK.out _ (by assumption))
        ((first
          | (go_at_call 121; (with_reducible refine (HP.out _ (by assumption)).mono ?_); rintro e wA ⟨rr, rfl, hrr, hrd, hbA⟩; have hbC := Below.size (B := w.heap.size) (w := w) (by assumption); have hbB := Below.trans (B := w.heap.size) (a := w) (by assumption) (hbA.mono (Below.size (by assumption))))))
      all_goals go_wp2_with fail
      all_goals go_meet
      all_goals exact ⟨rr, _, rfl, Nat.le_trans hbC hrr, hrd, fun h => absurd (List.drop_length) h, hbB⟩
    · rw [if_neg hcp] at hsl
      have HS := Lib.hid hsl
      have HP : Hid (∀ W, Below w.heap.size w W → Calls Tryd.prog 121 #[.slice (a.map fun x => x.add p) (bs.length - p) (c - p)] W fun e w' => ∃ r, e = .returned (.pointer (some ⟨r, 0, none⟩)) ∧ W.heap.size ≤ r ∧ Rd w' r (.slice (a.map fun x => x.add p) (bs.length - p) (c - p)) (bs.drop p) 0 ∧ Below W.heap.size W w') := fun W hb => HNR.out W _ hb (HS.out.stays hb) (HOB.out _ _)
      clear HNR hsl
      go_region_held3 (fun w' => Below w.heap.size w w' ∧ w'.cell? ⟨g, 0, none⟩ = some (.slice a bs.length c) ∧ w'.cell? ⟨g, 1, none⟩ = some (.int .i64 p))
        (exact HK.out _ (by assumption))
        ((first
          | (go_at_call 121; (with_reducible refine (HP.out _ (by assumption)).mono ?_); rintro e wA ⟨rr, rfl, hrr, hrd, hbA⟩; have hbC := Below.size (B := w.heap.size) (w := w) (by assumption); have hbB := Below.trans (B := w.heap.size) (a := w) (by assumption) (hbA.mono (Below.size (by assumption))))))
      all_goals go_wp2_with fail
      all_goals go_meet
      all_goals exact ⟨rr, _, rfl, Nat.le_trans hbC hrr, hrd, HOB.out _ _, hbB⟩
  case rest =>
    obtain ⟨r, v', rfl, hrr, hrd, hvo, hb1⟩ := hcut
    obtain ⟨w1, rfl⟩ : ∃ w1 : World, w1 = wc := ⟨_, rfl⟩
    have hz1 := HZ.out.stays hb1
    have hq1 := HQ.out.stays hb1
    have HCL := Lib.hid (cl64_any ea r q v' (bs.drop p) 0 w1 hrd (by omega) (fun h => by rw [hvo h]; exact HVQ.out (fun e => h (by rw [e]; exact List.drop_nil))) (HE1.out.stays hb1) (HE2.out.stays hb1) x hq1)
    obtain ⟨E, hE⟩ : ∃ E, E = EV ea (ask (bs.drop p) 0 8) := ⟨_, rfl⟩
    rw [← hE] at HCL
    have hEs := EV_iface ea (ask (bs.drop p) 0 8)
    rw [← hE] at hEs
    have HEE := Lib.hid hE
    have hvr : bs ≠ [] → ∀ k, (Value.slice a bs.length c).ownBlock = some k → k ∉ [r, q] := fun h k hk hm => by
      have h1 := Row.block_lt HZ.out.row (List.length_pos_iff.2 h) k hk
      rcases List.mem_cons.1 hm with h2 | h2
      · omega
      · rw [List.mem_singleton] at h2; exact HVQ.out h (h2 ▸ hk)
    have HVR := Lib.hid hvr
    have HZ1 := Lib.hid hz1
    have HB1 := Lib.hid hb1
    have hvo2 := hvo
    clear hz1 hq1 hrd hb1 HK HNR hbd c0 c1 hsl hvo hE hvr
    have HVO := Lib.hid hvo2
    rw [← HR.out] at HCL
    clear hvo2
    rcases hEs with rfl | ⟨ad, rfl⟩
    · go_wp2_with fail
      refine HCL.out.mono ?_
      rintro e w2 ⟨rfl, hrd2, hq2, hg2⟩
      have hgr : g ∉ [r, q] := by
        intro hm
        rcases List.mem_cons.1 hm with h2 | h2
        · omega
        · rw [List.mem_singleton] at h2; exact HNE.out h2
      have hc2 := HZ1.out.cells.grew hg2 hgr
      have d0 := hc2.cell 0 (v := .slice a bs.length c) rfl
      have d1 := hc2.cell 1 (v := .int .i64 p) rfl
      have d2 := hc2.cell 2 (v := .nilIface) rfl
      have f1 := hc2.free 1
      have f2 := hc2.free 2
      have hgg : w2.grownBy (w2.setCell ⟨g, 2, none⟩ .nilIface) (some g) := grownBy_setCell (grownBy_refl _ _) ⟨g, 2, none⟩ (.inl rfl) _
      have hrd3 := hrd2.other hgg (by omega) (fun h e => by
        have h1 : bs ≠ [] := fun h0 => h (by rw [h0]; exact List.drop_nil)
        have h2 := Row.block_lt HZ.out.row (List.length_pos_iff.2 h1) g ((HVO.out h).symm.trans e)
        exact HZ.out.apart h1 ((HVO.out h).symm.trans e))
      have hat : Calls Tryd.prog 138 #[.pointer (some ⟨r, 0, none⟩)] (w2.setCell ⟨g, 2, none⟩ .nilIface).drew fun e w'' => e = .returned (.int .i64 R) ∧ w'' = (w2.setCell ⟨g, 2, none⟩ .nilIface).drew := (at_any r v' (bs.drop p) _ _ (hrd3.stays (Below.refl _ _).drew)).mono fun e w' ⟨h1, h2⟩ => ⟨h1.trans (by rw [HR.out]), h2.symm⟩
      have HAT := Lib.hid hat
      have HQ2 := Lib.hid hq2
      have HG2 := Lib.hid hg2
      have hc3 : CellsAt (w2.setCell ⟨g, 2, none⟩ .nilIface).drew g 177 #[.slice a bs.length c, .int .i64 p, .nilIface] := hc2.set 2 .nilIface
      have HC3 := Lib.hid hc3
      have d11 := hc3.cell 1 (v := .int .i64 p) rfl
      have f11 := hc3.free 1
      clear HCL hat hgg hrd3 hrd2 hq2 hg2 hc3
      go_wp2_with fail
      refine wp_region_still_tail 9 (by kernel_rfl) (by kernel_rfl) ?_
      simp only [List.take_succ_cons, List.take_zero, List.drop_succ_cons, List.drop_zero]
      change wpStill _ _ (w2.setCell ⟨g, 2, none⟩ .nilIface).drew _ _ _
      repeat still_step
      still_call HAT.out
      repeat still_step
      refine wpStill_nil ?_
      change wpList _ _ _ _ _ (w2.setCell ⟨g, 2, none⟩ .nilIface).drew
      obtain ⟨w3, hw3⟩ : ∃ w3, w3 = (w2.setCell ⟨g, 2, none⟩ .nilIface).drew := ⟨_, rfl⟩
      rw [← hw3] at HC3 d11 f11 ⊢
      have HW3 := Lib.hid hw3
      clear HAT hw3 d0 d1 d2 f1 f2 hc2
      go_wp2_with fail
      go_end0
      have hg3 : w2.grownBy (w3.setCell ⟨g, 1, none⟩ (.int .i64 ((p : Int) + R))) (some g) := by
        rw [HW3.out]
        exact grownBy_setCell (grownBy_drew (grownBy_setCell (grownBy_refl _ _) ⟨g, 2, none⟩ (.inl rfl) .nilIface)) ⟨g, 1, none⟩ (.inl rfl) _
      refine ⟨rfl, ⟨?_, ?_, ?_, HZ.out.apart, HZ.out.small⟩, ?_, ?_⟩
      · have := HC3.out.set 1 (.int .i64 ((p : Int) + R))
        rw [← HEE.out]
        simpa using this
      · exact (HG2.out.rowB HZ1.out.row HVR.out).keep hg3 HZ.out.apart
      · omega
      · exact HQ2.out.grown hg3 (fun h => HNE.out (by cases h; rfl))
      · refine ((Grew.ofBelow (S := [g, q]) HB1.out).step HG2.out (fun i hi => ?_)).grown hg3 (fun i h => .inl (by cases h; simp))
        rcases List.mem_cons.1 hi with h2 | h2
        · exact .inr (by omega)
        · rw [List.mem_singleton] at h2; exact .inl (by rw [h2]; simp)
    · go_wp2_with fail
      refine HCL.out.mono ?_
      rintro e w2 ⟨rfl, hrd2, hq2, hg2⟩
      have hgr : g ∉ [r, q] := by
        intro hm
        rcases List.mem_cons.1 hm with h2 | h2
        · omega
        · rw [List.mem_singleton] at h2; exact HNE.out h2
      have hc2 := HZ1.out.cells.grew hg2 hgr
      have d0 := hc2.cell 0 (v := .slice a bs.length c) rfl
      have d1 := hc2.cell 1 (v := .int .i64 p) rfl
      have d2 := hc2.cell 2 (v := .nilIface) rfl
      have f1 := hc2.free 1
      have f2 := hc2.free 2
      have hgg : w2.grownBy (w2.setCell ⟨g, 2, none⟩ (.iface 248 (.pointer (some ad)))) (some g) := grownBy_setCell (grownBy_refl _ _) ⟨g, 2, none⟩ (.inl rfl) _
      have hrd3 := hrd2.other hgg (by omega) (fun h e => by
        have h1 : bs ≠ [] := fun h0 => h (by rw [h0]; exact List.drop_nil)
        have h2 := Row.block_lt HZ.out.row (List.length_pos_iff.2 h1) g ((HVO.out h).symm.trans e)
        exact HZ.out.apart h1 ((HVO.out h).symm.trans e))
      have hat : Calls Tryd.prog 138 #[.pointer (some ⟨r, 0, none⟩)] (w2.setCell ⟨g, 2, none⟩ (.iface 248 (.pointer (some ad)))).drew fun e w'' => e = .returned (.int .i64 R) ∧ w'' = (w2.setCell ⟨g, 2, none⟩ (.iface 248 (.pointer (some ad)))).drew := (at_any r v' (bs.drop p) _ _ (hrd3.stays (Below.refl _ _).drew)).mono fun e w' ⟨h1, h2⟩ => ⟨h1.trans (by rw [HR.out]), h2.symm⟩
      have HAT := Lib.hid hat
      have HQ2 := Lib.hid hq2
      have HG2 := Lib.hid hg2
      have hc3 : CellsAt (w2.setCell ⟨g, 2, none⟩ (.iface 248 (.pointer (some ad)))).drew g 177 #[.slice a bs.length c, .int .i64 p, (.iface 248 (.pointer (some ad)))] := hc2.set 2 (.iface 248 (.pointer (some ad)))
      have HC3 := Lib.hid hc3
      have d11 := hc3.cell 1 (v := .int .i64 p) rfl
      have f11 := hc3.free 1
      clear HCL hat hgg hrd3 hrd2 hq2 hg2 hc3
      go_wp2_with fail
      refine wp_region_still_tail 9 (by kernel_rfl) (by kernel_rfl) ?_
      simp only [List.take_succ_cons, List.take_zero, List.drop_succ_cons, List.drop_zero]
      change wpStill _ _ (w2.setCell ⟨g, 2, none⟩ (.iface 248 (.pointer (some ad)))).drew _ _ _
      repeat still_step
      still_call HAT.out
      repeat still_step
      refine wpStill_nil ?_
      change wpList _ _ _ _ _ (w2.setCell ⟨g, 2, none⟩ (.iface 248 (.pointer (some ad)))).drew
      obtain ⟨w3, hw3⟩ : ∃ w3, w3 = (w2.setCell ⟨g, 2, none⟩ (.iface 248 (.pointer (some ad)))).drew := ⟨_, rfl⟩
      rw [← hw3] at HC3 d11 f11 ⊢
      have HW3 := Lib.hid hw3
      clear HAT hw3 d0 d1 d2 f1 f2 hc2
      go_wp2_with fail
      go_end0
      have hg3 : w2.grownBy (w3.setCell ⟨g, 1, none⟩ (.int .i64 ((p : Int) + R))) (some g) := by
        rw [HW3.out]
        exact grownBy_setCell (grownBy_drew (grownBy_setCell (grownBy_refl _ _) ⟨g, 2, none⟩ (.inl rfl) (.iface 248 (.pointer (some ad))))) ⟨g, 1, none⟩ (.inl rfl) _
      refine ⟨rfl, ⟨?_, ?_, ?_, HZ.out.apart, HZ.out.small⟩, ?_, ?_⟩
      · have := HC3.out.set 1 (.int .i64 ((p : Int) + R))
        rw [← HEE.out]
        simpa using this
      · exact (HG2.out.rowB HZ1.out.row HVR.out).keep hg3 HZ.out.apart
      · omega
      · exact HQ2.out.grown hg3 (fun h => HNE.out (by cases h; rfl))
      · refine ((Grew.ofBelow (S := [g, q]) HB1.out).step HG2.out (fun i hi => ?_)).grown hg3 (fun i h => .inl (by cases h; simp))
        rcases List.mem_cons.1 hi with h2 | h2
        · exact .inr (by omega)
        · rw [List.mem_singleton] at h2; exact .inl (by rw [h2]; simp)
set_option maxRecDepth 100000 in
set_option maxHeartbeats 4000000 in
theorem read32_any (ea : Nat → Addr) (g : Nat) (v : Value) (bs : List UInt8) (p : Nat) (w : World) (hz : Pz ea w g v bs p 0) (he1 : ErrAt w 2 (ea 1)) (he2 : ErrAt w 3 (ea 2)) (q : Nat) (x : Int) (hne : g ≠ q) (hvq : bs ≠ [] → v.ownBlock ≠ some q) (hq : CellsAt w q 67 #[.int .u64 x]) :
    Calls Tryd.prog 125 #[.pointer (some ⟨g, 0, none⟩), .func (.func 141) #[] #[.pointer (some ⟨q, 0, none⟩)]] w fun e w' => e = .returned (.tuple #[]) ∧ Pz ea w' g v bs (p + rat (bs.drop p) 0 4) (ask (bs.drop p) 0 4) ∧ CellsAt w' q 67 #[.int .u64 (fixedV (rgot (bs.drop p) 0 4))] ∧ Grew [g, q] w w' := by
  obtain ⟨a, c, rfl, -, -⟩ := hz.row.gen.shape
  have hcap := hz.row.gen.cap
  have hle := hz.le
  have hsm := hz.small
  have c0 := hz.cells.cell 0 (v := .slice a bs.length c) rfl
  have c1 := hz.cells.cell 1 (v := .int .i64 p) rfl
  have hsl := slice_from hz.row p hle
  have hdl : (bs.drop p).length = bs.length - p := List.length_drop
  have HZ := Lib.hid hz
  have hgl := hz.cells.lt
  have hql := hq.lt
  have HVQ := Lib.hid hvq
  have HNE := Lib.hid hne
  have HQ := Lib.hid hq
  have HE1 := Lib.hid he1
  have HE2 := Lib.hid he2
  have i1 : (p : Int) ≤ bs.length := by omega
  have i2 : (p : Int) ≤ c := by omega
  have i4 : (bs.length : Int) ≤ 1000000 := by omega
  have HNR : Hid (∀ W v', Below w.heap.size w W → RowB W v' (bs.drop p) → (bs.drop p ≠ [] → v'.ownBlock = (Value.slice a bs.length c).ownBlock) → Calls Tryd.prog 121 #[v'] W fun e w' => ∃ r, e = .returned (.pointer (some ⟨r, 0, none⟩)) ∧ W.heap.size ≤ r ∧ Rd w' r v' (bs.drop p) 0 ∧ Below W.heap.size W w') := fun W v' hb h _ => (newReader_any v' _ W h (by rw [hdl]; omega)).mono fun e w' ⟨h1, h2, h3⟩ => ⟨_, h1, Nat.le_refl _, h2, h3⟩
  have HK : Hid (∀ w', Below w.heap.size w w' → Below w.heap.size w w' ∧ w'.cell? ⟨g, 0, none⟩ = some (.slice a bs.length c) ∧ w'.cell? ⟨g, 1, none⟩ = some (.int .i64 p)) := fun w' hb => ⟨hb, (HZ.out.cells.stays hb).cell 0 rfl, (HZ.out.cells.stays hb).cell 1 rfl⟩
  have hbd : Below w.heap.size w w.drew := (Below.refl _ _).drew
  have hob : ∀ n' c', bs.drop p ≠ [] → (Value.slice (a.map fun x => x.add p) n' c').ownBlock = (Value.slice a bs.length c).ownBlock := fun n' c' _ => by
    cases a with
    | none => rfl
    | some x =>
      have e : (x.add p).block = x.block := by unfold Addr.add; split <;> rfl
      simp [Value.ownBlock, e]
  have HOB := Lib.hid hob
  clear hz he1 he2 hvq hne hq hob
  obtain ⟨R, hR⟩ : ∃ R, R = rat (bs.drop p) 0 4 := ⟨_, rfl⟩
  have hRl : R ≤ bs.length - p := by
    have h1 : rat (bs.drop p) 0 4 ≤ (bs.drop p).length := by
      unfold rat
      split
      · rename_i h0
        unfold ask at h0
        split at h0
        · exact absurd h0 (by decide)
        · split at h0
          · exact absurd h0 (by decide)
          · omega
      · exact Nat.zero_le _
    rw [hR]; omega
  rw [← hR]
  have i5 : (R : Int) ≤ (bs.length : Int) - p := by omega
  have HR := Lib.hid hR
  clear hR
  go_enter Tryd.func125, Tryd.ntmps125
  go_upto_region 0 with fail
  go_cut [4] from 5 to 14 (fun v4 wx => ∃ r v', v4 = .pointer (some ⟨r, 0, none⟩) ∧ w.heap.size ≤ r ∧ Rd wx r v' (bs.drop p) 0 ∧ (bs.drop p ≠ [] → v'.ownBlock = (Value.slice a bs.length c).ownBlock) ∧ Below w.heap.size w wx)
  case first =>
    by_cases hcp : c = p
    · rw [if_pos hcp] at hsl
      have HS := Lib.hid hsl
      obtain rfl : c = bs.length := by omega
      obtain rfl : p = bs.length := hcp.symm
      rw [Nat.sub_self] at HS
      have HP : Hid (∀ W, Below w.heap.size w W → Calls Tryd.prog 121 #[.slice a 0 0] W fun e w' => ∃ r, e = .returned (.pointer (some ⟨r, 0, none⟩)) ∧ W.heap.size ≤ r ∧ Rd w' r (.slice a 0 0) (bs.drop bs.length) 0 ∧ Below W.heap.size W w') := fun W hb => HNR.out W _ hb (HS.out.stays hb) (fun h => absurd (List.drop_length) h)
      clear HNR hsl
      go_region_held3 (fun w' => Below w.heap.size w w' ∧ w'.cell? ⟨g, 0, none⟩ = some (.slice a bs.length bs.length) ∧ w'.cell? ⟨g, 1, none⟩ = some (.int .i64 bs.length))
        (exact HK.out _ (by assumption))
        ((first
          | (go_at_call 121; (with_reducible refine (HP.out _ (by assumption)).mono ?_); rintro e wA ⟨rr, rfl, hrr, hrd, hbA⟩; have hbC := Below.size (B := w.heap.size) (w := w) (by assumption); have hbB := Below.trans (B := w.heap.size) (a := w) (by assumption) (hbA.mono (Below.size (by assumption))))))
      all_goals go_wp2_with fail
      all_goals go_meet
      all_goals exact ⟨rr, _, rfl, Nat.le_trans hbC hrr, hrd, fun h => absurd (List.drop_length) h, hbB⟩
    · rw [if_neg hcp] at hsl
      have HS := Lib.hid hsl
      have HP : Hid (∀ W, Below w.heap.size w W → Calls Tryd.prog 121 #[.slice (a.map fun x => x.add p) (bs.length - p) (c - p)] W fun e w' => ∃ r, e = .returned (.pointer (some ⟨r, 0, none⟩)) ∧ W.heap.size ≤ r ∧ Rd w' r (.slice (a.map fun x => x.add p) (bs.length - p) (c - p)) (bs.drop p) 0 ∧ Below W.heap.size W w') := fun W hb => HNR.out W _ hb (HS.out.stays hb) (HOB.out _ _)
      clear HNR hsl
      go_region_held3 (fun w' => Below w.heap.size w w' ∧ w'.cell? ⟨g, 0, none⟩ = some (.slice a bs.length c) ∧ w'.cell? ⟨g, 1, none⟩ = some (.int .i64 p))
        (exact HK.out _ (by assumption))
        ((first
          | (go_at_call 121; (with_reducible refine (HP.out _ (by assumption)).mono ?_); rintro e wA ⟨rr, rfl, hrr, hrd, hbA⟩; have hbC := Below.size (B := w.heap.size) (w := w) (by assumption); have hbB := Below.trans (B := w.heap.size) (a := w) (by assumption) (hbA.mono (Below.size (by assumption))))))
      all_goals go_wp2_with fail
      all_goals go_meet
      all_goals exact ⟨rr, _, rfl, Nat.le_trans hbC hrr, hrd, HOB.out _ _, hbB⟩
  case rest =>
    obtain ⟨r, v', rfl, hrr, hrd, hvo, hb1⟩ := hcut
    obtain ⟨w1, rfl⟩ : ∃ w1 : World, w1 = wc := ⟨_, rfl⟩
    have hz1 := HZ.out.stays hb1
    have hq1 := HQ.out.stays hb1
    have HCL := Lib.hid (cl32_any ea r q v' (bs.drop p) 0 w1 hrd (by omega) (fun h => by rw [hvo h]; exact HVQ.out (fun e => h (by rw [e]; exact List.drop_nil))) (HE1.out.stays hb1) (HE2.out.stays hb1) x hq1)
    obtain ⟨E, hE⟩ : ∃ E, E = EV ea (ask (bs.drop p) 0 4) := ⟨_, rfl⟩
    rw [← hE] at HCL
    have hEs := EV_iface ea (ask (bs.drop p) 0 4)
    rw [← hE] at hEs
    have HEE := Lib.hid hE
    have hvr : bs ≠ [] → ∀ k, (Value.slice a bs.length c).ownBlock = some k → k ∉ [r, q] := fun h k hk hm => by
      have h1 := Row.block_lt HZ.out.row (List.length_pos_iff.2 h) k hk
      rcases List.mem_cons.1 hm with h2 | h2
      · omega
      · rw [List.mem_singleton] at h2; exact HVQ.out h (h2 ▸ hk)
    have HVR := Lib.hid hvr
    have HZ1 := Lib.hid hz1
    have HB1 := Lib.hid hb1
    have hvo2 := hvo
    clear hz1 hq1 hrd hb1 HK HNR hbd c0 c1 hsl hvo hE hvr
    have HVO := Lib.hid hvo2
    rw [← HR.out] at HCL
    clear hvo2
    rcases hEs with rfl | ⟨ad, rfl⟩
    · go_wp2_with fail
      refine HCL.out.mono ?_
      rintro e w2 ⟨rfl, hrd2, hq2, hg2⟩
      have hgr : g ∉ [r, q] := by
        intro hm
        rcases List.mem_cons.1 hm with h2 | h2
        · omega
        · rw [List.mem_singleton] at h2; exact HNE.out h2
      have hc2 := HZ1.out.cells.grew hg2 hgr
      have d0 := hc2.cell 0 (v := .slice a bs.length c) rfl
      have d1 := hc2.cell 1 (v := .int .i64 p) rfl
      have d2 := hc2.cell 2 (v := .nilIface) rfl
      have f1 := hc2.free 1
      have f2 := hc2.free 2
      have hgg : w2.grownBy (w2.setCell ⟨g, 2, none⟩ .nilIface) (some g) := grownBy_setCell (grownBy_refl _ _) ⟨g, 2, none⟩ (.inl rfl) _
      have hrd3 := hrd2.other hgg (by omega) (fun h e => by
        have h1 : bs ≠ [] := fun h0 => h (by rw [h0]; exact List.drop_nil)
        have h2 := Row.block_lt HZ.out.row (List.length_pos_iff.2 h1) g ((HVO.out h).symm.trans e)
        exact HZ.out.apart h1 ((HVO.out h).symm.trans e))
      have hat : Calls Tryd.prog 138 #[.pointer (some ⟨r, 0, none⟩)] (w2.setCell ⟨g, 2, none⟩ .nilIface).drew fun e w'' => e = .returned (.int .i64 R) ∧ w'' = (w2.setCell ⟨g, 2, none⟩ .nilIface).drew := (at_any r v' (bs.drop p) _ _ (hrd3.stays (Below.refl _ _).drew)).mono fun e w' ⟨h1, h2⟩ => ⟨h1.trans (by rw [HR.out]), h2.symm⟩
      have HAT := Lib.hid hat
      have HQ2 := Lib.hid hq2
      have HG2 := Lib.hid hg2
      have hc3 : CellsAt (w2.setCell ⟨g, 2, none⟩ .nilIface).drew g 177 #[.slice a bs.length c, .int .i64 p, .nilIface] := hc2.set 2 .nilIface
      have HC3 := Lib.hid hc3
      have d11 := hc3.cell 1 (v := .int .i64 p) rfl
      have f11 := hc3.free 1
      clear HCL hat hgg hrd3 hrd2 hq2 hg2 hc3
      go_wp2_with fail
      refine wp_region_still_tail 9 (by kernel_rfl) (by kernel_rfl) ?_
      simp only [List.take_succ_cons, List.take_zero, List.drop_succ_cons, List.drop_zero]
      change wpStill _ _ (w2.setCell ⟨g, 2, none⟩ .nilIface).drew _ _ _
      repeat still_step
      still_call HAT.out
      repeat still_step
      refine wpStill_nil ?_
      change wpList _ _ _ _ _ (w2.setCell ⟨g, 2, none⟩ .nilIface).drew
      obtain ⟨w3, hw3⟩ : ∃ w3, w3 = (w2.setCell ⟨g, 2, none⟩ .nilIface).drew := ⟨_, rfl⟩
      rw [← hw3] at HC3 d11 f11 ⊢
      have HW3 := Lib.hid hw3
      clear HAT hw3 d0 d1 d2 f1 f2 hc2
      go_wp2_with fail
      go_end0
      have hg3 : w2.grownBy (w3.setCell ⟨g, 1, none⟩ (.int .i64 ((p : Int) + R))) (some g) := by
        rw [HW3.out]
        exact grownBy_setCell (grownBy_drew (grownBy_setCell (grownBy_refl _ _) ⟨g, 2, none⟩ (.inl rfl) .nilIface)) ⟨g, 1, none⟩ (.inl rfl) _
      refine ⟨rfl, ⟨?_, ?_, ?_, HZ.out.apart, HZ.out.small⟩, ?_, ?_⟩
      · have := HC3.out.set 1 (.int .i64 ((p : Int) + R))
        rw [← HEE.out]
        simpa using this
      · exact (HG2.out.rowB HZ1.out.row HVR.out).keep hg3 HZ.out.apart
      · omega
      · exact HQ2.out.grown hg3 (fun h => HNE.out (by cases h; rfl))
      · refine ((Grew.ofBelow (S := [g, q]) HB1.out).step HG2.out (fun i hi => ?_)).grown hg3 (fun i h => .inl (by cases h; simp))
        rcases List.mem_cons.1 hi with h2 | h2
        · exact .inr (by omega)
        · rw [List.mem_singleton] at h2; exact .inl (by rw [h2]; simp)
    · go_wp2_with fail
      refine HCL.out.mono ?_
      rintro e w2 ⟨rfl, hrd2, hq2, hg2⟩
      have hgr : g ∉ [r, q] := by
        intro hm
        rcases List.mem_cons.1 hm with h2 | h2
        · omega
        · rw [List.mem_singleton] at h2; exact HNE.out h2
      have hc2 := HZ1.out.cells.grew hg2 hgr
      have d0 := hc2.cell 0 (v := .slice a bs.length c) rfl
      have d1 := hc2.cell 1 (v := .int .i64 p) rfl
      have d2 := hc2.cell 2 (v := .nilIface) rfl
      have f1 := hc2.free 1
      have f2 := hc2.free 2
      have hgg : w2.grownBy (w2.setCell ⟨g, 2, none⟩ (.iface 248 (.pointer (some ad)))) (some g) := grownBy_setCell (grownBy_refl _ _) ⟨g, 2, none⟩ (.inl rfl) _
      have hrd3 := hrd2.other hgg (by omega) (fun h e => by
        have h1 : bs ≠ [] := fun h0 => h (by rw [h0]; exact List.drop_nil)
        have h2 := Row.block_lt HZ.out.row (List.length_pos_iff.2 h1) g ((HVO.out h).symm.trans e)
        exact HZ.out.apart h1 ((HVO.out h).symm.trans e))
      have hat : Calls Tryd.prog 138 #[.pointer (some ⟨r, 0, none⟩)] (w2.setCell ⟨g, 2, none⟩ (.iface 248 (.pointer (some ad)))).drew fun e w'' => e = .returned (.int .i64 R) ∧ w'' = (w2.setCell ⟨g, 2, none⟩ (.iface 248 (.pointer (some ad)))).drew := (at_any r v' (bs.drop p) _ _ (hrd3.stays (Below.refl _ _).drew)).mono fun e w' ⟨h1, h2⟩ => ⟨h1.trans (by rw [HR.out]), h2.symm⟩
      have HAT := Lib.hid hat
      have HQ2 := Lib.hid hq2
      have HG2 := Lib.hid hg2
      have hc3 : CellsAt (w2.setCell ⟨g, 2, none⟩ (.iface 248 (.pointer (some ad)))).drew g 177 #[.slice a bs.length c, .int .i64 p, (.iface 248 (.pointer (some ad)))] := hc2.set 2 (.iface 248 (.pointer (some ad)))
      have HC3 := Lib.hid hc3
      have d11 := hc3.cell 1 (v := .int .i64 p) rfl
      have f11 := hc3.free 1
      clear HCL hat hgg hrd3 hrd2 hq2 hg2 hc3
      go_wp2_with fail
      refine wp_region_still_tail 9 (by kernel_rfl) (by kernel_rfl) ?_
      simp only [List.take_succ_cons, List.take_zero, List.drop_succ_cons, List.drop_zero]
      change wpStill _ _ (w2.setCell ⟨g, 2, none⟩ (.iface 248 (.pointer (some ad)))).drew _ _ _
      repeat still_step
      still_call HAT.out
      repeat still_step
      refine wpStill_nil ?_
      change wpList _ _ _ _ _ (w2.setCell ⟨g, 2, none⟩ (.iface 248 (.pointer (some ad)))).drew
      obtain ⟨w3, hw3⟩ : ∃ w3, w3 = (w2.setCell ⟨g, 2, none⟩ (.iface 248 (.pointer (some ad)))).drew := ⟨_, rfl⟩
      rw [← hw3] at HC3 d11 f11 ⊢
      have HW3 := Lib.hid hw3
      clear HAT hw3 d0 d1 d2 f1 f2 hc2
      go_wp2_with fail
      go_end0
      have hg3 : w2.grownBy (w3.setCell ⟨g, 1, none⟩ (.int .i64 ((p : Int) + R))) (some g) := by
        rw [HW3.out]
        exact grownBy_setCell (grownBy_drew (grownBy_setCell (grownBy_refl _ _) ⟨g, 2, none⟩ (.inl rfl) (.iface 248 (.pointer (some ad))))) ⟨g, 1, none⟩ (.inl rfl) _
      refine ⟨rfl, ⟨?_, ?_, ?_, HZ.out.apart, HZ.out.small⟩, ?_, ?_⟩
      · have := HC3.out.set 1 (.int .i64 ((p : Int) + R))
        rw [← HEE.out]
        simpa using this
      · exact (HG2.out.rowB HZ1.out.row HVR.out).keep hg3 HZ.out.apart
      · omega
      · exact HQ2.out.grown hg3 (fun h => HNE.out (by cases h; rfl))
      · refine ((Grew.ofBelow (S := [g, q]) HB1.out).step HG2.out (fun i hi => ?_)).grown hg3 (fun i h => .inl (by cases h; simp))
        rcases List.mem_cons.1 hi with h2 | h2
        · exact .inr (by omega)
        · rw [List.mem_singleton] at h2; exact .inl (by rw [h2]; simp)
set_option maxRecDepth 100000 in
set_option maxHeartbeats 4000000 in
theorem readTk_any (ea : Nat → Addr) (g : Nat) (v : Value) (bs : List UInt8) (p : Nat) (w : World) (hz : Pz ea w g v bs p 0) (he1 : ErrAt w 2 (ea 1)) (he2 : ErrAt w 3 (ea 2)) (m n q : Nat) (s : List UInt8) (hm : CellsAt w m 67 #[.int .u64 n]) (hn : n ≤ 100000000) (hmq : m ≠ q) (hne : g ≠ q) (hvq : bs ≠ [] → v.ownBlock ≠ some q) (hq : CellsAt w q 9 #[.string (strB s)]) :
    Calls Tryd.prog 125 #[.pointer (some ⟨g, 0, none⟩), .func (.func 126) #[] #[.pointer (some ⟨m, 0, none⟩), .pointer (some ⟨q, 0, none⟩)]] w fun e w' => e = .returned (.tuple #[]) ∧ Pz ea w' g v bs (p + rat (bs.drop p) 0 (n : Int)) (ask (bs.drop p) 0 (n : Int)) ∧ CellsAt w' q 9 #[.string (strB (rgot (bs.drop p) 0 (n : Int)))] ∧ Grew [g, q] w w' := by
  obtain ⟨a, c, rfl, -, -⟩ := hz.row.gen.shape
  have hcap := hz.row.gen.cap
  have hle := hz.le
  have hsm := hz.small
  have c0 := hz.cells.cell 0 (v := .slice a bs.length c) rfl
  have c1 := hz.cells.cell 1 (v := .int .i64 p) rfl
  have hsl := slice_from hz.row p hle
  have hdl : (bs.drop p).length = bs.length - p := List.length_drop
  have HZ := Lib.hid hz
  have hgl := hz.cells.lt
  have hql := hq.lt
  have hml := hm.lt
  have HM := Lib.hid hm
  have HVQ := Lib.hid hvq
  have HNE := Lib.hid hne
  have HQ := Lib.hid hq
  have HE1 := Lib.hid he1
  have HE2 := Lib.hid he2
  have i1 : (p : Int) ≤ bs.length := by omega
  have i2 : (p : Int) ≤ c := by omega
  have i4 : (bs.length : Int) ≤ 1000000 := by omega
  have HNR : Hid (∀ W v', Below w.heap.size w W → RowB W v' (bs.drop p) → (bs.drop p ≠ [] → v'.ownBlock = (Value.slice a bs.length c).ownBlock) → Calls Tryd.prog 121 #[v'] W fun e w' => ∃ r, e = .returned (.pointer (some ⟨r, 0, none⟩)) ∧ W.heap.size ≤ r ∧ Rd w' r v' (bs.drop p) 0 ∧ Below W.heap.size W w') := fun W v' hb h _ => (newReader_any v' _ W h (by rw [hdl]; omega)).mono fun e w' ⟨h1, h2, h3⟩ => ⟨_, h1, Nat.le_refl _, h2, h3⟩
  have HK : Hid (∀ w', Below w.heap.size w w' → Below w.heap.size w w' ∧ w'.cell? ⟨g, 0, none⟩ = some (.slice a bs.length c) ∧ w'.cell? ⟨g, 1, none⟩ = some (.int .i64 p)) := fun w' hb => ⟨hb, (HZ.out.cells.stays hb).cell 0 rfl, (HZ.out.cells.stays hb).cell 1 rfl⟩
  have hbd : Below w.heap.size w w.drew := (Below.refl _ _).drew
  have hob : ∀ n' c', bs.drop p ≠ [] → (Value.slice (a.map fun x => x.add p) n' c').ownBlock = (Value.slice a bs.length c).ownBlock := fun n' c' _ => by
    cases a with
    | none => rfl
    | some x =>
      have e : (x.add p).block = x.block := by unfold Addr.add; split <;> rfl
      simp [Value.ownBlock, e]
  have HOB := Lib.hid hob
  clear hz he1 he2 hvq hne hq hob hm
  obtain ⟨R, hR⟩ : ∃ R, R = rat (bs.drop p) 0 (n : Int) := ⟨_, rfl⟩
  have hRl : R ≤ bs.length - p := by
    have h1 : rat (bs.drop p) 0 (n : Int) ≤ (bs.drop p).length := by
      unfold rat
      split
      · rename_i h0
        unfold ask at h0
        split at h0
        · exact absurd h0 (by decide)
        · split at h0
          · exact absurd h0 (by decide)
          · omega
      · exact Nat.zero_le _
    rw [hR]; omega
  rw [← hR]
  have i5 : (R : Int) ≤ (bs.length : Int) - p := by omega
  have HR := Lib.hid hR
  clear hR
  go_enter Tryd.func125, Tryd.ntmps125
  go_upto_region 0 with fail
  go_cut [4] from 5 to 14 (fun v4 wx => ∃ r v', v4 = .pointer (some ⟨r, 0, none⟩) ∧ w.heap.size ≤ r ∧ Rd wx r v' (bs.drop p) 0 ∧ (bs.drop p ≠ [] → v'.ownBlock = (Value.slice a bs.length c).ownBlock) ∧ Below w.heap.size w wx)
  case first =>
    by_cases hcp : c = p
    · rw [if_pos hcp] at hsl
      have HS := Lib.hid hsl
      obtain rfl : c = bs.length := by omega
      obtain rfl : p = bs.length := hcp.symm
      rw [Nat.sub_self] at HS
      have HP : Hid (∀ W, Below w.heap.size w W → Calls Tryd.prog 121 #[.slice a 0 0] W fun e w' => ∃ r, e = .returned (.pointer (some ⟨r, 0, none⟩)) ∧ W.heap.size ≤ r ∧ Rd w' r (.slice a 0 0) (bs.drop bs.length) 0 ∧ Below W.heap.size W w') := fun W hb => HNR.out W _ hb (HS.out.stays hb) (fun h => absurd (List.drop_length) h)
      clear HNR hsl
      go_region_held3 (fun w' => Below w.heap.size w w' ∧ w'.cell? ⟨g, 0, none⟩ = some (.slice a bs.length bs.length) ∧ w'.cell? ⟨g, 1, none⟩ = some (.int .i64 bs.length))
        (exact HK.out _ (by assumption))
        ((first
          | (go_at_call 121; (with_reducible refine (HP.out _ (by assumption)).mono ?_); rintro e wA ⟨rr, rfl, hrr, hrd, hbA⟩; have hbC := Below.size (B := w.heap.size) (w := w) (by assumption); have hbB := Below.trans (B := w.heap.size) (a := w) (by assumption) (hbA.mono (Below.size (by assumption))))))
      all_goals go_wp2_with fail
      all_goals go_meet
      all_goals exact ⟨rr, _, rfl, Nat.le_trans hbC hrr, hrd, fun h => absurd (List.drop_length) h, hbB⟩
    · rw [if_neg hcp] at hsl
      have HS := Lib.hid hsl
      have HP : Hid (∀ W, Below w.heap.size w W → Calls Tryd.prog 121 #[.slice (a.map fun x => x.add p) (bs.length - p) (c - p)] W fun e w' => ∃ r, e = .returned (.pointer (some ⟨r, 0, none⟩)) ∧ W.heap.size ≤ r ∧ Rd w' r (.slice (a.map fun x => x.add p) (bs.length - p) (c - p)) (bs.drop p) 0 ∧ Below W.heap.size W w') := fun W hb => HNR.out W _ hb (HS.out.stays hb) (HOB.out _ _)
      clear HNR hsl
      go_region_held3 (fun w' => Below w.heap.size w w' ∧ w'.cell? ⟨g, 0, none⟩ = some (.slice a bs.length c) ∧ w'.cell? ⟨g, 1, none⟩ = some (.int .i64 p))
        (exact HK.out _ (by assumption))
        ((first
          | (go_at_call 121; (with_reducible refine (HP.out _ (by assumption)).mono ?_); rintro e wA ⟨rr, rfl, hrr, hrd, hbA⟩; have hbC := Below.size (B := w.heap.size) (w := w) (by assumption); have hbB := Below.trans (B := w.heap.size) (a := w) (by assumption) (hbA.mono (Below.size (by assumption))))))
      all_goals go_wp2_with fail
      all_goals go_meet
      all_goals exact ⟨rr, _, rfl, Nat.le_trans hbC hrr, hrd, HOB.out _ _, hbB⟩
  case rest =>
    obtain ⟨r, v', rfl, hrr, hrd, hvo, hb1⟩ := hcut
    obtain ⟨w1, rfl⟩ : ∃ w1 : World, w1 = wc := ⟨_, rfl⟩
    have hz1 := HZ.out.stays hb1
    have hq1 := HQ.out.stays hb1
    have HCL := Lib.hid (clTk_any ea r q v' (bs.drop p) 0 w1 hrd (by omega) (fun h => by rw [hvo h]; exact HVQ.out (fun e => h (by rw [e]; exact List.drop_nil))) (HE1.out.stays hb1) (HE2.out.stays hb1) m n s (HM.out.stays hb1) hn (by omega) hmq hq1)
    obtain ⟨E, hE⟩ : ∃ E, E = EV ea (ask (bs.drop p) 0 (n : Int)) := ⟨_, rfl⟩
    rw [← hE] at HCL
    have hEs := EV_iface ea (ask (bs.drop p) 0 (n : Int))
    rw [← hE] at hEs
    have HEE := Lib.hid hE
    have hvr : bs ≠ [] → ∀ k, (Value.slice a bs.length c).ownBlock = some k → k ∉ [r, q] := fun h k hk hm => by
      have h1 := Row.block_lt HZ.out.row (List.length_pos_iff.2 h) k hk
      rcases List.mem_cons.1 hm with h2 | h2
      · omega
      · rw [List.mem_singleton] at h2; exact HVQ.out h (h2 ▸ hk)
    have HVR := Lib.hid hvr
    have HZ1 := Lib.hid hz1
    have HB1 := Lib.hid hb1
    have hvo2 := hvo
    clear hz1 hq1 hrd hb1 HK HNR hbd c0 c1 hsl hvo hE hvr
    have HVO := Lib.hid hvo2
    rw [← HR.out] at HCL
    clear hvo2
    rcases hEs with rfl | ⟨ad, rfl⟩
    · go_wp2_with fail
      refine HCL.out.mono ?_
      rintro e w2 ⟨rfl, hrd2, hq2, hg2⟩
      have hgr : g ∉ [r, q] := by
        intro hm
        rcases List.mem_cons.1 hm with h2 | h2
        · omega
        · rw [List.mem_singleton] at h2; exact HNE.out h2
      have hc2 := HZ1.out.cells.grew hg2 hgr
      have d0 := hc2.cell 0 (v := .slice a bs.length c) rfl
      have d1 := hc2.cell 1 (v := .int .i64 p) rfl
      have d2 := hc2.cell 2 (v := .nilIface) rfl
      have f1 := hc2.free 1
      have f2 := hc2.free 2
      have hgg : w2.grownBy (w2.setCell ⟨g, 2, none⟩ .nilIface) (some g) := grownBy_setCell (grownBy_refl _ _) ⟨g, 2, none⟩ (.inl rfl) _
      have hrd3 := hrd2.other hgg (by omega) (fun h e => by
        have h1 : bs ≠ [] := fun h0 => h (by rw [h0]; exact List.drop_nil)
        have h2 := Row.block_lt HZ.out.row (List.length_pos_iff.2 h1) g ((HVO.out h).symm.trans e)
        exact HZ.out.apart h1 ((HVO.out h).symm.trans e))
      have hat : Calls Tryd.prog 138 #[.pointer (some ⟨r, 0, none⟩)] (w2.setCell ⟨g, 2, none⟩ .nilIface).drew fun e w'' => e = .returned (.int .i64 R) ∧ w'' = (w2.setCell ⟨g, 2, none⟩ .nilIface).drew := (at_any r v' (bs.drop p) _ _ (hrd3.stays (Below.refl _ _).drew)).mono fun e w' ⟨h1, h2⟩ => ⟨h1.trans (by rw [HR.out]), h2.symm⟩
      have HAT := Lib.hid hat
      have HQ2 := Lib.hid hq2
      have HG2 := Lib.hid hg2
      have hc3 : CellsAt (w2.setCell ⟨g, 2, none⟩ .nilIface).drew g 177 #[.slice a bs.length c, .int .i64 p, .nilIface] := hc2.set 2 .nilIface
      have HC3 := Lib.hid hc3
      have d11 := hc3.cell 1 (v := .int .i64 p) rfl
      have f11 := hc3.free 1
      clear HCL hat hgg hrd3 hrd2 hq2 hg2 hc3
      go_wp2_with fail
      refine wp_region_still_tail 9 (by kernel_rfl) (by kernel_rfl) ?_
      simp only [List.take_succ_cons, List.take_zero, List.drop_succ_cons, List.drop_zero]
      change wpStill _ _ (w2.setCell ⟨g, 2, none⟩ .nilIface).drew _ _ _
      repeat still_step
      still_call HAT.out
      repeat still_step
      refine wpStill_nil ?_
      change wpList _ _ _ _ _ (w2.setCell ⟨g, 2, none⟩ .nilIface).drew
      obtain ⟨w3, hw3⟩ : ∃ w3, w3 = (w2.setCell ⟨g, 2, none⟩ .nilIface).drew := ⟨_, rfl⟩
      rw [← hw3] at HC3 d11 f11 ⊢
      have HW3 := Lib.hid hw3
      clear HAT hw3 d0 d1 d2 f1 f2 hc2
      go_wp2_with fail
      go_end0
      have hg3 : w2.grownBy (w3.setCell ⟨g, 1, none⟩ (.int .i64 ((p : Int) + R))) (some g) := by
        rw [HW3.out]
        exact grownBy_setCell (grownBy_drew (grownBy_setCell (grownBy_refl _ _) ⟨g, 2, none⟩ (.inl rfl) .nilIface)) ⟨g, 1, none⟩ (.inl rfl) _
      refine ⟨rfl, ⟨?_, ?_, ?_, HZ.out.apart, HZ.out.small⟩, ?_, ?_⟩
      · have := HC3.out.set 1 (.int .i64 ((p : Int) + R))
        rw [← HEE.out]
        simpa using this
      · exact (HG2.out.rowB HZ1.out.row HVR.out).keep hg3 HZ.out.apart
      · omega
      · exact HQ2.out.grown hg3 (fun h => HNE.out (by cases h; rfl))
      · refine ((Grew.ofBelow (S := [g, q]) HB1.out).step HG2.out (fun i hi => ?_)).grown hg3 (fun i h => .inl (by cases h; simp))
        rcases List.mem_cons.1 hi with h2 | h2
        · exact .inr (by omega)
        · rw [List.mem_singleton] at h2; exact .inl (by rw [h2]; simp)
    · go_wp2_with fail
      refine HCL.out.mono ?_
      rintro e w2 ⟨rfl, hrd2, hq2, hg2⟩
      have hgr : g ∉ [r, q] := by
        intro hm
        rcases List.mem_cons.1 hm with h2 | h2
        · omega
        · rw [List.mem_singleton] at h2; exact HNE.out h2
      have hc2 := HZ1.out.cells.grew hg2 hgr
      have d0 := hc2.cell 0 (v := .slice a bs.length c) rfl
      have d1 := hc2.cell 1 (v := .int .i64 p) rfl
      have d2 := hc2.cell 2 (v := .nilIface) rfl
      have f1 := hc2.free 1
      have f2 := hc2.free 2
      have hgg : w2.grownBy (w2.setCell ⟨g, 2, none⟩ (.iface 248 (.pointer (some ad)))) (some g) := grownBy_setCell (grownBy_refl _ _) ⟨g, 2, none⟩ (.inl rfl) _
      have hrd3 := hrd2.other hgg (by omega) (fun h e => by
        have h1 : bs ≠ [] := fun h0 => h (by rw [h0]; exact List.drop_nil)
        have h2 := Row.block_lt HZ.out.row (List.length_pos_iff.2 h1) g ((HVO.out h).symm.trans e)
        exact HZ.out.apart h1 ((HVO.out h).symm.trans e))
      have hat : Calls Tryd.prog 138 #[.pointer (some ⟨r, 0, none⟩)] (w2.setCell ⟨g, 2, none⟩ (.iface 248 (.pointer (some ad)))).drew fun e w'' => e = .returned (.int .i64 R) ∧ w'' = (w2.setCell ⟨g, 2, none⟩ (.iface 248 (.pointer (some ad)))).drew := (at_any r v' (bs.drop p) _ _ (hrd3.stays (Below.refl _ _).drew)).mono fun e w' ⟨h1, h2⟩ => ⟨h1.trans (by rw [HR.out]), h2.symm⟩
      have HAT := Lib.hid hat
      have HQ2 := Lib.hid hq2
      have HG2 := Lib.hid hg2
      have hc3 : CellsAt (w2.setCell ⟨g, 2, none⟩ (.iface 248 (.pointer (some ad)))).drew g 177 #[.slice a bs.length c, .int .i64 p, (.iface 248 (.pointer (some ad)))] := hc2.set 2 (.iface 248 (.pointer (some ad)))
      have HC3 := Lib.hid hc3
      have d11 := hc3.cell 1 (v := .int .i64 p) rfl
      have f11 := hc3.free 1
      clear HCL hat hgg hrd3 hrd2 hq2 hg2 hc3
      go_wp2_with fail
      refine wp_region_still_tail 9 (by kernel_rfl) (by kernel_rfl) ?_
      simp only [List.take_succ_cons, List.take_zero, List.drop_succ_cons, List.drop_zero]
      change wpStill _ _ (w2.setCell ⟨g, 2, none⟩ (.iface 248 (.pointer (some ad)))).drew _ _ _
      repeat still_step
      still_call HAT.out
      repeat still_step
      refine wpStill_nil ?_
      change wpList _ _ _ _ _ (w2.setCell ⟨g, 2, none⟩ (.iface 248 (.pointer (some ad)))).drew
      obtain ⟨w3, hw3⟩ : ∃ w3, w3 = (w2.setCell ⟨g, 2, none⟩ (.iface 248 (.pointer (some ad)))).drew := ⟨_, rfl⟩
      rw [← hw3] at HC3 d11 f11 ⊢
      have HW3 := Lib.hid hw3
      clear HAT hw3 d0 d1 d2 f1 f2 hc2
      go_wp2_with fail
      go_end0
      have hg3 : w2.grownBy (w3.setCell ⟨g, 1, none⟩ (.int .i64 ((p : Int) + R))) (some g) := by
        rw [HW3.out]
        exact grownBy_setCell (grownBy_drew (grownBy_setCell (grownBy_refl _ _) ⟨g, 2, none⟩ (.inl rfl) (.iface 248 (.pointer (some ad))))) ⟨g, 1, none⟩ (.inl rfl) _
      refine ⟨rfl, ⟨?_, ?_, ?_, HZ.out.apart, HZ.out.small⟩, ?_, ?_⟩
      · have := HC3.out.set 1 (.int .i64 ((p : Int) + R))
        rw [← HEE.out]
        simpa using this
      · exact (HG2.out.rowB HZ1.out.row HVR.out).keep hg3 HZ.out.apart
      · omega
      · exact HQ2.out.grown hg3 (fun h => HNE.out (by cases h; rfl))
      · refine ((Grew.ofBelow (S := [g, q]) HB1.out).step HG2.out (fun i hi => ?_)).grown hg3 (fun i h => .inl (by cases h; simp))
        rcases List.mem_cons.1 hi with h2 | h2
        · exact .inr (by omega)
        · rw [List.mem_singleton] at h2; exact .inl (by rw [h2]; simp)
end Go.Proofs.YtgehbabcpmkgaaaDoor
