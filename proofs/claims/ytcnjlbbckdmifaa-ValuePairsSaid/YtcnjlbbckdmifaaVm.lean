/- Where a field stands (slices.BinarySearchFunc), a row of fields with one at a place. -/
import Derived.Test.YtcnjlbbckdmifaaVl
import Derived.Test.YtcnjlbbckdmifaaSlcS
import Derived.Lib.SliceRun
namespace Go.Proofs.Ytcnjlbbckdmifaa
open Go Go.RowKit
set_option linter.unusedVariables false
theorem infoFd : (Try.prog.info? 83).map (fun i => (i.zero, i.size, i.bytes)) = some (some (.agg #[.int .i64 0, .int .i64 0, .int .u64 0, .string ⟨#[]⟩, .slice none 0 0, .string ⟨#[]⟩, .slice none 0 0, .slice none 0 0]), 8, 128) := by kernel_rfl
section
variable {k : Int} {n : Nat} {t r : List UInt8} {fs : List (Int × V)} {ls : List V} {ps : List (V × V)} {fa la pa : Option Addr} {fc lc pc : Nat} {S : Nat → Prop} {w : World}
/-- the fields, as they lie -/
theorem Rep.fieldsRow (h : Rep S w (.mk k n t fs r ls ps) ⟨fa, fc, la, lc, pa, pc⟩) : ∃ fl : List (Int × (V × A3)), fs = fl.map fE ∧ RowS fC w (.slice fa fs.length fc) fl ∧ ∀ p ∈ fl, i64 p.1 ∧ Rep S w p.2.1 p.2.2 := by
  cases h with
  | mk _ _ fl ll pl hk hn hf hl hp hb rf rl rp sf sl sp cf cl cp cq => exact ⟨fl, hf, rf, fun p hp => ⟨hb p hp, cf p hp⟩⟩
theorem Rep.pairsRow (h : Rep S w (.mk k n t fs r ls ps) ⟨fa, fc, la, lc, pa, pc⟩) : ∃ pl : List ((V × A3) × (V × A3)), ps = pl.map pE ∧ RowS pC w (.slice pa ps.length pc) pl ∧ ∀ p ∈ pl, Rep S w p.1.1 p.1.2 ∧ Rep S w p.2.1 p.2.2 := by
  cases h with
  | mk _ _ fl ll pl hk hn hf hl hp hb rf rl rp sf sl sp cf cl cp cq => exact ⟨pl, hp, rp, fun p hp => ⟨cp p hp, cq p hp⟩⟩
/-- other fields -/
theorem Rep.newFields {w' : World} {S' : Nat → Prop} (h : Rep S w (.mk k n t fs r ls ps) ⟨fa, fc, la, lc, pa, pc⟩) (hb : Below w.heap.size w w') (hS : ∀ k, k < w.heap.size → S' k) (fl : List (Int × (V × A3))) (fa' : Option Addr) (fc' : Nat) (hrow : RowS fC w' (.slice fa' fl.length fc') fl)
    (hown : ∀ k, (Value.slice fa' fl.length fc').ownBlock = some k → S' k) (hfl : ∀ p ∈ fl, i64 p.1 ∧ Rep S' w' p.2.1 p.2.2) :
    Rep S' w' (.mk k n t (fl.map fE) r ls ps) ⟨fa', fc', la, lc, pa, pc⟩ := by
  have h' := (h.lt.mono (fun k hk => hS k hk.2)).stays hb
  cases h' with
  | mk _ _ fl0 ll pl hk hn hf hl hp hb rf rl rp sf sl sp cf cl cp cq =>
    refine .mk _ _ fl ll pl hk hn rfl hl hp (fun p hp => (hfl p hp).1) (by simpa [slF, V.fs] using hrow) rl rp (fun _ k hk => hown k (by simpa [slF, V.fs] using hk)) sl sp (fun p hp => (hfl p hp).2) cl cp cq
/-- a map of these pairs alone -/
theorem Rep.newPairs {w' : World} {S' : Nat → Prop} (pl : List ((V × A3) × (V × A3))) (pa' : Option Addr) (pc' : Nat) (hrow : RowS pC w' (.slice pa' pl.length pc') pl) (hown : ∀ k, (Value.slice pa' pl.length pc').ownBlock = some k → S' k) (hpl : ∀ p ∈ pl, Rep S' w' p.1.1 p.1.2 ∧ Rep S' w' p.2.1 p.2.2) :
    Rep S' w' (.mk 5 0 [] [] [] [] (pl.map pE)) ⟨none, 0, none, 0, pa', pc'⟩ :=
  .mk _ _ [] [] pl ⟨by simp [V.k], by simp [V.k]⟩ (by simp [V.n]) rfl rfl rfl (fun _ h => by cases h) (RowS.nil _) (RowS.nil _) (by simpa [slP, V.ps] using hrow) Lies.nil Lies.nil (fun _ k hk => hown k (by simpa [slP, V.ps] using hk)) (fun _ h => by cases h) (fun _ h => by cases h) (fun p hp => (hpl p hp).1) (fun p hp => (hpl p hp).2)
end
theorem splice_map {α β : Type} (f : α → β) (l : List α) (i m : Nat) (p : Bool) (x : α) : (splice l i m p x).map f = splice (l.map f) i m p (f x) := by
  unfold splice
  cases p <;> simp
/-! ### rows of fields -/
set_option maxRecDepth 100000 in
set_option maxHeartbeats 2000000 in
theorem cloneF_any (v : Value) (l : List (Int × (V × A3))) (w : World) (hr : RowS fC w v l) (hlen : l.length ≤ 1000000) :
    Calls Try.prog 107 #[v] w fun e w' => ∃ v', e = .returned v' ∧ OwnS 83 8 fC w.heap.size w' v' l ∧ Below w.heap.size w w' := by
  have hr' : ∀ o, RowS fC (w.alloc o) v l := fun o => RowS.stays hr ((Below.refl _ _).alloc (Nat.le_refl _) o)
  obtain ⟨a, n, c, rfl, hnil⟩ : ∃ a n c, v = .slice a n c ∧ (a = none → l = []) := by
    obtain ⟨a, c, h, _, h2⟩ := hr.shape fC_len
    refine ⟨a, _, c, h, fun h3 => ?_⟩
    cases l with
    | nil => rfl
    | cons x xs => obtain ⟨b, o, h4, _⟩ := h2 0 x rfl; rw [h3] at h4; cases h4
  clear hr
  have hown : Hid (OwnS 83 8 fC w.heap.size (w.alloc (.cells #[] 83)) (.slice (some ⟨w.heap.size, 0, none⟩) 0 0) []) := World.ownsRow_made (base := w.heap.size) (e := 83) (size := 8) w #[] 0 (Nat.le_refl _) (Nat.zero_le _) rfl
  have qT : ∀ (w : World) (a : Option Addr) (n c n' c' : Nat), (binOp .eql 23 (.slice a n c) (.slice none n' c')).run Try.prog w = .ok (.bool a.isNone) w := fun w a n c n' c' => Lib.run_eql_slice_nil w _ _ a n c n' c' Try.underlying23
  rcases a with _ | ad
  · obtain rfl := hnil rfl
    go_enter Try.func107, Try.ntmps107
    go_wp2_with fail
    go_ret
    exact ⟨_, rfl, OwnS.nil _ _, Below.refl _ _⟩
  · go_enter Try.func107, Try.ntmps107
    go_wp2_with (at_builtin; go_must (refine wpList_appendS fC_len fC_one Try.underlying23 infoFd rfl (by decide) hown.out (hr' _) (by simp; omega) (by simp) rfl _ _ rfl (by rfl) (by rfl) ?_))
    intro v' w' how hg _ _
    have hb : Below w.heap.size w w' := ((Below.refl _ _).alloc (Nat.le_refl _) _).grown hg (by simp) (fun k hk => by simp [Value.ownBlock] at hk; omega)
    clear hg
    go_wp2_with fail
    go_ret
    exact ⟨_, rfl, how, hb⟩
set_option maxRecDepth 100000 in
set_option maxHeartbeats 4000000 in
theorem splicedF_any (a : Option Addr) (c : Nat) (l : List (Int × (V × A3))) (i m : Nat) (put : Bool) (num : Int) (k : Int) (n : Nat) (t r : List UInt8) (fs : List (Int × V)) (ls : List V) (ps : List (V × V)) (fa la pa : Option Addr) (fc lc pc : Nat) (w : World)
    (hr : RowS fC w (.slice a l.length c) l) (hlen : l.length ≤ 1000000) (hi : i + m ≤ l.length) :
    Calls Try.prog 73 #[.slice a l.length c, .int .i64 (i : Int), .int .i64 (m : Int), .bool put, .agg #[.int .i64 num, .int .i64 k, .int .u64 (n : Int), .string (strB t), .slice fa fs.length fc, .string (strB r), .slice la ls.length lc, .slice pa ps.length pc]] w
      fun e w' => ∃ v', e = .returned v' ∧ OwnS 83 8 fC w.heap.size w' v' (splice l i m put (num, (.mk k n t fs r ls ps, ⟨fa, fc, la, lc, pa, pc⟩))) ∧ Below w.heap.size w w' := by
  have hrX := hr.stays ((Below.refl _ _).alloc (Nat.le_refl _) (.cells #[.int .i64 num, .int .i64 k, .int .u64 (n : Int), .string (strB t), .slice fa fs.length fc, .string (strB r), .slice la ls.length lc, .slice pa ps.length pc] 83))
  have hbX : Below w.heap.size w (w.alloc (.cells #[.int .i64 num, .int .i64 k, .int .u64 (n : Int), .string (strB t), .slice fa fs.length fc, .string (strB r), .slice la ls.length lc, .slice pa ps.length pc] 83)) := (Below.refl _ _).alloc (Nat.le_refl _) _
  have hcX := CellsAt.new w #[.int .i64 num, .int .i64 k, .int .u64 (n : Int), .string (strB t), .slice fa fs.length fc, .string (strB r), .slice la ls.length lc, .slice pa ps.length pc] 83
  have HCL := Lib.hid (cloneF_any _ _ _ (hrX.upto i (by omega)) (by simp; omega))
  have HSL : Hid (∀ W, (Instr.sliceAt 23 (.slice a l.length c) (some (.int .i64 ((i : Int) + m))) none none).run Try.prog W = .ok (slcS 8 a c (i + m) l.length) W) := fun W => by
    have := slcS_at (P := Try.prog) Try.underlying23 infoFd a l.length c (i + m) .i64 hi W
    rwa [show ((i + m : Nat) : Int) = (i : Int) + m by omega] at this
  have HRF : Hid (∀ W, Below w.heap.size w W → RowS fC W (slcS 8 a c (i + m) l.length) (l.drop (i + m))) := fun W hb => (hr.from fC_len (i + m) hi).stays hb
  have hcap : (i : Int) ≤ (c : Int) := by
    rcases hr.capS with h | h
    · omega
    · rw [h] at hi; simp at hi; omega
  have HBX := Lib.hid hbX
  have HCX := Lib.hid hcX
  clear hr hrX hbX hcX
  have i0 : (0 : Int) ≤ (i : Int) := by omega
  have i1 : (i : Int) ≤ (l.length : Int) := by omega
  go_enter Try.func73, Try.ntmps73
  go_wp2_with fail
  refine HCL.out.mono ?_
  rintro e w1 ⟨v1, rfl, ho1, hb1⟩
  have hcx1 := HCX.out.stays hb1
  have d0 := hcx1.cell 0 (v := (.int .i64 num)) rfl
  have d1 := hcx1.cell 1 (v := (.int .i64 k)) rfl
  have d2 := hcx1.cell 2 (v := (.int .u64 (n : Int))) rfl
  have d3 := hcx1.cell 3 (v := (.string (strB t))) rfl
  have d4 := hcx1.cell 4 (v := (.slice fa fs.length fc)) rfl
  have d5 := hcx1.cell 5 (v := (.string (strB r))) rfl
  have d6 := hcx1.cell 6 (v := (.slice la ls.length lc)) rfl
  have d7 := hcx1.cell 7 (v := (.slice pa ps.length pc)) rfl
  have hbe1 : Below w.heap.size w w1 := HBX.out.trans (hb1.mono HBX.out.size)
  have ho1' := ho1.mono HBX.out.size
  have hs1 := hbe1.size
  have hltg := hcx1.lt
  have hl1 : (l.take i).length = i := by simp; omega
  obtain ⟨a1, c1, rfl, -, -⟩ := ho1.row.shape fC_len
  rw [hl1] at ho1'
  have iw : IntKind.i64.wrap ((i : Int) + m) = (i : Int) + m := IntWalk.i64_in _ (by omega)
  have im0 : (0 : Int) ≤ (m : Int) := by omega
  have im1 : (i : Int) + m ≤ (l.length : Int) := by omega
  have hKS := HSL.out
  clear HCL HCX hb1 hcx1 HBX ho1
  cases put with
  | true =>
    go_wp2_with (at_builtin; go_must (refine wpList_pushS fC_len fC_one Try.underlying23 infoFd rfl (by decide) ho1' (num, (.mk k n t fs r ls ps, ⟨fa, fc, la, lc, pa, pc⟩)) (by omega) hs1 rfl _ _ rfl (by rfl) _ _ _ (by rfl) (by rfl) ?_))
    intro v2 w2 ho2 hg2 _
    have hbe2 := OwnS.below ho1' hbe1 hg2 hs1
    have hs2 := hbe2.size
    have hrf := HRF.out w2 hbe2
    have hl2 : (l.take i ++ [((num, (.mk k n t fs r ls ps, ⟨fa, fc, la, lc, pa, pc⟩)) : Int × (V × A3))]).length = i + 1 := by simp; omega
    clear hg2 ho1' hbe1 d0 d1 d2 d3 d4 d5 d6 d7
    go_wp2_with (at_builtin; go_must (refine wpList_appendS fC_len fC_one Try.underlying23 infoFd rfl (by decide) ho2 hrf (by rw [hl2]; simp; omega) hs2 rfl _ _ rfl (by rfl) (by rfl) ?_))
    intro v3 w3 ho3 hg3 _ _
    have hbe3 := OwnS.below ho2 hbe2 hg3 hs2
    clear hg3 ho2 hbe2
    go_wp2_with fail
    go_ret
    exact ⟨_, rfl, by simpa [splice] using ho3, hbe3⟩
  | false =>
    have hrf := HRF.out w1 hbe1
    clear d0 d1 d2 d3 d4 d5 d6 d7
    go_wp2_with (at_builtin; go_must (refine wpList_appendS fC_len fC_one Try.underlying23 infoFd rfl (by decide) ho1' hrf (by rw [hl1]; simp; omega) hs1 rfl _ _ rfl (by rfl) (by rfl) ?_))
    intro v3 w3 ho3 hg3 _ _
    have hbe3 := OwnS.below ho1' hbe1 hg3 hs1
    clear hg3 ho1' hbe1
    go_wp2_with fail
    go_ret
    exact ⟨_, rfl, by simpa [splice] using ho3, hbe3⟩
end Go.Proofs.Ytcnjlbbckdmifaa
