/- The reference's Get, With. -/
import Derived.Test.YtcjflglpkpkflaaGreatDoorVp
import Derived.Deep.CutRange
namespace Go.Proofs.YtcjflglpkpkflaaGreatDoor
open Go Go.RowKit
set_option linter.unusedVariables false
section
variable {k : Int} {n : Nat} {t r : List UInt8} {fs : List (Int × V)} {ls : List V} {ps : List (V × V)} {fa la pa : Option Addr} {fc lc pc : Nat} {S : Nat → Prop} {w : World}
set_option maxRecDepth 100000 in
set_option maxHeartbeats 4000000 in
theorem rget_any (key : Int) (hr : Rep S w (.mk k n t fs r ls ps) ⟨fa, fc, la, lc, pa, pc⟩) (hlen : fs.length ≤ 1000000) :
    Calls Tryz.prog 41 #[.agg #[.int .i64 k, .int .u64 (n : Int), .string (strB t), .slice fa fs.length fc, .string (strB r), .slice la ls.length lc, .slice pa ps.length pc], .int .i64 key] w (ValP (getV (.mk k n t fs r ls ps) key) w) := by
  obtain ⟨W0, hW0⟩ : ∃ W0, W0 = (w.alloc (.cells #[.int .i64 k, .int .u64 (n : Int), .string (strB t), .slice fa fs.length fc, .string (strB r), .slice la ls.length lc, .slice pa ps.length pc] 47)).alloc (.cells #[.int .i64 0, .int .u64 0, .string ⟨#[]⟩, .slice none 0 0, .string ⟨#[]⟩, .slice none 0 0, .slice none 0 0] 47) := ⟨_, rfl⟩
  obtain ⟨g, hg⟩ : ∃ g, g = w.heap.size := ⟨_, rfl⟩
  have hBA : Below w.heap.size w W0 := by rw [hW0]; exact ((Below.refl _ _).alloc (Nat.le_refl _) _).alloc (by simp) _
  have hcx : CellsAt W0 g 47 #[.int .i64 k, .int .u64 (n : Int), .string (strB t), .slice fa fs.length fc, .string (strB r), .slice la ls.length lc, .slice pa ps.length pc] := by rw [hW0, hg]; exact (CellsAt.new w _ _).stays ((Below.refl _ _).alloc (Nat.le_refl _) _)
  have hcy : CellsAt W0 (g + 1) 47 #[.int .i64 0, .int .u64 0, .string ⟨#[]⟩, .slice none 0 0, .string ⟨#[]⟩, .slice none 0 0, .slice none 0 0] := by
    have := CellsAt.new (w.alloc (.cells #[.int .i64 k, .int .u64 (n : Int), .string (strB t), .slice fa fs.length fc, .string (strB r), .slice la ls.length lc, .slice pa ps.length pc] 47)) #[.int .i64 0, .int .u64 0, .string ⟨#[]⟩, .slice none 0 0, .string ⟨#[]⟩, .slice none 0 0, .slice none 0 0] 47
    rw [show (w.alloc (.cells #[.int .i64 k, .int .u64 (n : Int), .string (strB t), .slice fa fs.length fc, .string (strB r), .slice la ls.length lc, .slice pa ps.length pc] 47)).heap.size = w.heap.size + 1 by simp] at this
    rw [hW0, hg]; exact this
  have HX : Hid (∀ W, Below W0.heap.size W0 W → CellsAt W g 47 #[.int .i64 k, .int .u64 (n : Int), .string (strB t), .slice fa fs.length fc, .string (strB r), .slice la ls.length lc, .slice pa ps.length pc] ∧ CellsAt W (g + 1) 47 #[.int .i64 0, .int .u64 0, .string ⟨#[]⟩, .slice none 0 0, .string ⟨#[]⟩, .slice none 0 0, .slice none 0 0] ∧ Below w.heap.size w W) := fun W hb =>
    ⟨hcx.stays hb, hcy.stays hb, hBA.trans (hb.mono hBA.size)⟩
  have HR0 := Lib.hid hr
  have HW := Lib.hid hW0
  have HG := Lib.hid hg
  obtain ⟨R, hR⟩ : ∃ R, R = getV (.mk k n t fs r ls ps) key := ⟨_, rfl⟩
  rw [← hR]
  have hR' : (if k = 3 then findA (fieldC key) Prod.snd V.none (fs.drop 0) else V.none) = R := by rw [hR]; rfl
  have HR := Lib.hid hR'
  have x3 := hcx.cell 3 (v := .slice fa fs.length fc) rfl
  clear hr hW0 hg hBA hcx hcy hR hR'
  go_enter Tryz.func41, Tryz.ntmps41
  go_wp2_with fail
  have hW0 := HW.out
  have hg := HG.out
  rw [← hW0, ← hg]
  clear hW0 hg HW
  go_loopw [10] (fun i wr => ∃ m : Nat, m ≤ fs.length ∧ i = .int .i64 m ∧ Hid ((if k = 3 then findA (fieldC key) Prod.snd V.none (fs.drop m) else V.none) = R) ∧ Below W0.heap.size W0 wr) (fun i _ => fs.length - (intOf i).toNat)
  case atStart => exact ⟨0, Nat.zero_le _, rfl, HR, Below.refl _ _⟩
  case round =>
    clear x3 HR
    obtain ⟨m, hm, rfl, HI, hbe⟩ := hrel
    obtain ⟨hcx, hcy, hbw⟩ := HX.out wr hbe
    by_cases h1 : m < fs.length
    · obtain ⟨⟨num, ⟨k', n', t', fs', r', ls', ps'⟩⟩, hq⟩ : ∃ p, fs[m]? = some p := ⟨_, List.getElem?_eq_getElem h1⟩
      obtain ⟨b, o, fa', la', pa', fc', lc', pc', rfl, hnum, hrx, c0, c1, c2, c3, c4, c5, c6, c7⟩ := HR0.out.fieldAt hq
      have hlb : b < w.heap.size := World.block_lt_of_cell? w _ c0
      replace c0 := later1 c0 hlb hbw
      replace c1 := later1 c1 hlb hbw
      replace c2 := later1 c2 hlb hbw
      replace c3 := later1 c3 hlb hbw
      replace c4 := later1 c4 hlb hbw
      replace c5 := later1 c5 hlb hbw
      replace c6 := later1 c6 hlb hbw
      replace c7 := later1 c7 hlb hbw
      have hI := HI.out
      rw [drop_fields hq] at hI
      have hI2 : (if k = 3 then (if fieldC key (num, .mk k' n' t' fs' r' ls' ps') = 0 then (.mk k' n' t' fs' r' ls' ps') else findA (fieldC key) Prod.snd V.none (fs.drop (m + 1))) else V.none) = R := hI
      have HI2 := Lib.hid hI2
      have HRX := Lib.hid hrx
      have HBW := Lib.hid hbw
      have HBE := Lib.hid hbe
      obtain ⟨W1, hW1⟩ : ∃ W1, W1 = wr.alloc (.cells #[.int .i64 num, .int .i64 k', .int .u64 (n' : Int), .string (strB t'), .slice fa' fs'.length fc', .string (strB r'), .slice la' ls'.length lc', .slice pa' ps'.length pc'] 90) := ⟨_, rfl⟩
      obtain ⟨h, hh⟩ : ∃ h, h = wr.heap.size := ⟨_, rfl⟩
      have hbA : Below wr.heap.size wr W1 := by rw [hW1]; exact (Below.refl _ _).alloc (Nat.le_refl _) _
      have hcv : CellsAt W1 h 90 #[.int .i64 num, .int .i64 k', .int .u64 (n' : Int), .string (strB t'), .slice fa' fs'.length fc', .string (strB r'), .slice la' ls'.length lc', .slice pa' ps'.length pc'] := by rw [hW1, hh]; exact CellsAt.new wr _ _
      have HBE1 : Hid (Below W0.heap.size W0 W1) := hbe.trans (hbA.mono hbe.size)
      have HW1 := Lib.hid hW1
      have HH := Lib.hid hh
      clear hI hI2 HI hrx hq hbw hbe hcx hcy hbA hW1 hh
      go_upto_region 4 with fail
      have hW1 := HW1.out
      have hh := HH.out
      rw [← hW1, ← hh]
      clear hW1 hh HW1 HH c0 c1 c2 c3 c4 c5 c6 c7
      obtain ⟨hcx, hcy, hbw⟩ := HX.out W1 HBE1.out
      have x0 := hcx.cell 0 (v := .int .i64 k) rfl
      have y0 := hcv.cell 0 (v := .int .i64 num) rfl
      have y1 := hcv.cell 1 (v := .int .i64 k') rfl
      have y2 := hcv.cell 2 (v := .int .u64 (n' : Int)) rfl
      have y3 := hcv.cell 3 (v := .string (strB t')) rfl
      have y4 := hcv.cell 4 (v := .slice fa' fs'.length fc') rfl
      have y5 := hcv.cell 5 (v := .string (strB r')) rfl
      have y6 := hcv.cell 6 (v := .slice la' ls'.length lc') rfl
      have y7 := hcv.cell 7 (v := .slice pa' ps'.length pc') rfl
      have z0 := hcy.cell 0 (v := .int .i64 0) rfl
      have z1 := hcy.cell 1 (v := .int .u64 0) rfl
      have z2 := hcy.cell 2 (v := .string ⟨#[]⟩) rfl
      have z3 := hcy.cell 3 (v := .slice none 0 0) rfl
      have z4 := hcy.cell 4 (v := .string ⟨#[]⟩) rfl
      have z5 := hcy.cell 5 (v := .slice none 0 0) rfl
      have z6 := hcy.cell 6 (v := .slice none 0 0) rfl
      have f0 := hcy.free 0
      have f1 := hcy.free 1
      have f2 := hcy.free 2
      have f3 := hcy.free 3
      have f4 := hcy.free 4
      have f5 := hcy.free 5
      have f6 := hcy.free 6
      have hly := hcy.lt
      have hgl := hcx.lt
      have HBW1 := Lib.hid hbw
      clear hcx hcy hcv hbw
      by_cases hk : k = 3
      · subst hk
        by_cases hn : num = key
        · subst hn
          have HZ : Hid (R = .mk k' n' t' fs' r' ls' ps') := by
            have h9 := HI2.out
            rw [if_pos rfl, if_pos (by unfold fieldC; exact sgnI_zero.2 rfl)] at h9
            exact h9.symm
          have HL := HBW1
          clear HI2
          go_wp2_with fail
          refine bodyPost_ret (v := .agg #[.int .i64 k', .int .u64 (n' : Int), .string (strB t'), .slice fa' fs'.length fc', .string (strB r'), .slice la' ls'.length lc', .slice pa' ps'.length pc']) (by simp [results, Tryz.results41, go_sem, z0, z1, z2, z3, z4, z5, z6]) rfl ?_
          rw [HZ.out]
          have hgw := HG.out
          have hb7 := below_set7 HL.out (show w.heap.size ≤ g + 1 by omega) (.int .i64 k') (.int .u64 (n' : Int)) (.string (strB t')) (.slice fa' fs'.length fc') (.string (strB r')) (.slice la' ls'.length lc') (.slice pa' ps'.length pc')
          exact ⟨⟨fa', fc', la', lc', pa', pc'⟩, rfl, (HRX.out.stays hb7).any, hb7⟩
        · have hn' : (num == key) = false := by simpa using hn
          have HN : Hid ((if (3 : Int) = 3 then findA (fieldC key) Prod.snd V.none (fs.drop (m + 1)) else V.none) = R) := by
            have h9 := HI2.out
            rw [if_pos rfl, if_neg (by unfold fieldC; intro h; exact hn (sgnI_zero.1 h))] at h9
            rw [if_pos rfl]
            exact h9
          have HL := HBE1
          clear HI2
          go_wp2_with fail
          go_roundw
          case rel => exact ⟨m + 1, h1, by go_num, HN, HL.out⟩
          case measure => simp only [intOf]; omega
      · have hk' : (k == 3) = false := by simpa using hk
        have HN : Hid ((if k = 3 then findA (fieldC key) Prod.snd V.none (fs.drop (m + 1)) else V.none) = R) := by
          have h9 := HI2.out
          rw [if_neg hk] at h9
          rw [if_neg hk]
          exact h9
        have HL := HBE1
        clear HI2 hk
        go_wp2_with fail
        go_roundw
        case rel => exact ⟨m + 1, h1, by go_num, HN, HL.out⟩
        case measure => simp only [intOf]; omega
    · have HZ : Hid (R = V.none) := by
        have h9 := HI.out
        rw [List.drop_of_length_le (by omega)] at h9
        rw [← h9]
        split <;> rfl
      have z0 := hcy.cell 0 (v := .int .i64 0) rfl
      have z1 := hcy.cell 1 (v := .int .u64 0) rfl
      have z2 := hcy.cell 2 (v := .string ⟨#[]⟩) rfl
      have z3 := hcy.cell 3 (v := .slice none 0 0) rfl
      have z4 := hcy.cell 4 (v := .string ⟨#[]⟩) rfl
      have z5 := hcy.cell 5 (v := .slice none 0 0) rfl
      have z6 := hcy.cell 6 (v := .slice none 0 0) rfl
      have f0 := hcy.free 0
      have f1 := hcy.free 1
      have f2 := hcy.free 2
      have f3 := hcy.free 3
      have f4 := hcy.free 4
      have f5 := hcy.free 5
      have f6 := hcy.free 6
      have hly := hcy.lt
      have hgl := hcx.lt
      have HBW := Lib.hid hbw
      clear HI hbw hbe hcx hcy
      go_wp2_with fail
      refine bodyPost_ret (v := .agg #[.int .i64 0, .int .u64 0, .string ⟨#[]⟩, .slice none 0 0, .string ⟨#[]⟩, .slice none 0 0, .slice none 0 0]) (by simp [results, Tryz.results41, go_sem, z0, z1, z2, z3, z4, z5, z6]) rfl ?_
      rw [HZ.out]
      have hgw := HG.out
      exact ⟨A3.nil, rfl, rep_none, below_set7 HBW.out (by omega) _ _ _ _ _ _ _⟩
end
theorem putA_lenT {α : Type} {c : α → Int} {x : α} : ∀ (l : List α), (putA c x l true).length ≤ l.length
  | [] => by simp [putA]
  | y :: r => by
    have h1 := putA_lenT (c := c) (x := x) r
    simp only [putA, Bool.not_true, Bool.false_and, Bool.true_or, List.length_append, List.length_cons, Bool.false_eq_true, if_false, List.length_nil]
    split <;> simp <;> omega
theorem putA_len {α : Type} {c : α → Int} {x : α} : ∀ (l : List α) (done : Bool), (putA c x l done).length ≤ l.length + 1
  | l, true => by have := putA_lenT (c := c) (x := x) l; omega
  | [], false => by simp [putA]
  | y :: r, false => by
    by_cases h0 : 0 ≤ c y
    · have h1 := putA_lenT (c := c) (x := x) r
      have hd : decide (0 ≤ c y) = true := decide_eq_true h0
      simp only [putA, hd, Bool.and_true, Bool.or_true, Bool.not_false, if_true, List.length_append, List.length_cons, List.length_nil]
      split <;> simp <;> omega
    · have h1 := putA_len (c := c) (x := x) r false
      have hd : decide (0 ≤ c y) = false := decide_eq_false h0
      simp only [putA, hd, Bool.and_false, Bool.or_false, Bool.false_eq_true, if_false, List.length_append, List.length_cons, List.length_nil]
      split <;> simp <;> omega
/-- how far the fields with one put have come: what is to come, where it lies -/
def WithI (SS : Nat → Prop) (R rest : List (Int × V)) (w W1 wr : World) (g7 : Nat) (r : List UInt8) (q : Option Addr) (d : Nat) (xs : List (Int × (V × A3))) : Prop :=
  xs.map fE ++ rest = R ∧ (∀ p ∈ xs, i64 p.1 ∧ Rep SS w p.2.1 p.2.2) ∧ OwnS 90 8 fC W1.heap.size wr (.slice q xs.length d) xs ∧ CellsAt wr g7 47 #[.int .i64 3, .int .u64 0, .string ⟨#[]⟩, .slice q xs.length d, .string (strB r), .slice none 0 0, .slice none 0 0] ∧ Grew [g7] W1 wr
section
variable {SS : Nat → Prop} {R rest : List (Int × V)} {w W1 w6 w7 : World} {g7 : Nat} {r : List UInt8} {q : Option Addr} {d : Nat} {xs : List (Int × (V × A3))}
theorem WithI.stays (h : WithI SS R rest w W1 w6 g7 r q d xs) (hb : Below w6.heap.size w6 w7) : WithI SS R rest w W1 w7 g7 r q d xs :=
  ⟨h.1, h.2.1, h.2.2.1.stays hb, h.2.2.2.1.stays hb, h.2.2.2.2.add hb⟩
theorem WithI.len (h : WithI SS R rest w W1 w6 g7 r q d xs) : xs.length ≤ R.length := by rw [← h.1]; simp
theorem WithI.push {y : Int × V} (h : WithI SS R (y :: rest) w W1 w6 g7 r q d xs) (y' : Int × (V × A3)) (hy : fE y' = y) (hy2 : i64 y'.1 ∧ Rep SS w y'.2.1 y'.2.2) (hgB : g7 < W1.heap.size) {v7 : Value}
    (o7 : OwnS 90 8 fC W1.heap.size w7 v7 (xs ++ [y'])) (g : w6.grownBy w7 (Value.slice q xs.length d).ownBlock) :
    ∃ q7 d7, v7 = .slice q7 (xs.length + 1) d7 ∧ CellsAt w7 g7 47 #[.int .i64 3, .int .u64 0, .string ⟨#[]⟩, .slice q xs.length d, .string (strB r), .slice none 0 0, .slice none 0 0] ∧ Hid (WithI SS R rest w W1 (w7.setCell ⟨g7, 3, none⟩ (.slice q7 (xs.length + 1) d7)) g7 r q7 d7 (xs ++ [y'])) := by
  obtain ⟨h1, h2, h3, h4, h5⟩ := h
  obtain ⟨q7, d7, hv, -, -⟩ := o7.row.shape fC_len
  rw [List.length_append, List.length_singleton] at hv
  subst hv
  have hc7 := h4.grown g (fun e => by have := (h3.lt _ e).1; omega)
  have hG7 : Grew [g7] W1 w7 := h5.grown g (fun i hi => .inr (h3.lt i hi).1)
  refine ⟨q7, d7, rfl, hc7, ?_, ?_, ?_, ?_, ?_⟩
  · rw [List.map_append, List.append_assoc, ← h1, ← hy]; rfl
  · intro p hp
    rcases List.mem_append.1 hp with hp | hp
    · exact h2 p hp
    · obtain rfl : p = y' := by simpa using hp
      exact hy2
  · rw [List.length_append, List.length_singleton]
    have hgs := ((Grew.refl [g7] w7).setCell (p := ⟨g7, 3, none⟩) (.inl (by simp)) (.slice q7 (xs.length + 1) d7)).toGrown (g := g7) (fun i hi => .inl (by simpa using hi))
    have o8 : OwnS 90 8 fC W1.heap.size (w7.setCell ⟨g7, 3, none⟩ (.slice q7 (xs.length + 1) d7)) (.slice q7 (xs.length + 1) d7) (xs ++ [y']) := own_grown o7 hgs (fun k hk e => by cases e; have := (o7.lt _ hk).1; omega)
    exact o8
  · rw [List.length_append, List.length_singleton]
    exact hc7.set 3 _
  · exact hG7.setCell (.inl (by simp)) _
theorem Rep.newMsg {w' : World} (hrow : RowS fC w' (.slice q xs.length d) xs) (hown : ∀ k, (Value.slice q xs.length d).ownBlock = some k → SS k) (hxs : ∀ p ∈ xs, i64 p.1 ∧ Rep SS w' p.2.1 p.2.2) : Rep SS w' (.mk 3 0 [] (xs.map fE) r [] []) ⟨q, d, none, 0, none, 0⟩ :=
  .mk _ _ xs [] [] ⟨by simp [V.k], by simp [V.k]⟩ (by simp [V.n]) rfl rfl rfl (fun p hp => (hxs p hp).1) (by simpa [slF, V.fs] using hrow) (RowS.nil _) (RowS.nil _) (fun _ k hk => hown k (by simpa [slF, V.fs] using hk)) Lies.nil Lies.nil (fun p hp => (hxs p hp).2) (fun _ h => by cases h) (fun _ h => by cases h) (fun _ h => by cases h)
end
section
variable {k : Int} {n : Nat} {t r : List UInt8} {fs : List (Int × V)} {ls : List V} {ps : List (V × V)} {fa la pa : Option Addr} {fc lc pc : Nat} {S : Nat → Prop} {w : World}
variable {k2 : Int} {n2 : Nat} {t2 r2 : List UInt8} {fs2 : List (Int × V)} {ls2 : List V} {ps2 : List (V × V)} {fa2 la2 pa2 : Option Addr} {fc2 lc2 pc2 : Nat} {S2 : Nat → Prop}
/-- what answers a value whose rows lie in blocks of SS -/
def ValS (SS : Nat → Prop) (v : V) (w : World) (e : Ending) (w' : World) : Prop := ∃ a : A3, e = .returned (vG (v, a)) ∧ Rep SS w' v a ∧ Below w.heap.size w w'
theorem ValS.any {SS : Nat → Prop} {v : V} {w w' : World} {e : Ending} (h : ValS SS v w e w') : ValP v w e w' := by
  obtain ⟨a, h1, h2, h3⟩ := h
  exact ⟨a, h1, h2.any, h3⟩
end
end Go.Proofs.YtcjflglpkpkflaaGreatDoor
