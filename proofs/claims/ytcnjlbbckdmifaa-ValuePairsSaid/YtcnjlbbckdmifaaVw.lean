/- The reference's Get, With. -/
import Derived.Test.YtcnjlbbckdmifaaVp
import Derived.Deep.CutRange
namespace Go.Proofs.Ytcnjlbbckdmifaa
open Go Go.RowKit
set_option linter.unusedVariables false
section
variable {k : Int} {n : Nat} {t r : List UInt8} {fs : List (Int × V)} {ls : List V} {ps : List (V × V)} {fa la pa : Option Addr} {fc lc pc : Nat} {S : Nat → Prop} {w : World}
set_option maxRecDepth 100000 in
set_option maxHeartbeats 4000000 in
theorem rget_any (key : Int) (hr : Rep S w (.mk k n t fs r ls ps) ⟨fa, fc, la, lc, pa, pc⟩) (hlen : fs.length ≤ 1000000) :
    Calls Try.prog 28 #[.agg #[.int .i64 k, .int .u64 (n : Int), .string (strB t), .slice fa fs.length fc, .string (strB r), .slice la ls.length lc, .slice pa ps.length pc], .int .i64 key] w (ValP (getV (.mk k n t fs r ls ps) key) w) := by
  obtain ⟨W0, hW0⟩ : ∃ W0, W0 = (w.alloc (.cells #[.int .i64 k, .int .u64 (n : Int), .string (strB t), .slice fa fs.length fc, .string (strB r), .slice la ls.length lc, .slice pa ps.length pc] 34)).alloc (.cells #[.int .i64 0, .int .u64 0, .string ⟨#[]⟩, .slice none 0 0, .string ⟨#[]⟩, .slice none 0 0, .slice none 0 0] 34) := ⟨_, rfl⟩
  obtain ⟨g, hg⟩ : ∃ g, g = w.heap.size := ⟨_, rfl⟩
  have hBA : Below w.heap.size w W0 := by rw [hW0]; exact ((Below.refl _ _).alloc (Nat.le_refl _) _).alloc (by simp) _
  have hcx : CellsAt W0 g 34 #[.int .i64 k, .int .u64 (n : Int), .string (strB t), .slice fa fs.length fc, .string (strB r), .slice la ls.length lc, .slice pa ps.length pc] := by rw [hW0, hg]; exact (CellsAt.new w _ _).stays ((Below.refl _ _).alloc (Nat.le_refl _) _)
  have hcy : CellsAt W0 (g + 1) 34 #[.int .i64 0, .int .u64 0, .string ⟨#[]⟩, .slice none 0 0, .string ⟨#[]⟩, .slice none 0 0, .slice none 0 0] := by
    have := CellsAt.new (w.alloc (.cells #[.int .i64 k, .int .u64 (n : Int), .string (strB t), .slice fa fs.length fc, .string (strB r), .slice la ls.length lc, .slice pa ps.length pc] 34)) #[.int .i64 0, .int .u64 0, .string ⟨#[]⟩, .slice none 0 0, .string ⟨#[]⟩, .slice none 0 0, .slice none 0 0] 34
    rw [show (w.alloc (.cells #[.int .i64 k, .int .u64 (n : Int), .string (strB t), .slice fa fs.length fc, .string (strB r), .slice la ls.length lc, .slice pa ps.length pc] 34)).heap.size = w.heap.size + 1 by simp] at this
    rw [hW0, hg]; exact this
  have HX : Hid (∀ W, Below W0.heap.size W0 W → CellsAt W g 34 #[.int .i64 k, .int .u64 (n : Int), .string (strB t), .slice fa fs.length fc, .string (strB r), .slice la ls.length lc, .slice pa ps.length pc] ∧ CellsAt W (g + 1) 34 #[.int .i64 0, .int .u64 0, .string ⟨#[]⟩, .slice none 0 0, .string ⟨#[]⟩, .slice none 0 0, .slice none 0 0] ∧ Below w.heap.size w W) := fun W hb =>
    ⟨hcx.stays hb, hcy.stays hb, hBA.trans (hb.mono hBA.size)⟩
  have HR0 := Lib.hid hr
  have HW := Lib.hid hW0
  have HG := Lib.hid hg
  obtain ⟨R, hR⟩ : ∃ R, R = getV (.mk k n t fs r ls ps) key := ⟨_, rfl⟩
  rw [← hR]
  have hR' : (if k = 3 then findA (fieldC key) Prod.snd V.none (fs.drop 0) else V.none) = R := by rw [hR]; rfl
  have HR := Lib.hid hR'
  have x3 := hcx.cell 3 (v := .slice fa fs.length fc) rfl
  clear hr hW0 hg hBA hcx hcy hR hR'
  go_enter Try.func28, Try.ntmps28
  go_wp2_with fail
  have hW0 := HW.out
  have hg := HG.out
  rw [← hW0, ← hg]
  clear hW0 hg HW
  go_loopw [10] (fun i wr => ∃ m : Nat, m ≤ fs.length ∧ i = .int .i64 m ∧ Hid ((if k = 3 then findA (fieldC key) Prod.snd V.none (fs.drop m) else V.none) = R) ∧ Below W0.heap.size W0 wr) (fun i _ => fs.length - (intOf i).toNat)
  case atStart => exact ⟨0, Nat.zero_le _, rfl, HR, Below.refl _ _⟩
  case round =>
    clear x3 HR
    obtain ⟨m, hm, rfl, HI, hbe⟩ := hrel
    obtain ⟨hcx, hcy, hbw⟩ := HX.out wr hbe
    by_cases h1 : m < fs.length
    · obtain ⟨⟨num, ⟨k', n', t', fs', r', ls', ps'⟩⟩, hq⟩ : ∃ p, fs[m]? = some p := ⟨_, List.getElem?_eq_getElem h1⟩
      obtain ⟨b, o, fa', la', pa', fc', lc', pc', rfl, hnum, hrx, c0, c1, c2, c3, c4, c5, c6, c7⟩ := HR0.out.fieldAt hq
      have hlb : b < w.heap.size := World.block_lt_of_cell? w _ c0
      replace c0 := later1 c0 hlb hbw
      replace c1 := later1 c1 hlb hbw
      replace c2 := later1 c2 hlb hbw
      replace c3 := later1 c3 hlb hbw
      replace c4 := later1 c4 hlb hbw
      replace c5 := later1 c5 hlb hbw
      replace c6 := later1 c6 hlb hbw
      replace c7 := later1 c7 hlb hbw
      have hI := HI.out
      rw [drop_fields hq] at hI
      have hI2 : (if k = 3 then (if fieldC key (num, .mk k' n' t' fs' r' ls' ps') = 0 then (.mk k' n' t' fs' r' ls' ps') else findA (fieldC key) Prod.snd V.none (fs.drop (m + 1))) else V.none) = R := hI
      have HI2 := Lib.hid hI2
      have HRX := Lib.hid hrx
      have HBW := Lib.hid hbw
      have HBE := Lib.hid hbe
      obtain ⟨W1, hW1⟩ : ∃ W1, W1 = wr.alloc (.cells #[.int .i64 num, .int .i64 k', .int .u64 (n' : Int), .string (strB t'), .slice fa' fs'.length fc', .string (strB r'), .slice la' ls'.length lc', .slice pa' ps'.length pc'] 85) := ⟨_, rfl⟩
      obtain ⟨h, hh⟩ : ∃ h, h = wr.heap.size := ⟨_, rfl⟩
      have hbA : Below wr.heap.size wr W1 := by rw [hW1]; exact (Below.refl _ _).alloc (Nat.le_refl _) _
      have hcv : CellsAt W1 h 85 #[.int .i64 num, .int .i64 k', .int .u64 (n' : Int), .string (strB t'), .slice fa' fs'.length fc', .string (strB r'), .slice la' ls'.length lc', .slice pa' ps'.length pc'] := by rw [hW1, hh]; exact CellsAt.new wr _ _
      have HBE1 : Hid (Below W0.heap.size W0 W1) := hbe.trans (hbA.mono hbe.size)
      have HW1 := Lib.hid hW1
      have HH := Lib.hid hh
      clear hI hI2 HI hrx hq hbw hbe hcx hcy hbA hW1 hh
      go_upto_region 4 with fail
      have hW1 := HW1.out
      have hh := HH.out
      rw [← hW1, ← hh]
      clear hW1 hh HW1 HH c0 c1 c2 c3 c4 c5 c6 c7
      obtain ⟨hcx, hcy, hbw⟩ := HX.out W1 HBE1.out
      have x0 := hcx.cell 0 (v := .int .i64 k) rfl
      have y0 := hcv.cell 0 (v := .int .i64 num) rfl
      have y1 := hcv.cell 1 (v := .int .i64 k') rfl
      have y2 := hcv.cell 2 (v := .int .u64 (n' : Int)) rfl
      have y3 := hcv.cell 3 (v := .string (strB t')) rfl
      have y4 := hcv.cell 4 (v := .slice fa' fs'.length fc') rfl
      have y5 := hcv.cell 5 (v := .string (strB r')) rfl
      have y6 := hcv.cell 6 (v := .slice la' ls'.length lc') rfl
      have y7 := hcv.cell 7 (v := .slice pa' ps'.length pc') rfl
      have z0 := hcy.cell 0 (v := .int .i64 0) rfl
      have z1 := hcy.cell 1 (v := .int .u64 0) rfl
      have z2 := hcy.cell 2 (v := .string ⟨#[]⟩) rfl
      have z3 := hcy.cell 3 (v := .slice none 0 0) rfl
      have z4 := hcy.cell 4 (v := .string ⟨#[]⟩) rfl
      have z5 := hcy.cell 5 (v := .slice none 0 0) rfl
      have z6 := hcy.cell 6 (v := .slice none 0 0) rfl
      have f0 := hcy.free 0
      have f1 := hcy.free 1
      have f2 := hcy.free 2
      have f3 := hcy.free 3
      have f4 := hcy.free 4
      have f5 := hcy.free 5
      have f6 := hcy.free 6
      have hly := hcy.lt
      have hgl := hcx.lt
      have HBW1 := Lib.hid hbw
      clear hcx hcy hcv hbw
      by_cases hk : k = 3
      · subst hk
        by_cases hn : num = key
        · subst hn
          have HZ : Hid (R = .mk k' n' t' fs' r' ls' ps') := by
            have h9 := HI2.out
            rw [if_pos rfl, if_pos (by unfold fieldC; exact sgnI_zero.2 rfl)] at h9
            exact h9.symm
          have HL := HBW1
          clear HI2
          go_wp2_with fail
          refine bodyPost_ret (v := .agg #[.int .i64 k', .int .u64 (n' : Int), .string (strB t'), .slice fa' fs'.length fc', .string (strB r'), .slice la' ls'.length lc', .slice pa' ps'.length pc']) (by simp [results, Try.results28, go_sem, z0, z1, z2, z3, z4, z5, z6]) rfl ?_
          rw [HZ.out]
          have hgw := HG.out
          have hb7 := below_set7 HL.out (show w.heap.size ≤ g + 1 by omega) (.int .i64 k') (.int .u64 (n' : Int)) (.string (strB t')) (.slice fa' fs'.length fc') (.string (strB r')) (.slice la' ls'.length lc') (.slice pa' ps'.length pc')
          exact ⟨⟨fa', fc', la', lc', pa', pc'⟩, rfl, (HRX.out.stays hb7).any, hb7⟩
        · have hn' : (num == key) = false := by simpa using hn
          have HN : Hid ((if (3 : Int) = 3 then findA (fieldC key) Prod.snd V.none (fs.drop (m + 1)) else V.none) = R) := by
            have h9 := HI2.out
            rw [if_pos rfl, if_neg (by unfold fieldC; intro h; exact hn (sgnI_zero.1 h))] at h9
            rw [if_pos rfl]
            exact h9
          have HL := HBE1
          clear HI2
          go_wp2_with fail
          go_roundw
          case rel => exact ⟨m + 1, h1, by go_num, HN, HL.out⟩
          case measure => simp only [intOf]; omega
      · have hk' : (k == 3) = false := by simpa using hk
        have HN : Hid ((if k = 3 then findA (fieldC key) Prod.snd V.none (fs.drop (m + 1)) else V.none) = R) := by
          have h9 := HI2.out
          rw [if_neg hk] at h9
          rw [if_neg hk]
          exact h9
        have HL := HBE1
        clear HI2 hk
        go_wp2_with fail
        go_roundw
        case rel => exact ⟨m + 1, h1, by go_num, HN, HL.out⟩
        case measure => simp only [intOf]; omega
    · have HZ : Hid (R = V.none) := by
        have h9 := HI.out
        rw [List.drop_of_length_le (by omega)] at h9
        rw [← h9]
        split <;> rfl
      have z0 := hcy.cell 0 (v := .int .i64 0) rfl
      have z1 := hcy.cell 1 (v := .int .u64 0) rfl
      have z2 := hcy.cell 2 (v := .string ⟨#[]⟩) rfl
      have z3 := hcy.cell 3 (v := .slice none 0 0) rfl
      have z4 := hcy.cell 4 (v := .string ⟨#[]⟩) rfl
      have z5 := hcy.cell 5 (v := .slice none 0 0) rfl
      have z6 := hcy.cell 6 (v := .slice none 0 0) rfl
      have f0 := hcy.free 0
      have f1 := hcy.free 1
      have f2 := hcy.free 2
      have f3 := hcy.free 3
      have f4 := hcy.free 4
      have f5 := hcy.free 5
      have f6 := hcy.free 6
      have hly := hcy.lt
      have hgl := hcx.lt
      have HBW := Lib.hid hbw
      clear HI hbw hbe hcx hcy
      go_wp2_with fail
      refine bodyPost_ret (v := .agg #[.int .i64 0, .int .u64 0, .string ⟨#[]⟩, .slice none 0 0, .string ⟨#[]⟩, .slice none 0 0, .slice none 0 0]) (by simp [results, Try.results28, go_sem, z0, z1, z2, z3, z4, z5, z6]) rfl ?_
      rw [HZ.out]
      have hgw := HG.out
      exact ⟨A3.nil, rfl, rep_none, below_set7 HBW.out (by omega) _ _ _ _ _ _ _⟩
end
theorem putA_lenT {α : Type} {c : α → Int} {x : α} : ∀ (l : List α), (putA c x l true).length ≤ l.length
  | [] => by simp [putA]
  | y :: r => by
    have h1 := putA_lenT (c := c) (x := x) r
    simp only [putA, Bool.not_true, Bool.false_and, Bool.true_or, List.length_append, List.length_cons, Bool.false_eq_true, if_false, List.length_nil]
    split <;> simp <;> omega
theorem putA_len {α : Type} {c : α → Int} {x : α} : ∀ (l : List α) (done : Bool), (putA c x l done).length ≤ l.length + 1
  | l, true => by have := putA_lenT (c := c) (x := x) l; omega
  | [], false => by simp [putA]
  | y :: r, false => by
    by_cases h0 : 0 ≤ c y
    · have h1 := putA_lenT (c := c) (x := x) r
      have hd : decide (0 ≤ c y) = true := decide_eq_true h0
      simp only [putA, hd, Bool.and_true, Bool.or_true, Bool.not_false, if_true, List.length_append, List.length_cons, List.length_nil]
      split <;> simp <;> omega
    · have h1 := putA_len (c := c) (x := x) r false
      have hd : decide (0 ≤ c y) = false := decide_eq_false h0
      simp only [putA, hd, Bool.and_false, Bool.or_false, Bool.false_eq_true, if_false, List.length_append, List.length_cons, List.length_nil]
      split <;> simp <;> omega
/-- how far the fields with one put have come: what is to come, where it lies -/
def WithI (SS : Nat → Prop) (R rest : List (Int × V)) (w W1 wr : World) (g7 : Nat) (r : List UInt8) (q : Option Addr) (d : Nat) (xs : List (Int × (V × A3))) : Prop :=
  xs.map fE ++ rest = R ∧ (∀ p ∈ xs, i64 p.1 ∧ Rep SS w p.2.1 p.2.2) ∧ OwnS 85 8 fC W1.heap.size wr (.slice q xs.length d) xs ∧ CellsAt wr g7 34 #[.int .i64 3, .int .u64 0, .string ⟨#[]⟩, .slice q xs.length d, .string (strB r), .slice none 0 0, .slice none 0 0] ∧ Grew [g7] W1 wr
section
variable {SS : Nat → Prop} {R rest : List (Int × V)} {w W1 w6 w7 : World} {g7 : Nat} {r : List UInt8} {q : Option Addr} {d : Nat} {xs : List (Int × (V × A3))}
theorem WithI.stays (h : WithI SS R rest w W1 w6 g7 r q d xs) (hb : Below w6.heap.size w6 w7) : WithI SS R rest w W1 w7 g7 r q d xs :=
  ⟨h.1, h.2.1, h.2.2.1.stays hb, h.2.2.2.1.stays hb, h.2.2.2.2.add hb⟩
theorem WithI.len (h : WithI SS R rest w W1 w6 g7 r q d xs) : xs.length ≤ R.length := by rw [← h.1]; simp
theorem WithI.push {y : Int × V} (h : WithI SS R (y :: rest) w W1 w6 g7 r q d xs) (y' : Int × (V × A3)) (hy : fE y' = y) (hy2 : i64 y'.1 ∧ Rep SS w y'.2.1 y'.2.2) (hgB : g7 < W1.heap.size) {v7 : Value}
    (o7 : OwnS 85 8 fC W1.heap.size w7 v7 (xs ++ [y'])) (g : w6.grownBy w7 (Value.slice q xs.length d).ownBlock) :
    ∃ q7 d7, v7 = .slice q7 (xs.length + 1) d7 ∧ CellsAt w7 g7 34 #[.int .i64 3, .int .u64 0, .string ⟨#[]⟩, .slice q xs.length d, .string (strB r), .slice none 0 0, .slice none 0 0] ∧ Hid (WithI SS R rest w W1 (w7.setCell ⟨g7, 3, none⟩ (.slice q7 (xs.length + 1) d7)) g7 r q7 d7 (xs ++ [y'])) := by
  obtain ⟨h1, h2, h3, h4, h5⟩ := h
  obtain ⟨q7, d7, hv, -, -⟩ := o7.row.shape fC_len
  rw [List.length_append, List.length_singleton] at hv
  subst hv
  have hc7 := h4.grown g (fun e => by have := (h3.lt _ e).1; omega)
  have hG7 : Grew [g7] W1 w7 := h5.grown g (fun i hi => .inr (h3.lt i hi).1)
  refine ⟨q7, d7, rfl, hc7, ?_, ?_, ?_, ?_, ?_⟩
  · rw [List.map_append, List.append_assoc, ← h1, ← hy]; rfl
  · intro p hp
    rcases List.mem_append.1 hp with hp | hp
    · exact h2 p hp
    · obtain rfl : p = y' := by simpa using hp
      exact hy2
  · rw [List.length_append, List.length_singleton]
    have hgs := ((Grew.refl [g7] w7).setCell (p := ⟨g7, 3, none⟩) (.inl (by simp)) (.slice q7 (xs.length + 1) d7)).toGrown (g := g7) (fun i hi => .inl (by simpa using hi))
    have o8 : OwnS 85 8 fC W1.heap.size (w7.setCell ⟨g7, 3, none⟩ (.slice q7 (xs.length + 1) d7)) (.slice q7 (xs.length + 1) d7) (xs ++ [y']) := own_grown o7 hgs (fun k hk e => by cases e; have := (o7.lt _ hk).1; omega)
    exact o8
  · rw [List.length_append, List.length_singleton]
    exact hc7.set 3 _
  · exact hG7.setCell (.inl (by simp)) _
theorem Rep.newMsg {w' : World} (hrow : RowS fC w' (.slice q xs.length d) xs) (hown : ∀ k, (Value.slice q xs.length d).ownBlock = some k → SS k) (hxs : ∀ p ∈ xs, i64 p.1 ∧ Rep SS w' p.2.1 p.2.2) : Rep SS w' (.mk 3 0 [] (xs.map fE) r [] []) ⟨q, d, none, 0, none, 0⟩ :=
  .mk _ _ xs [] [] ⟨by simp [V.k], by simp [V.k]⟩ (by simp [V.n]) rfl rfl rfl (fun p hp => (hxs p hp).1) (by simpa [slF, V.fs] using hrow) (RowS.nil _) (RowS.nil _) (fun _ k hk => hown k (by simpa [slF, V.fs] using hk)) Lies.nil Lies.nil (fun p hp => (hxs p hp).2) (fun _ h => by cases h) (fun _ h => by cases h) (fun _ h => by cases h)
end
section
variable {k : Int} {n : Nat} {t r : List UInt8} {fs : List (Int × V)} {ls : List V} {ps : List (V × V)} {fa la pa : Option Addr} {fc lc pc : Nat} {S : Nat → Prop} {w : World}
variable {k2 : Int} {n2 : Nat} {t2 r2 : List UInt8} {fs2 : List (Int × V)} {ls2 : List V} {ps2 : List (V × V)} {fa2 la2 pa2 : Option Addr} {fc2 lc2 pc2 : Nat} {S2 : Nat → Prop}
/-- what answers a value whose rows lie in blocks of SS -/
def ValS (SS : Nat → Prop) (v : V) (w : World) (e : Ending) (w' : World) : Prop := ∃ a : A3, e = .returned (vG (v, a)) ∧ Rep SS w' v a ∧ Below w.heap.size w w'
theorem ValS.any {SS : Nat → Prop} {v : V} {w w' : World} {e : Ending} (h : ValS SS v w e w') : ValP v w e w' := by
  obtain ⟨a, h1, h2, h3⟩ := h
  exact ⟨a, h1, h2.any, h3⟩
set_option maxRecDepth 100000 in
set_option maxHeartbeats 8000000 in
theorem rwith_S (key : Int) (hr : Rep S w (.mk k n t fs r ls ps) ⟨fa, fc, la, lc, pa, pc⟩) (hx : Rep S2 w (.mk k2 n2 t2 fs2 r2 ls2 ps2) ⟨fa2, fc2, la2, lc2, pa2, pc2⟩) (hlen : fs.length ≤ 1000000) (hk64 : -9223372036854775808 ≤ key ∧ key ≤ 9223372036854775807) :
    Calls Try.prog 26 #[.agg #[.int .i64 k, .int .u64 (n : Int), .string (strB t), .slice fa fs.length fc, .string (strB r), .slice la ls.length lc, .slice pa ps.length pc], .int .i64 key, .agg #[.int .i64 k2, .int .u64 (n2 : Int), .string (strB t2), .slice fa2 fs2.length fc2, .string (strB r2), .slice la2 ls2.length lc2, .slice pa2 ps2.length pc2]] w (ValS (fun k => S k ∨ S2 k ∨ w.heap.size ≤ k) (withV (.mk k n t fs r ls ps) key (.mk k2 n2 t2 fs2 r2 ls2 ps2)) w) := by
  obtain ⟨SS, hSS⟩ : ∃ SS, SS = (fun k => S k ∨ S2 k ∨ w.heap.size ≤ k) := ⟨_, rfl⟩
  rw [← hSS]
  have HSS := Lib.hid hSS
  clear hSS
  obtain ⟨W0, hW0⟩ : ∃ W0, W0 = ((w.alloc (.cells #[.int .i64 k, .int .u64 (n : Int), .string (strB t), .slice fa fs.length fc, .string (strB r), .slice la ls.length lc, .slice pa ps.length pc] 34)).alloc (.cells #[.int .i64 k2, .int .u64 (n2 : Int), .string (strB t2), .slice fa2 fs2.length fc2, .string (strB r2), .slice la2 ls2.length lc2, .slice pa2 ps2.length pc2] 34)).alloc (.cells #[.int .i64 0, .int .u64 0, .string ⟨#[]⟩, .slice none 0 0, .string ⟨#[]⟩, .slice none 0 0, .slice none 0 0] 34) := ⟨_, rfl⟩
  obtain ⟨g, hg⟩ : ∃ g, g = w.heap.size := ⟨_, rfl⟩
  have hsz : W0.heap.size = g + 1 + 1 + 1 := by rw [hW0, hg]; simp
  have hBA : Below w.heap.size w W0 := by rw [hW0]; exact (((Below.refl _ _).alloc (Nat.le_refl _) _).alloc (by simp) _).alloc (by simp; omega) _
  have hcx : CellsAt W0 g 34 #[.int .i64 k, .int .u64 (n : Int), .string (strB t), .slice fa fs.length fc, .string (strB r), .slice la ls.length lc, .slice pa ps.length pc] := by rw [hW0, hg]; exact (CellsAt.new w _ _).stays (((Below.refl _ _).alloc (Nat.le_refl _) _).alloc (by simp) _)
  have hcy : CellsAt W0 (g + 1) 34 #[.int .i64 k2, .int .u64 (n2 : Int), .string (strB t2), .slice fa2 fs2.length fc2, .string (strB r2), .slice la2 ls2.length lc2, .slice pa2 ps2.length pc2] := by
    have := (CellsAt.new (w.alloc (.cells #[.int .i64 k, .int .u64 (n : Int), .string (strB t), .slice fa fs.length fc, .string (strB r), .slice la ls.length lc, .slice pa ps.length pc] 34)) #[.int .i64 k2, .int .u64 (n2 : Int), .string (strB t2), .slice fa2 fs2.length fc2, .string (strB r2), .slice la2 ls2.length lc2, .slice pa2 ps2.length pc2] 34).stays ((Below.refl _ _).alloc (Nat.le_refl _) (.cells #[.int .i64 0, .int .u64 0, .string ⟨#[]⟩, .slice none 0 0, .string ⟨#[]⟩, .slice none 0 0, .slice none 0 0] 34))
    rw [show (w.alloc (.cells #[.int .i64 k, .int .u64 (n : Int), .string (strB t), .slice fa fs.length fc, .string (strB r), .slice la ls.length lc, .slice pa ps.length pc] 34)).heap.size = w.heap.size + 1 by simp] at this
    rw [hW0, hg]; exact this
  have hcz : CellsAt W0 (g + 1 + 1) 34 #[.int .i64 0, .int .u64 0, .string ⟨#[]⟩, .slice none 0 0, .string ⟨#[]⟩, .slice none 0 0, .slice none 0 0] := by
    have := CellsAt.new ((w.alloc (.cells #[.int .i64 k, .int .u64 (n : Int), .string (strB t), .slice fa fs.length fc, .string (strB r), .slice la ls.length lc, .slice pa ps.length pc] 34)).alloc (.cells #[.int .i64 k2, .int .u64 (n2 : Int), .string (strB t2), .slice fa2 fs2.length fc2, .string (strB r2), .slice la2 ls2.length lc2, .slice pa2 ps2.length pc2] 34)) #[.int .i64 0, .int .u64 0, .string ⟨#[]⟩, .slice none 0 0, .string ⟨#[]⟩, .slice none 0 0, .slice none 0 0] 34
    rw [show ((w.alloc (.cells #[.int .i64 k, .int .u64 (n : Int), .string (strB t), .slice fa fs.length fc, .string (strB r), .slice la ls.length lc, .slice pa ps.length pc] 34)).alloc (.cells #[.int .i64 k2, .int .u64 (n2 : Int), .string (strB t2), .slice fa2 fs2.length fc2, .string (strB r2), .slice la2 ls2.length lc2, .slice pa2 ps2.length pc2] 34)).heap.size = w.heap.size + 1 + 1 by simp] at this
    rw [hW0, hg]; exact this
  by_cases hv : k = 3 ∧ 1 ≤ key ∧ key ≤ 536870911
  · obtain ⟨rfl, hk1, hk2⟩ := hv
    obtain ⟨R, hR⟩ : ∃ R, R = putA (fieldC key) (key, .mk k2 n2 t2 fs2 r2 ls2 ps2) fs (k2 == 0) := ⟨_, rfl⟩
    have HG : Hid (withV (.mk 3 n t fs r ls ps) key (.mk k2 n2 t2 fs2 r2 ls2 ps2) = .mk 3 0 [] R r [] []) := by
      show (if (3 : Int) ≠ 3 ∨ key < 1 ∨ 536870911 < key then _ else _) = _
      rw [if_neg (by omega), hR]
      rfl
    have hRl : R.length ≤ 1000001 := by rw [hR]; have := putA_len (c := fieldC key) (x := (key, .mk k2 n2 t2 fs2 r2 ls2 ps2)) fs (k2 == 0); omega
    have HRL := Lib.hid hRl
    obtain ⟨W1, hW1⟩ : ∃ W1, W1 = W0.alloc (.cells #[.int .i64 3, .int .u64 0, .string ⟨#[]⟩, .slice none 0 0, .string (strB r), .slice none 0 0, .slice none 0 0] 34) := ⟨_, rfl⟩
    have hbA : Below W0.heap.size W0 W1 := by rw [hW1]; exact (Below.refl _ _).alloc (Nat.le_refl _) _
    have hco : CellsAt W1 (g + 1 + 1 + 1) 34 #[.int .i64 3, .int .u64 0, .string ⟨#[]⟩, .slice none 0 0, .string (strB r), .slice none 0 0, .slice none 0 0] := by rw [hW1, ← hsz]; exact CellsAt.new W0 _ _
    have hsz1 : W1.heap.size = g + 1 + 1 + 1 + 1 := by rw [hW1]; simp [hsz]
    have hBA1 : Below w.heap.size w W1 := hBA.trans (hbA.mono hBA.size)
    have hcx1 := hcx.stays hbA
    have hcy1 := hcy.stays hbA
    have hcz1 := hcz.stays hbA
    have HX : Hid (∀ W, Grew [g + 1 + 1 + 1] W1 W → CellsAt W g 34 #[.int .i64 3, .int .u64 (n : Int), .string (strB t), .slice fa fs.length fc, .string (strB r), .slice la ls.length lc, .slice pa ps.length pc] ∧ CellsAt W (g + 1) 34 #[.int .i64 k2, .int .u64 (n2 : Int), .string (strB t2), .slice fa2 fs2.length fc2, .string (strB r2), .slice la2 ls2.length lc2, .slice pa2 ps2.length pc2] ∧ CellsAt W (g + 1 + 1) 34 #[.int .i64 0, .int .u64 0, .string ⟨#[]⟩, .slice none 0 0, .string ⟨#[]⟩, .slice none 0 0, .slice none 0 0] ∧ Below w.heap.size w W) := fun W hG =>
      ⟨hcx1.grew hG (by simp only [List.mem_singleton]; omega), hcy1.grew hG (by simp only [List.mem_singleton]; omega), hcz1.grew hG (by simp only [List.mem_singleton]; omega), hG.below hBA1 (fun i hi => by simp at hi; omega) hBA1.size⟩
    have HI0 : Hid (WithI SS R (putA (fieldC key) (key, .mk k2 n2 t2 fs2 r2 ls2 ps2) (fs.drop 0) (k2 == 0)) w W1 W1 (g + 1 + 1 + 1) r none 0 []) := ⟨by rw [hR]; rfl, (fun p hp => by cases hp), OwnS.nil _ _, hco, Grew.refl _ _⟩
    have HR0 := Lib.hid hr
    have HXR : Hid (i64 key ∧ Rep SS w (.mk k2 n2 t2 fs2 r2 ls2 ps2) ⟨fa2, fc2, la2, lc2, pa2, pc2⟩) := ⟨hk64, hx.mono (fun k hk => by rw [HSS.out]; exact .inr (.inl hk))⟩
    have HSZ := Lib.hid hsz1
    have HGG := Lib.hid hg
    have HW0 := Lib.hid hW0
    have HW1 := Lib.hid hW1
    have HS0 := Lib.hid hsz
    clear hr hx hW0 hW1 hg hBA hcx hcy hcz hbA hco hBA1 hcx1 hcy1 hcz1 hsz hsz1 hRl hR
    go_enter Try.func26, Try.ntmps26
    go_upto_region 4 with fail
    have hW0 := HW0.out
    have hW1 := HW1.out
    have hg := HGG.out
    have hs0 := HS0.out
    rw [hW0] at hs0
    rw [← hW0] at hs0 ⊢
    rw [← hW1]
    simp only [← hg]
    clear hW0 hW1 hg HW0 HW1 HS0 hs0
    obtain ⟨hcx, hcy, hcz, hbw⟩ := HX.out W1 (Grew.refl _ _)
    have y0 := hcy.cell 0 (v := .int .i64 k2) rfl
    have x3 := hcx.cell 3 (v := .slice fa fs.length fc) rfl
    clear hcx hcy hcz hbw
    go_wp2_with fail
    go_loopw [8, 32] (fun dv i wr => ∃ (m : Nat) (dn : Bool) (q : Option Addr) (d : Nat) (xs : List (Int × (V × A3))), m ≤ fs.length ∧ i = .int .i64 m ∧ dv = .bool dn ∧ Hid (WithI SS R (putA (fieldC key) (key, .mk k2 n2 t2 fs2 r2 ls2 ps2) (fs.drop m) dn) w W1 wr (g + 1 + 1 + 1) r q d xs)) (fun _ i _ => fs.length - (intOf i).toNat)
    case atStart => exact ⟨0, (k2 == 0), none, 0, [], Nat.zero_le _, rfl, rfl, HI0⟩
    case round =>
      clear y0 x3 HI0
      obtain ⟨m, dn, q, d, xs, hm, rfl, rfl, HI⟩ := hrel
      have hxl := HI.out.len
      have hrl := HRL.out
      have hG := HI.out.2.2.2.2
      obtain ⟨hcx, hcy, hcz, hbw⟩ := HX.out wr hG
      have hwsz := hG.size
      by_cases h1 : m < fs.length
      · obtain ⟨⟨num, ⟨k', n', t', fs', r', ls', ps'⟩⟩, hq⟩ : ∃ p, fs[m]? = some p := ⟨_, List.getElem?_eq_getElem h1⟩
        obtain ⟨b, o, fa', la', pa', fc', lc', pc', rfl, hnum, hrx, c0, c1, c2, c3, c4, c5, c6, c7⟩ := HR0.out.fieldAt hq
        have hlb : b < w.heap.size := World.block_lt_of_cell? w _ c0
        replace c0 := later1 c0 hlb hbw
        replace c1 := later1 c1 hlb hbw
        replace c2 := later1 c2 hlb hbw
        replace c3 := later1 c3 hlb hbw
        replace c4 := later1 c4 hlb hbw
        replace c5 := later1 c5 hlb hbw
        replace c6 := later1 c6 hlb hbw
        replace c7 := later1 c7 hlb hbw
        have HYR : Hid (i64 num ∧ Rep SS w (.mk k' n' t' fs' r' ls' ps') ⟨fa', fc', la', lc', pa', pc'⟩) := ⟨hnum, hrx.mono (fun k hk => by rw [HSS.out]; exact .inl hk)⟩
        obtain ⟨W2, hW2⟩ : ∃ W2, W2 = wr.alloc (.cells #[.int .i64 num, .int .i64 k', .int .u64 (n' : Int), .string (strB t'), .slice fa' fs'.length fc', .string (strB r'), .slice la' ls'.length lc', .slice pa' ps'.length pc'] 85) := ⟨_, rfl⟩
        obtain ⟨h, hh⟩ : ∃ h, h = wr.heap.size := ⟨_, rfl⟩
        have hbA : Below wr.heap.size wr W2 := by rw [hW2]; exact (Below.refl _ _).alloc (Nat.le_refl _) _
        have hcv : CellsAt W2 h 85 #[.int .i64 num, .int .i64 k', .int .u64 (n' : Int), .string (strB t'), .slice fa' fs'.length fc', .string (strB r'), .slice la' ls'.length lc', .slice pa' ps'.length pc'] := by rw [hW2, hh]; exact CellsAt.new wr _ _
        have hI := HI.out.stays hbA
        obtain ⟨T, hT⟩ : ∃ T, T = (!dn && decide (key ≤ num)) := ⟨_, rfl⟩
        have hstep : putA (fieldC key) (key, .mk k2 n2 t2 fs2 r2 ls2 ps2) (fs.drop m) dn = (if T = true then [(key, .mk k2 n2 t2 fs2 r2 ls2 ps2)] else []) ++ ((if num = key then [] else [(num, .mk k' n' t' fs' r' ls' ps')]) ++ putA (fieldC key) (key, .mk k2 n2 t2 fs2 r2 ls2 ps2) (fs.drop (m + 1)) (dn || decide (key ≤ num))) := by
          rw [drop_fields hq, putA]
          have e1 : decide (0 ≤ fieldC key (num, .mk k' n' t' fs' r' ls' ps')) = decide (key ≤ num) := by
            unfold fieldC sgnI
            show decide (0 ≤ (if num < key then (-1 : Int) else if key < num then 1 else 0)) = _
            by_cases h2 : num < key
            · rw [if_pos h2, decide_eq_false (by omega : ¬ key ≤ num)]; rfl
            · rw [if_neg h2, decide_eq_true (by omega : key ≤ num)]; split <;> rfl
          have e2 : (fieldC key (num, .mk k' n' t' fs' r' ls' ps') = 0) = (num = key) := propext sgnI_zero
          rw [e1, hT, List.append_assoc]
          simp only [e2]
        rw [hstep] at hI
        have HI2 := Lib.hid hI
        have HT := Lib.hid hT
        have HW2 := Lib.hid hW2
        have HH := Lib.hid hh
        have HLT : Hid (g + 1 + 1 + 1 < h) := by have := HSZ.out; show _ < _; omega
        have HOB : Hid (∀ k, (Value.slice q xs.length d).ownBlock = some k → k < h) := fun k hk => by rw [hh]; exact (HI.out.2.2.1.lt _ hk).2
        have HCV := Lib.hid hcv
        clear HI hI hstep hT hW2 hh hbA hcv hrx hq hlb hcx hcy hcz hbw hG hxl hnum
        go_upto_region 8 with fail
        have hW2 := HW2.out
        have hh := HH.out
        rw [← hW2, ← hh]
        clear hW2 hh HW2 HH c0 c1 c2 c3 c4 c5 c6 c7 hwsz
        have hv2 := HCV.out
        have e0 := hv2.cell 0 (v := .int .i64 num) rfl
        clear hv2
        go_cut [43] from 36 to 43 (fun v wx => v = .bool T ∧ wx = W2)
        case first =>
          have hT := HT.out
          cases dn with
          | true =>
            have HZ : Hid (T = false) := by rw [hT]; rfl
            clear hT
            go_wp2_with fail
            go_meet
            exact ⟨by rw [HZ.out], rfl⟩
          | false =>
            by_cases h2 : key ≤ num
            · have HZ : Hid (T = true) := by rw [hT, decide_eq_true h2]; rfl
              clear hT
              go_wp2_with fail
              go_meet
              exact ⟨by rw [HZ.out], rfl⟩
            · have HZ : Hid (T = false) := by rw [hT, decide_eq_false h2]; rfl
              clear hT
              go_wp2_with fail
              go_meet
              exact ⟨by rw [HZ.out], rfl⟩
        case rest =>
          obtain ⟨rfl, rfl⟩ := hcut
          obtain ⟨wd, rfl⟩ : ∃ wx : World, wx = wc := ⟨_, rfl⟩
          go_upto_if 43 with fail
          go_cut [8] from 43 to 51 (fun dv wx => ∃ (dn2 : Bool) (q2 : Option Addr) (d2 : Nat) (xs2 : List (Int × (V × A3))), dv = .bool dn2 ∧ Hid (dn2 = (dn || decide (key ≤ num))) ∧ Hid (WithI SS R ((if num = key then [] else [(num, .mk k' n' t' fs' r' ls' ps')]) ++ putA (fieldC key) (key, .mk k2 n2 t2 fs2 r2 ls2 ps2) (fs.drop (m + 1)) (dn || decide (key ≤ num))) w W1 wx (g + 1 + 1 + 1) r q2 d2 xs2) ∧ Hid (CellsAt wx h 85 #[.int .i64 num, .int .i64 k', .int .u64 (n' : Int), .string (strB t'), .slice fa' fs'.length fc', .string (strB r'), .slice la' ls'.length lc', .slice pa' ps'.length pc']))
          case first =>
            have hT := HT.out
            have hI := HI2.out
            cases T with
            | false =>
              rw [if_neg Bool.false_ne_true, List.nil_append] at hI
              have HI3 := Lib.hid hI
              have HDN : Hid (dn = (dn || decide (key ≤ num))) := by
                show _ = _
                cases dn with
                | true => rfl
                | false => rw [Bool.not_false, Bool.true_and] at hT; rw [← hT]; rfl
              clear hT hI HI2
              go_wp2_with fail
              go_meet
              exact ⟨dn, q, d, xs, rfl, HDN, HI3, HCV⟩
            | true =>
              rw [if_pos rfl] at hI
              have hI3 : WithI SS R ((key, .mk k2 n2 t2 fs2 r2 ls2 ps2) :: ((if num = key then [] else [(num, .mk k' n' t' fs' r' ls' ps')]) ++ putA (fieldC key) (key, .mk k2 n2 t2 fs2 r2 ls2 ps2) (fs.drop (m + 1)) (dn || decide (key ≤ num)))) w W1 wd (g + 1 + 1 + 1) r q d xs := hI
              have HI3 := Lib.hid hI3
              have HDN : Hid (true = (dn || decide (key ≤ num))) := by
                show _ = _
                cases dn with
                | true => cases hT
                | false => rw [Bool.not_false, Bool.true_and] at hT; rw [← hT]; rfl
              have ho := hI3.2.2.1
              have hco := hI3.2.2.2.1
              have hxl := hI3.len
              have hwsz := hI3.2.2.2.2.size
              obtain ⟨hcx, hcy, hcz, hbw⟩ := HX.out wd hI3.2.2.2.2
              have o3 := hco.cell 3 (v := .slice q xs.length d) rfl
              have of := hco.free 3
              have y0 := hcy.cell 0 (v := .int .i64 k2) rfl
              have y1 := hcy.cell 1 (v := .int .u64 (n2 : Int)) rfl
              have y2 := hcy.cell 2 (v := .string (strB t2)) rfl
              have y3 := hcy.cell 3 (v := .slice fa2 fs2.length fc2) rfl
              have y4 := hcy.cell 4 (v := .string (strB r2)) rfl
              have y5 := hcy.cell 5 (v := .slice la2 ls2.length lc2) rfl
              have y6 := hcy.cell 6 (v := .slice pa2 ps2.length pc2) rfl
              clear hT hI hI3 HI2 hco hcx hcy hcz hbw
              go_wp2_with (at_builtin; go_must (refine wpList_pushS fC_len fC_one Try.underlying30 infoRF rfl (by decide) ho (key, (.mk k2 n2 t2 fs2 r2 ls2 ps2, ⟨fa2, fc2, la2, lc2, pa2, pc2⟩)) (by omega) hwsz rfl _ _ rfl (by rfl) _ _ _ (by rfl) (by rfl) ?_))
              intro v7 w7 o7 g7 n7
              obtain ⟨q7, d7, rfl, hc7, HI7⟩ := HI3.out.push (key, (.mk k2 n2 t2 fs2 r2 ls2 ps2, ⟨fa2, fc2, la2, lc2, pa2, pc2⟩)) rfl HXR.out (by have := HSZ.out; omega) o7 g7
              have f3 := hc7.free 3
              have p3 := hc7.cell 3 (v := .slice q xs.length d) rfl
              have HCV7 : Hid (CellsAt (w7.setCell ⟨g + 1 + 1 + 1, 3, none⟩ (.slice q7 (xs.length + 1) d7)) h 85 #[.int .i64 num, .int .i64 k', .int .u64 (n' : Int), .string (strB t'), .slice fa' fs'.length fc', .string (strB r'), .slice la' ls'.length lc', .slice pa' ps'.length pc']) := (HCV.out.grown g7 (fun e => by have := HOB.out _ e; omega)).other _ (by have := HLT.out; show h ≠ g + 1 + 1 + 1; omega) _
              clear hc7 o7 g7 n7 ho o3 of y0 y1 y2 y3 y4 y5 y6
              go_wp2_with fail
              go_meet
              exact ⟨true, q7, d7, _, rfl, HDN, HI7, HCV7⟩
          case rest =>
            obtain ⟨dn2, q2, d2, xs2, rfl, HDN, HI3, HV⟩ := hcut
            have hv := HV.out
            have e0 := hv.cell 0 (v := .int .i64 num) rfl
            by_cases h2 : num = key
            · have h2' : (num != key) = false := by simpa using h2
              have HI4 : Hid (WithI SS R (putA (fieldC key) (key, .mk k2 n2 t2 fs2 r2 ls2 ps2) (fs.drop (m + 1)) dn2) w W1 wc (g + 1 + 1 + 1) r q2 d2 xs2) := by
                have h9 := HI3.out
                rw [if_pos h2, List.nil_append, ← HDN.out] at h9
                exact h9
              clear h2 HI3 HDN hv HV HI2
              go_wp2_with fail
              go_roundw
              case rel => exact ⟨m + 1, dn2, q2, d2, xs2, h1, by go_num, rfl, HI4⟩
              case measure => simp only [intOf]; omega
            · have h2' : (num != key) = true := by simpa using h2
              have hI4 : WithI SS R ((num, .mk k' n' t' fs' r' ls' ps') :: putA (fieldC key) (key, .mk k2 n2 t2 fs2 r2 ls2 ps2) (fs.drop (m + 1)) dn2) w W1 wc (g + 1 + 1 + 1) r q2 d2 xs2 := by
                have h9 := HI3.out
                rw [if_neg h2, ← HDN.out] at h9
                exact h9
              have HI4 := Lib.hid hI4
              have ho := hI4.2.2.1
              have hco := hI4.2.2.2.1
              have hxl := hI4.len
              have hwsz := hI4.2.2.2.2.size
              have o3 := hco.cell 3 (v := .slice q2 xs2.length d2) rfl
              have of := hco.free 3
              have e1 := hv.cell 1 (v := .int .i64 k') rfl
              have e2 := hv.cell 2 (v := .int .u64 (n' : Int)) rfl
              have e3 := hv.cell 3 (v := .string (strB t')) rfl
              have e4 := hv.cell 4 (v := .slice fa' fs'.length fc') rfl
              have e5 := hv.cell 5 (v := .string (strB r')) rfl
              have e6 := hv.cell 6 (v := .slice la' ls'.length lc') rfl
              have e7 := hv.cell 7 (v := .slice pa' ps'.length pc') rfl
              clear h2 HI3 HDN hv HV HI2 hI4 hco
              go_wp2_with (at_builtin; go_must (refine wpList_pushS fC_len fC_one Try.underlying30 infoRF rfl (by decide) ho (num, (.mk k' n' t' fs' r' ls' ps', ⟨fa', fc', la', lc', pa', pc'⟩)) (by omega) hwsz rfl _ _ rfl (by rfl) _ _ _ (by rfl) (by rfl) ?_))
              intro v7 w7 o7 g7 n7
              obtain ⟨q7, d7, rfl, hc7, HI7⟩ := HI4.out.push (num, (.mk k' n' t' fs' r' ls' ps', ⟨fa', fc', la', lc', pa', pc'⟩)) rfl HYR.out (by have := HSZ.out; omega) o7 g7
              have f3 := hc7.free 3
              have p3 := hc7.cell 3 (v := .slice q2 xs2.length d2) rfl
              have HI8 : Hid (WithI SS R (putA (fieldC key) (key, .mk k2 n2 t2 fs2 r2 ls2 ps2) (fs.drop (m + 1)) dn2) w W1 (w7.setCell ⟨g + 1 + 1 + 1, 3, none⟩ (.slice q7 (xs2.length + 1) d7)) (g + 1 + 1 + 1) r q7 d7 (xs2 ++ [(num, (.mk k' n' t' fs' r' ls' ps', ⟨fa', fc', la', lc', pa', pc'⟩))])) := HI7.out
              clear hc7 o7 g7 n7 ho o3 of e0 e1 e2 e3 e4 e5 e6 e7 HI7
              go_wp2_with fail
              go_roundw
              case rel => exact ⟨m + 1, dn2, q7, d7, _, h1, by go_num, rfl, HI8⟩
              case measure => simp only [intOf]; omega
      · have hI : WithI SS R (if dn = true then [] else [(key, .mk k2 n2 t2 fs2 r2 ls2 ps2)]) w W1 wr (g + 1 + 1 + 1) r q d xs := by
          have h9 := HI.out
          rw [List.drop_of_length_le (by omega)] at h9
          exact h9
        clear HI hcx
        cases dn with
        | true =>
          rw [if_pos rfl] at hI
          have HI2 := Lib.hid hI
          have hco := hI.2.2.2.1
          have o0 := hco.cell 0 (v := .int .i64 3) rfl
          have o1 := hco.cell 1 (v := .int .u64 0) rfl
          have o2 := hco.cell 2 (v := .string ⟨#[]⟩) rfl
          have o3 := hco.cell 3 (v := .slice q xs.length d) rfl
          have o4 := hco.cell 4 (v := .string (strB r)) rfl
          have o5 := hco.cell 5 (v := .slice none 0 0) rfl
          have o6 := hco.cell 6 (v := .slice none 0 0) rfl
          have z0 := hcz.cell 0 (v := .int .i64 0) rfl
          have z1 := hcz.cell 1 (v := .int .u64 0) rfl
          have z2 := hcz.cell 2 (v := .string ⟨#[]⟩) rfl
          have z3 := hcz.cell 3 (v := .slice none 0 0) rfl
          have z4 := hcz.cell 4 (v := .string ⟨#[]⟩) rfl
          have z5 := hcz.cell 5 (v := .slice none 0 0) rfl
          have z6 := hcz.cell 6 (v := .slice none 0 0) rfl
          have f0 := hcz.free 0
          have f1 := hcz.free 1
          have f2 := hcz.free 2
          have f3 := hcz.free 3
          have f4 := hcz.free 4
          have f5 := hcz.free 5
          have f6 := hcz.free 6
          have HBW := Lib.hid hbw
          obtain ⟨d7, hd7⟩ : ∃ d7, d7 = d := ⟨_, rfl⟩
          rw [← hd7] at HI2 o3
          clear hI hco hcz hcy hG hd7 hbw hwsz
          go_wp2_with fail
          refine bodyPost_ret (v := .agg #[.int .i64 3, .int .u64 0, .string ⟨#[]⟩, .slice q xs.length d7, .string (strB r), .slice none 0 0, .slice none 0 0]) (by simp [results, Try.results26, go_sem, z0, z1, z2, z3, z4, z5, z6]) rfl ?_
          rw [HG.out]
          have hgw := HGG.out
          have hsw := HSZ.out
          have hb7 := below_set7 HBW.out (show w.heap.size ≤ g + 1 + 1 by omega) (.int .i64 3) (.int .u64 0) (.string ⟨#[]⟩) (.slice q xs.length d7) (.string (strB r)) (.slice none 0 0) (.slice none 0 0)
          have hg7 := grew_set7 (g := g + 1 + 1) (Grew.refl [g + 1 + 1] wr) (by simp) (.int .i64 3) (.int .u64 0) (.string ⟨#[]⟩) (.slice q xs.length d7) (.string (strB r)) (.slice none 0 0) (.slice none 0 0)
          have hi9 := HI2.out
          have hmap : (xs).map fE = R := by have := hi9.1; simpa using this
          rw [← hmap]
          have hrow := hi9.2.2.1.row.grew hg7 (fun _ k hk => by have := (hi9.2.2.1.lt _ hk).1; simp only [List.mem_singleton]; omega)
          refine ⟨⟨q, d7, none, 0, none, 0⟩, ?_, Rep.newMsg hrow (fun k hk => by have := (hi9.2.2.1.lt _ hk).1; rw [HSS.out]; exact .inr (.inr (by omega))) (fun p hp => ⟨(hi9.2.1 p hp).1, (hi9.2.1 p hp).2.stays hb7⟩), hb7⟩
          rw [vG_lit, List.length_map]
          first | rfl | (rw [List.length_append, List.length_singleton]; rfl)
        | false =>
          rw [if_neg Bool.false_ne_true] at hI
          have HI2 := Lib.hid hI
          have hco := hI.2.2.2.1
          have ho := hI.2.2.1
          have o3 := hco.cell 3 (v := .slice q xs.length d) rfl
          have of := hco.free 3
          have y0 := hcy.cell 0 (v := .int .i64 k2) rfl
          have y1 := hcy.cell 1 (v := .int .u64 (n2 : Int)) rfl
          have y2 := hcy.cell 2 (v := .string (strB t2)) rfl
          have y3 := hcy.cell 3 (v := .slice fa2 fs2.length fc2) rfl
          have y4 := hcy.cell 4 (v := .string (strB r2)) rfl
          have y5 := hcy.cell 5 (v := .slice la2 ls2.length lc2) rfl
          have y6 := hcy.cell 6 (v := .slice pa2 ps2.length pc2) rfl
          clear hI hco hcy hcz hbw hG
          go_wp2_with (at_builtin; go_must (refine wpList_pushS fC_len fC_one Try.underlying30 infoRF rfl (by decide) ho (key, (.mk k2 n2 t2 fs2 r2 ls2 ps2, ⟨fa2, fc2, la2, lc2, pa2, pc2⟩)) (by omega) hwsz rfl _ _ rfl (by rfl) _ _ _ (by rfl) (by rfl) ?_))
          intro v7 w7 o7 g7 n7
          obtain ⟨q7, d7, rfl, hc7, HI7⟩ := HI2.out.push (key, (.mk k2 n2 t2 fs2 r2 ls2 ps2, ⟨fa2, fc2, la2, lc2, pa2, pc2⟩)) rfl HXR.out (by have := HSZ.out; omega) o7 g7
          obtain ⟨hcx8, hcy8, hcz, hbw⟩ := HX.out _ HI7.out.2.2.2.2
          have hco := HI7.out.2.2.2.1
          rw [List.length_append, List.length_singleton] at hco
          have f3 := hc7.free 3
          have p3 := hc7.cell 3 (v := .slice q xs.length d) rfl
          obtain ⟨W8, hW8⟩ : ∃ W8, W8 = w7.setCell ⟨g + 1 + 1 + 1, 3, none⟩ (.slice q7 (xs.length + 1) d7) := ⟨_, rfl⟩
          rw [← hW8] at hcz hbw hco HI7
          have HW8 := Lib.hid hW8
          have HBW := Lib.hid hbw
          have HCZ := Lib.hid hcz
          have HCO := Lib.hid hco
          clear hc7 o7 g7 n7 ho o3 of y0 y1 y2 y3 y4 y5 y6 HI2 hcx8 hcy8 hcz hbw hco hW8 hwsz
          go_upto_region 16 with fail
          have hW8 := HW8.out
          rw [← hW8]
          clear hW8 HW8 p3 f3
          have hco := HCO.out
          have hcz := HCZ.out
          have o0 := hco.cell 0 (v := .int .i64 3) rfl
          have o1 := hco.cell 1 (v := .int .u64 0) rfl
          have o2 := hco.cell 2 (v := .string ⟨#[]⟩) rfl
          have o3 := hco.cell 3 (v := .slice q7 (xs.length + 1) d7) rfl
          have o4 := hco.cell 4 (v := .string (strB r)) rfl
          have o5 := hco.cell 5 (v := .slice none 0 0) rfl
          have o6 := hco.cell 6 (v := .slice none 0 0) rfl
          have z0 := hcz.cell 0 (v := .int .i64 0) rfl
          have z1 := hcz.cell 1 (v := .int .u64 0) rfl
          have z2 := hcz.cell 2 (v := .string ⟨#[]⟩) rfl
          have z3 := hcz.cell 3 (v := .slice none 0 0) rfl
          have z4 := hcz.cell 4 (v := .string ⟨#[]⟩) rfl
          have z5 := hcz.cell 5 (v := .slice none 0 0) rfl
          have z6 := hcz.cell 6 (v := .slice none 0 0) rfl
          have f0 := hcz.free 0
          have f1 := hcz.free 1
          have f2 := hcz.free 2
          have f3 := hcz.free 3
          have f4 := hcz.free 4
          have f5 := hcz.free 5
          have f6 := hcz.free 6
          clear hco hcz HCO HCZ
          go_wp2_with fail
          refine bodyPost_ret (v := .agg #[.int .i64 3, .int .u64 0, .string ⟨#[]⟩, .slice q7 (xs.length + 1) d7, .string (strB r), .slice none 0 0, .slice none 0 0]) (by simp [results, Try.results26, go_sem, z0, z1, z2, z3, z4, z5, z6]) rfl ?_
          rw [HG.out]
          have hgw := HGG.out
          have hsw := HSZ.out
          have hb7 := below_set7 HBW.out (show w.heap.size ≤ g + 1 + 1 by omega) (.int .i64 3) (.int .u64 0) (.string ⟨#[]⟩) (.slice q7 (xs.length + 1) d7) (.string (strB r)) (.slice none 0 0) (.slice none 0 0)
          have hg7 := grew_set7 (g := g + 1 + 1) (Grew.refl [g + 1 + 1] W8) (by simp) (.int .i64 3) (.int .u64 0) (.string ⟨#[]⟩) (.slice q7 (xs.length + 1) d7) (.string (strB r)) (.slice none 0 0) (.slice none 0 0)
          have hi9 := HI7.out
          have hmap : (xs ++ [((key, (.mk k2 n2 t2 fs2 r2 ls2 ps2, ⟨fa2, fc2, la2, lc2, pa2, pc2⟩)) : Int × (V × A3))]).map fE = R := by have := hi9.1; simpa using this
          rw [← hmap]
          have hrow := hi9.2.2.1.row.grew hg7 (fun _ k hk => by have := (hi9.2.2.1.lt _ hk).1; simp only [List.mem_singleton]; omega)
          refine ⟨⟨q7, d7, none, 0, none, 0⟩, ?_, Rep.newMsg hrow (fun k hk => by have := (hi9.2.2.1.lt _ hk).1; rw [HSS.out]; exact .inr (.inr (by omega))) (fun p hp => ⟨(hi9.2.1 p hp).1, (hi9.2.1 p hp).2.stays hb7⟩), hb7⟩
          rw [vG_lit, List.length_map]
          first | rfl | (rw [List.length_append, List.length_singleton]; rfl)
  · have HG : Hid (withV (.mk k n t fs r ls ps) key (.mk k2 n2 t2 fs2 r2 ls2 ps2) = .mk k n t fs r ls ps) := by show (if k ≠ 3 ∨ key < 1 ∨ 536870911 < key then _ else _) = _; rw [if_pos (by omega)]
    have hcases : (k != 3) = true ∨ ((k != 3) = false ∧ key < 1) ∨ ((k != 3) = false ∧ ¬ key < 1 ∧ 536870911 < key) := by
      by_cases a : k = 3
      · by_cases b : key < 1
        · exact .inr (.inl ⟨by simpa using a, b⟩)
        · exact .inr (.inr ⟨by simpa using a, b, by omega⟩)
      · exact .inl (by simpa using a)
    have HRX := Lib.hid hr
    clear hv hr hx hcx hcy hcz hBA hsz hW0 hg
    rcases hcases with g1 | ⟨g1, g2⟩ | ⟨g1, g2, g3⟩
    all_goals
      go_enter Try.func26, Try.ntmps26
      go_wp2_with fail
      refine bodyPost_ret (v := .agg #[.int .i64 k, .int .u64 (n : Int), .string (strB t), .slice fa fs.length fc, .string (strB r), .slice la ls.length lc, .slice pa ps.length pc]) (by simp [results, Try.results26, go_sem]) rfl ?_
      rw [HG.out]
      have hb3 : Below w.heap.size w (((w.alloc (.cells #[.int .i64 k, .int .u64 (n : Int), .string (strB t), .slice fa fs.length fc, .string (strB r), .slice la ls.length lc, .slice pa ps.length pc] 34)).alloc (.cells #[.int .i64 k2, .int .u64 (n2 : Int), .string (strB t2), .slice fa2 fs2.length fc2, .string (strB r2), .slice la2 ls2.length lc2, .slice pa2 ps2.length pc2] 34)).alloc (.cells #[.int .i64 k, .int .u64 (n : Int), .string (strB t), .slice fa fs.length fc, .string (strB r), .slice la ls.length lc, .slice pa ps.length pc] 34)) := (((Below.refl _ _).alloc (Nat.le_refl _) _).alloc (by simp) _).alloc (by simp; omega) _
      exact ⟨⟨fa, fc, la, lc, pa, pc⟩, rfl, (HRX.out.stays hb3).mono (fun k hk => by rw [HSS.out]; exact .inl hk), hb3⟩
theorem rwith_any (key : Int) (hr : Rep S w (.mk k n t fs r ls ps) ⟨fa, fc, la, lc, pa, pc⟩) (hx : Rep S2 w (.mk k2 n2 t2 fs2 r2 ls2 ps2) ⟨fa2, fc2, la2, lc2, pa2, pc2⟩) (hlen : fs.length ≤ 1000000) (hk64 : -9223372036854775808 ≤ key ∧ key ≤ 9223372036854775807) :
    Calls Try.prog 26 #[.agg #[.int .i64 k, .int .u64 (n : Int), .string (strB t), .slice fa fs.length fc, .string (strB r), .slice la ls.length lc, .slice pa ps.length pc], .int .i64 key, .agg #[.int .i64 k2, .int .u64 (n2 : Int), .string (strB t2), .slice fa2 fs2.length fc2, .string (strB r2), .slice la2 ls2.length lc2, .slice pa2 ps2.length pc2]] w (ValP (withV (.mk k n t fs r ls ps) key (.mk k2 n2 t2 fs2 r2 ls2 ps2)) w) := (rwith_S key hr hx hlen hk64).mono fun e w' h => h.any
end
end Go.Proofs.Ytcnjlbbckdmifaa
