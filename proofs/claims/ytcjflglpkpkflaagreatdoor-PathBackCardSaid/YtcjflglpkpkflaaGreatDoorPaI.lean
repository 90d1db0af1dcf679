/- Paths: Same, Begins. -/
import Derived.Test.YtcjflglpkpkflaaGreatDoorPaE
import Derived.Test.YtcjflglpkpkflaaGreatDoorSlcS
namespace Go.Proofs.YtcjflglpkpkflaaGreatDoor
open Go Go.RowKit
set_option linter.unusedVariables false
/-- two steps the same -/
def sameS (s t : PS) : Bool := s.k == t.k && (s.n == t.n && (s.t == t.t && (cmpV s.v t.v == 0)))
def sameP : List PS → List PS → Bool
  | [], [] => true
  | s :: p, t :: q => sameS s t && sameP p q
  | _, _ => false
theorem sameS_self (s : PS) : sameS s s = true := by unfold sameS; simp [cmpV_self]
theorem sameP_self : ∀ p : List PS, sameP p p = true
  | [] => rfl
  | s :: p => by rw [sameP, sameS_self, sameP_self p]; rfl
theorem sameP_len : ∀ (p q : List PS), p.length ≠ q.length → sameP p q = false
  | [], [], h => absurd rfl h
  | [], _ :: _, _ => rfl
  | _ :: _, [], _ => rfl
  | s :: p, t :: q, h => by rw [sameP, sameP_len p q (by simpa using h), Bool.and_false]
/-- the same for paths in memory -/
def sameQ (p q : List SQ) : Bool := sameP (p.map Prod.fst) (q.map Prod.fst)
theorem sameQ_drop {p q : List SQ} {m : Nat} {x y : SQ} (hx : p[m]? = some x) (hy : q[m]? = some y) : sameQ (p.drop m) (q.drop m) = (sameS x.1 y.1 && sameQ (p.drop (m + 1)) (q.drop (m + 1))) := by
  have hi := (List.getElem?_eq_some_iff.1 hx).1
  have hj := (List.getElem?_eq_some_iff.1 hy).1
  rw [List.drop_eq_getElem_cons hi, List.drop_eq_getElem_cons hj, (List.getElem?_eq_some_iff.1 hx).2, (List.getElem?_eq_some_iff.1 hy).2]
  rfl
section
variable {k : Int} {n : Nat} {t r : List UInt8} {fs : List (Int × V)} {ls : List V} {ps : List (V × V)} {fa la pa : Option Addr} {fc lc pc : Nat} {S S2 : Nat → Prop} {w : World}
variable {k2 : Int} {n2 : Nat} {t2 r2 : List UInt8} {fs2 : List (Int × V)} {ls2 : List V} {ps2 : List (V × V)} {fa2 la2 pa2 : Option Addr} {fc2 lc2 pc2 : Nat}
set_option maxRecDepth 100000 in
set_option maxHeartbeats 8000000 in
theorem sstep_lit {K N T K2 N2 T2 : Int} (hr : Rep S w (.mk k n t fs r ls ps) ⟨fa, fc, la, lc, pa, pc⟩) (hr2 : Rep S2 w (.mk k2 n2 t2 fs2 r2 ls2 ps2) ⟨fa2, fc2, la2, lc2, pa2, pc2⟩) : Calls Tryz.prog 32 #[.agg #[.int .i64 K, .int .i64 N, .int .i64 T, .int .i64 k, .int .u64 (n : Int), .string (strB t), .slice fa fs.length fc, .string (strB r), .slice la ls.length lc, .slice pa ps.length pc], .agg #[.int .i64 K2, .int .i64 N2, .int .i64 T2, .int .i64 k2, .int .u64 (n2 : Int), .string (strB t2), .slice fa2 fs2.length fc2, .string (strB r2), .slice la2 ls2.length lc2, .slice pa2 ps2.length pc2]] w fun e w' => e = .returned (.bool (sameS ⟨K, N, T, .mk k n t fs r ls ps⟩ ⟨K2, N2, T2, .mk k2 n2 t2 fs2 r2 ls2 ps2⟩)) ∧ Below w.heap.size w w' := by
  obtain ⟨W0, hW0⟩ : ∃ W0, W0 = (w.alloc (.cells #[.int .i64 K, .int .i64 N, .int .i64 T, .int .i64 k, .int .u64 (n : Int), .string (strB t), .slice fa fs.length fc, .string (strB r), .slice la ls.length lc, .slice pa ps.length pc] 62)).alloc (.cells #[.int .i64 K2, .int .i64 N2, .int .i64 T2, .int .i64 k2, .int .u64 (n2 : Int), .string (strB t2), .slice fa2 fs2.length fc2, .string (strB r2), .slice la2 ls2.length lc2, .slice pa2 ps2.length pc2] 62) := ⟨_, rfl⟩
  obtain ⟨g, hg⟩ : ∃ g, g = w.heap.size := ⟨_, rfl⟩
  have hb0 : Below w.heap.size w W0 := by rw [hW0]; exact ((Below.refl _ _).alloc (Nat.le_refl _) _).alloc (by simp) _
  have hcx : CellsAt W0 g 62 #[.int .i64 K, .int .i64 N, .int .i64 T, .int .i64 k, .int .u64 (n : Int), .string (strB t), .slice fa fs.length fc, .string (strB r), .slice la ls.length lc, .slice pa ps.length pc] := by rw [hW0, hg]; exact (CellsAt.new w _ _).stays ((Below.refl _ _).alloc (Nat.le_refl _) _)
  have hcy : CellsAt W0 (g + 1) 62 #[.int .i64 K2, .int .i64 N2, .int .i64 T2, .int .i64 k2, .int .u64 (n2 : Int), .string (strB t2), .slice fa2 fs2.length fc2, .string (strB r2), .slice la2 ls2.length lc2, .slice pa2 ps2.length pc2] := by
    have := CellsAt.new (w.alloc (.cells #[.int .i64 K, .int .i64 N, .int .i64 T, .int .i64 k, .int .u64 (n : Int), .string (strB t), .slice fa fs.length fc, .string (strB r), .slice la ls.length lc, .slice pa ps.length pc] 62)) #[.int .i64 K2, .int .i64 N2, .int .i64 T2, .int .i64 k2, .int .u64 (n2 : Int), .string (strB t2), .slice fa2 fs2.length fc2, .string (strB r2), .slice la2 ls2.length lc2, .slice pa2 ps2.length pc2] 62
    rw [hW0, hg]
    simpa using this
  have HC : Hid (∀ W, Below w.heap.size w W → Calls _ _ _ W _) := fun W hb => same_lit (hr.stays hb) (hr2.stays hb)
  have c0 := hcx.cell 0 (v := .int .i64 K) rfl
  have c1 := hcx.cell 1 (v := .int .i64 N) rfl
  have c2 := hcx.cell 2 (v := .int .i64 T) rfl
  have c3 := hcx.cell 3 (v := .int .i64 k) rfl
  have c4 := hcx.cell 4 (v := .int .u64 (n : Int)) rfl
  have c5 := hcx.cell 5 (v := .string (strB t)) rfl
  have c6 := hcx.cell 6 (v := .slice fa fs.length fc) rfl
  have c7 := hcx.cell 7 (v := .string (strB r)) rfl
  have c8 := hcx.cell 8 (v := .slice la ls.length lc) rfl
  have c9 := hcx.cell 9 (v := .slice pa ps.length pc) rfl
  have d0 := hcy.cell 0 (v := .int .i64 K2) rfl
  have d1 := hcy.cell 1 (v := .int .i64 N2) rfl
  have d2 := hcy.cell 2 (v := .int .i64 T2) rfl
  have d3 := hcy.cell 3 (v := .int .i64 k2) rfl
  have d4 := hcy.cell 4 (v := .int .u64 (n2 : Int)) rfl
  have d5 := hcy.cell 5 (v := .string (strB t2)) rfl
  have d6 := hcy.cell 6 (v := .slice fa2 fs2.length fc2) rfl
  have d7 := hcy.cell 7 (v := .string (strB r2)) rfl
  have d8 := hcy.cell 8 (v := .slice la2 ls2.length lc2) rfl
  have d9 := hcy.cell 9 (v := .slice pa2 ps2.length pc2) rfl
  have HZ : Hid (sameS ⟨K, N, T, .mk k n t fs r ls ps⟩ ⟨K2, N2, T2, .mk k2 n2 t2 fs2 r2 ls2 ps2⟩ = (K == K2 && (N == N2 && (T == T2 && (cmpV (.mk k n t fs r ls ps) (.mk k2 n2 t2 fs2 r2 ls2 ps2) == 0))))) := rfl
  have HB := Lib.hid hb0
  have HW := Lib.hid hW0
  have HG := Lib.hid hg
  clear hr hr2 hW0 hg hb0 hcx hcy
  generalize sameS ⟨K, N, T, .mk k n t fs r ls ps⟩ ⟨K2, N2, T2, .mk k2 n2 t2 fs2 r2 ls2 ps2⟩ = SS at HZ ⊢
  generalize (cmpV (.mk k n t fs r ls ps) (.mk k2 n2 t2 fs2 r2 ls2 ps2) == 0) = CB at HC HZ
  obtain ⟨b1, q1⟩ : ∃ b, (K == K2) = b := ⟨_, rfl⟩
  obtain ⟨b2, q2⟩ : ∃ b, (N == N2) = b := ⟨_, rfl⟩
  obtain ⟨b3, q3⟩ : ∃ b, (T == T2) = b := ⟨_, rfl⟩
  rw [q1, q2, q3] at HZ
  go_enter Tryz.func32, Tryz.ntmps32
  go_upto_region 1 with fail
  rw [← HW.out, ← HG.out]
  clear HW HG
  cases b1 with
  | false =>
    go_wp2_with fail
    go_ret
    exact ⟨congrArg (fun z => Ending.returned (Value.bool z)) (by rw [HZ.out]; rfl), HB.out⟩
  | true =>
    cases b2 with
    | false =>
      go_wp2_with fail
      go_ret
      exact ⟨congrArg (fun z => Ending.returned (Value.bool z)) (by rw [HZ.out]; rfl), HB.out⟩
    | true =>
      cases b3 with
      | false =>
        go_wp2_with fail
        go_ret
        exact ⟨congrArg (fun z => Ending.returned (Value.bool z)) (by rw [HZ.out]; rfl), HB.out⟩
      | true =>
        go_wp2_with fail
        refine (HC.out _ HB.out).mono ?_
        rintro e w1 ⟨rfl, hb1⟩
        have HB1 := Lib.hid (HB.out.trans (hb1.mono HB.out.size))
        clear HC HB hb1 c0 c1 c2 c3 c4 c5 c6 c7 c8 c9 d0 d1 d2 d3 d4 d5 d6 d7 d8 d9
        go_wp2_with fail
        go_ret
        exact ⟨congrArg (fun z => Ending.returned (Value.bool z)) (by rw [HZ.out]; rfl), HB1.out⟩
end
section
variable {S S2 : Nat → Prop} {w : World} {a a2 : Option Addr} {c c2 : Nat} {p q : List SQ}
set_option maxRecDepth 100000 in
set_option maxHeartbeats 8000000 in
theorem equalStep_any (hr : PathR S w (.slice a p.length c) p) (hr2 : PathR S2 w (.slice a2 q.length c2) q) :
    Calls Tryz.prog 31 #[.slice a p.length c, .slice a2 q.length c2, .func (.func 32) #[] #[]] w fun e w' => e = .returned (.bool (sameQ p q)) ∧ Below w.heap.size w w' := by
  have hll := hr.len
  have hl2 := hr2.len
  unfold maxLen at hll hl2
  by_cases hne : p.length = q.length
  · have HQ : Hid (q.length = p.length) := hne.symm
    rw [← hne] at hr2 ⊢
    have HR : Hid (∀ W, Below w.heap.size w W → PathR S W (.slice a p.length c) p ∧ PathR S2 W (.slice a2 q.length c2) q) := fun W hb => ⟨hr.stays hb, by rw [HQ.out]; exact hr2.stays hb⟩
    have HS0 : Hid (sameQ (p.drop 0) (q.drop 0) = sameQ p q) := rfl
    clear hr hr2 hl2 hne
    go_enter Tryz.func31, Tryz.ntmps31
    go_wp2_with fail
    go_loopw [17] (fun i wr => ∃ (m : Nat), m ≤ p.length ∧ i = .int .i64 m ∧ Hid (sameQ (p.drop m) (q.drop m) = sameQ p q) ∧ Below w.heap.size w wr) (fun i _ => p.length - (intOf i).toNat)
    case atStart => exact ⟨0, Nat.zero_le _, rfl, HS0.out, Below.refl _ _⟩
    case round =>
      clear HS0
      obtain ⟨m, hm, rfl, HI, hbe⟩ := hrel
      by_cases h1 : m < p.length
      · obtain ⟨⟨⟨K, N, T, ⟨k', n', t', fs', r', ls', ps'⟩⟩, ⟨fa', fc', la', lc', pa', pc'⟩⟩, hq⟩ : ∃ x, p[m]? = some x := ⟨_, List.getElem?_eq_getElem h1⟩
        obtain ⟨⟨⟨K2, N2, T2, ⟨k2, n2, t2, fs2, r2, ls2, ps2⟩⟩, ⟨fa2, fc2, la2, lc2, pa2, pc2⟩⟩, hq2⟩ : ∃ x, q[m]? = some x := ⟨_, List.getElem?_eq_getElem (by rw [HQ.out]; exact h1)⟩
        obtain ⟨hpr, hpr2⟩ := HR.out wr hbe
        obtain ⟨b, o, rfl, hrx, x0, x1, x2, c0, c1, c2, c3, c4, c5, c6⟩ := hpr.at hq
        obtain ⟨b', o', rfl, hry, y0, y1, y2, d0, d1, d2, d3, d4, d5, d6⟩ := hpr2.at hq2
        have hI := HI.out
        rw [sameQ_drop hq hq2] at hI
        have HC : Hid (∀ W, Below wr.heap.size wr W → Calls Tryz.prog 32 #[.agg #[.int .i64 K, .int .i64 N, .int .i64 T, .int .i64 k', .int .u64 (n' : Int), .string (strB t'), .slice fa' fs'.length fc', .string (strB r'), .slice la' ls'.length lc', .slice pa' ps'.length pc'], .agg #[.int .i64 K2, .int .i64 N2, .int .i64 T2, .int .i64 k2, .int .u64 (n2 : Int), .string (strB t2), .slice fa2 fs2.length fc2, .string (strB r2), .slice la2 ls2.length lc2, .slice pa2 ps2.length pc2]] W fun e w' => e = .returned (.bool (sameS ⟨K, N, T, .mk k' n' t' fs' r' ls' ps'⟩ ⟨K2, N2, T2, .mk k2 n2 t2 fs2 r2 ls2 ps2⟩)) ∧ Below W.heap.size W w') := fun W h => sstep_lit (hrx.2.stays h) (hry.2.stays h)
        simp only at hI
        generalize sameS ⟨K, N, T, .mk k' n' t' fs' r' ls' ps'⟩ ⟨K2, N2, T2, .mk k2 n2 t2 fs2 r2 ls2 ps2⟩ = R at HC hI
        have HI2 := Lib.hid hI
        have hbb : b < wr.heap.size := World.block_lt_of_cell? wr _ x0
        have hbb' : b' < wr.heap.size := World.block_lt_of_cell? wr _ y0
        have HBW : Hid (∀ x y, Below wr.heap.size wr ((wr.alloc (.cells x 62)).alloc (.cells y 62))) := fun x y => ((Below.refl _ _).alloc (Nat.le_refl _) _).alloc (by simp) _
        clear hI HI hrx hry hq hq2 hpr hpr2
        go_wp2_with fail
        refine (HC.out _ (HBW.out _ _)).mono ?_
        rintro e w2 ⟨rfl, hb2⟩
        have hbe2 : Below w.heap.size w w2 := (hbe.trans ((HBW.out _ _).mono hbe.size)).trans (hb2.mono (by simp; have := hbe.size; omega))
        clear HC HBW hb2 x0 x1 x2 c0 c1 c2 c3 c4 c5 c6 y0 y1 y2 d0 d1 d2 d3 d4 d5 d6
        cases R with
        | true =>
          go_wp2_with fail
          go_roundw
          case rel => exact ⟨m + 1, h1, by go_num, by show _ = _; simpa using HI2.out, hbe2⟩
          case measure => simp only [intOf]; omega
        | false =>
          have HZ : Hid (false = sameQ p q) := by have := HI2.out; rw [Bool.false_and] at this; exact this
          go_wp2_with fail
          go_ret
          exact ⟨congrArg (fun z => Ending.returned (Value.bool z)) HZ.out, hbe2⟩
      · have HZ : Hid (true = sameQ p q) := by show _ = _; rw [← HI.out, List.drop_of_length_le (by omega), List.drop_of_length_le (by rw [HQ.out]; omega)]; rfl
        clear HI
        go_wp2_with fail
        go_ret
        exact ⟨congrArg (fun z => Ending.returned (Value.bool z)) HZ.out, hbe⟩
  · have HZ : Hid (false = sameQ p q) := by show _ = _; unfold sameQ; rw [sameP_len _ _ (by simpa using hne)]
    have t0 : ((p.length : Int) != (q.length : Int)) = true := bne_iff_ne.2 (by omega)
    clear hr hr2 hne
    go_enter Tryz.func31, Tryz.ntmps31
    go_wp2_with fail
    go_ret
    exact ⟨congrArg (fun z => Ending.returned (Value.bool z)) HZ.out, Below.refl _ _⟩
set_option maxRecDepth 100000 in
theorem psame_any (hr : PathR S w (.slice a p.length c) p) (hr2 : PathR S2 w (.slice a2 q.length c2) q) :
    Calls Tryz.prog 11 #[.slice a p.length c, .slice a2 q.length c2] w fun e w' => e = .returned (.bool (sameQ p q)) ∧ Below w.heap.size w w' := by
  have HC := Lib.hid (equalStep_any hr hr2)
  clear hr hr2
  generalize sameQ p q = R at HC ⊢
  go_enter Tryz.func11, Tryz.ntmps11
  go_wp2_with fail
  refine HC.out.mono ?_
  rintro e w1 ⟨rfl, hb1⟩
  go_wp2_with fail
  go_ret
  exact ⟨rfl, hb1⟩
end
end Go.Proofs.YtcjflglpkpkflaaGreatDoor
