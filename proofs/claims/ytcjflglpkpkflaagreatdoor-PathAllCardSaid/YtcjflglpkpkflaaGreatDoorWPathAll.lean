/- The walk of PathAll: the paths to all values. No condition beyond those of the statement. -/
import Derived.Test.YtcjflglpkpkflaaGreatDoorPaE
import Derived.Test.YtcjflglpkpkflaaGreatDoorSlcS
import Derived.Test.YtcjflglpkpkflaaGreatDoorPgA
import Derived.Test.YtcjflglpkpkflaaGreatDoorPaF
import Derived.Test.YtcjflglpkpkflaaGreatDoorVs
import Derived.Test.YtcjflglpkpkflaaGreatDoorVo
import Derived.Deep.RegionHeld3
import Derived.Test.YtcjflglpkpkflaaGreatDoorVp
import Derived.Test.YtcjflglpkpkflaaGreatDoorPaJ
import Derived.Test.YtcjflglpkpkflaaGreatDoorVx
namespace Go.Proofs.YtcjflglpkpkflaaGreatDoor
open Go Go.RowKit
set_option linter.unusedVariables false
/-- two steps the same -/
def sameS (s t : PS) : Bool := s.k == t.k && (s.n == t.n && (s.t == t.t && (cmpV s.v t.v == 0)))
def sameP : List PS → List PS → Bool
  | [], [] => true
  | s :: p, t :: q => sameS s t && sameP p q
  | _, _ => false
theorem sameS_self (s : PS) : sameS s s = true := by unfold sameS; simp [cmpV_self]
theorem sameP_self : ∀ p : List PS, sameP p p = true
  | [] => rfl
  | s :: p => by rw [sameP, sameS_self, sameP_self p]; rfl
theorem sameP_len : ∀ (p q : List PS), p.length ≠ q.length → sameP p q = false
  | [], [], h => absurd rfl h
  | [], _ :: _, _ => rfl
  | _ :: _, [], _ => rfl
  | s :: p, t :: q, h => by rw [sameP, sameP_len p q (by simpa using h), Bool.and_false]
/-- the same for paths in memory -/
def sameQ (p q : List SQ) : Bool := sameP (p.map Prod.fst) (q.map Prod.fst)
theorem sameQ_drop {p q : List SQ} {m : Nat} {x y : SQ} (hx : p[m]? = some x) (hy : q[m]? = some y) : sameQ (p.drop m) (q.drop m) = (sameS x.1 y.1 && sameQ (p.drop (m + 1)) (q.drop (m + 1))) := by
  have hi := (List.getElem?_eq_some_iff.1 hx).1
  have hj := (List.getElem?_eq_some_iff.1 hy).1
  rw [List.drop_eq_getElem_cons hi, List.drop_eq_getElem_cons hj, (List.getElem?_eq_some_iff.1 hx).2, (List.getElem?_eq_some_iff.1 hy).2]
  rfl
section
variable {k : Int} {n : Nat} {t r : List UInt8} {fs : List (Int × V)} {ls : List V} {ps : List (V × V)} {fa la pa : Option Addr} {fc lc pc : Nat} {S S2 : Nat → Prop} {w : World}
variable {k2 : Int} {n2 : Nat} {t2 r2 : List UInt8} {fs2 : List (Int × V)} {ls2 : List V} {ps2 : List (V × V)} {fa2 la2 pa2 : Option Addr} {fc2 lc2 pc2 : Nat}
set_option maxRecDepth 100000 in
set_option maxHeartbeats 8000000 in
theorem sstep_lit {K N T K2 N2 T2 : Int} (hr : Rep S w (.mk k n t fs r ls ps) ⟨fa, fc, la, lc, pa, pc⟩) (hr2 : Rep S2 w (.mk k2 n2 t2 fs2 r2 ls2 ps2) ⟨fa2, fc2, la2, lc2, pa2, pc2⟩) : Calls Tryz.prog 32 #[.agg #[.int .i64 K, .int .i64 N, .int .i64 T, .int .i64 k, .int .u64 (n : Int), .string (strB t), .slice fa fs.length fc, .string (strB r), .slice la ls.length lc, .slice pa ps.length pc], .agg #[.int .i64 K2, .int .i64 N2, .int .i64 T2, .int .i64 k2, .int .u64 (n2 : Int), .string (strB t2), .slice fa2 fs2.length fc2, .string (strB r2), .slice la2 ls2.length lc2, .slice pa2 ps2.length pc2]] w fun e w' => e = .returned (.bool (sameS ⟨K, N, T, .mk k n t fs r ls ps⟩ ⟨K2, N2, T2, .mk k2 n2 t2 fs2 r2 ls2 ps2⟩)) ∧ Below w.heap.size w w' := by
  obtain ⟨W0, hW0⟩ : ∃ W0, W0 = (w.alloc (.cells #[.int .i64 K, .int .i64 N, .int .i64 T, .int .i64 k, .int .u64 (n : Int), .string (strB t), .slice fa fs.length fc, .string (strB r), .slice la ls.length lc, .slice pa ps.length pc] 62)).alloc (.cells #[.int .i64 K2, .int .i64 N2, .int .i64 T2, .int .i64 k2, .int .u64 (n2 : Int), .string (strB t2), .slice fa2 fs2.length fc2, .string (strB r2), .slice la2 ls2.length lc2, .slice pa2 ps2.length pc2] 62) := ⟨_, rfl⟩
  obtain ⟨g, hg⟩ : ∃ g, g = w.heap.size := ⟨_, rfl⟩
  have hb0 : Below w.heap.size w W0 := by rw [hW0]; exact ((Below.refl _ _).alloc (Nat.le_refl _) _).alloc (by simp) _
  have hcx : CellsAt W0 g 62 #[.int .i64 K, .int .i64 N, .int .i64 T, .int .i64 k, .int .u64 (n : Int), .string (strB t), .slice fa fs.length fc, .string (strB r), .slice la ls.length lc, .slice pa ps.length pc] := by rw [hW0, hg]; exact (CellsAt.new w _ _).stays ((Below.refl _ _).alloc (Nat.le_refl _) _)
  have hcy : CellsAt W0 (g + 1) 62 #[.int .i64 K2, .int .i64 N2, .int .i64 T2, .int .i64 k2, .int .u64 (n2 : Int), .string (strB t2), .slice fa2 fs2.length fc2, .string (strB r2), .slice la2 ls2.length lc2, .slice pa2 ps2.length pc2] := by
    have := CellsAt.new (w.alloc (.cells #[.int .i64 K, .int .i64 N, .int .i64 T, .int .i64 k, .int .u64 (n : Int), .string (strB t), .slice fa fs.length fc, .string (strB r), .slice la ls.length lc, .slice pa ps.length pc] 62)) #[.int .i64 K2, .int .i64 N2, .int .i64 T2, .int .i64 k2, .int .u64 (n2 : Int), .string (strB t2), .slice fa2 fs2.length fc2, .string (strB r2), .slice la2 ls2.length lc2, .slice pa2 ps2.length pc2] 62
    rw [hW0, hg]
    simpa using this
  have HC : Hid (∀ W, Below w.heap.size w W → Calls _ _ _ W _) := fun W hb => same_lit (hr.stays hb) (hr2.stays hb)
  have c0 := hcx.cell 0 (v := .int .i64 K) rfl
  have c1 := hcx.cell 1 (v := .int .i64 N) rfl
  have c2 := hcx.cell 2 (v := .int .i64 T) rfl
  have c3 := hcx.cell 3 (v := .int .i64 k) rfl
  have c4 := hcx.cell 4 (v := .int .u64 (n : Int)) rfl
  have c5 := hcx.cell 5 (v := .string (strB t)) rfl
  have c6 := hcx.cell 6 (v := .slice fa fs.length fc) rfl
  have c7 := hcx.cell 7 (v := .string (strB r)) rfl
  have c8 := hcx.cell 8 (v := .slice la ls.length lc) rfl
  have c9 := hcx.cell 9 (v := .slice pa ps.length pc) rfl
  have d0 := hcy.cell 0 (v := .int .i64 K2) rfl
  have d1 := hcy.cell 1 (v := .int .i64 N2) rfl
  have d2 := hcy.cell 2 (v := .int .i64 T2) rfl
  have d3 := hcy.cell 3 (v := .int .i64 k2) rfl
  have d4 := hcy.cell 4 (v := .int .u64 (n2 : Int)) rfl
  have d5 := hcy.cell 5 (v := .string (strB t2)) rfl
  have d6 := hcy.cell 6 (v := .slice fa2 fs2.length fc2) rfl
  have d7 := hcy.cell 7 (v := .string (strB r2)) rfl
  have d8 := hcy.cell 8 (v := .slice la2 ls2.length lc2) rfl
  have d9 := hcy.cell 9 (v := .slice pa2 ps2.length pc2) rfl
  have HZ : Hid (sameS ⟨K, N, T, .mk k n t fs r ls ps⟩ ⟨K2, N2, T2, .mk k2 n2 t2 fs2 r2 ls2 ps2⟩ = (K == K2 && (N == N2 && (T == T2 && (cmpV (.mk k n t fs r ls ps) (.mk k2 n2 t2 fs2 r2 ls2 ps2) == 0))))) := rfl
  have HB := Lib.hid hb0
  have HW := Lib.hid hW0
  have HG := Lib.hid hg
  clear hr hr2 hW0 hg hb0 hcx hcy
  generalize sameS ⟨K, N, T, .mk k n t fs r ls ps⟩ ⟨K2, N2, T2, .mk k2 n2 t2 fs2 r2 ls2 ps2⟩ = SS at HZ ⊢
  generalize (cmpV (.mk k n t fs r ls ps) (.mk k2 n2 t2 fs2 r2 ls2 ps2) == 0) = CB at HC HZ
  obtain ⟨b1, q1⟩ : ∃ b, (K == K2) = b := ⟨_, rfl⟩
  obtain ⟨b2, q2⟩ : ∃ b, (N == N2) = b := ⟨_, rfl⟩
  obtain ⟨b3, q3⟩ : ∃ b, (T == T2) = b := ⟨_, rfl⟩
  rw [q1, q2, q3] at HZ
  go_enter Tryz.func32, Tryz.ntmps32
  go_upto_region 1 with fail
  rw [← HW.out, ← HG.out]
  clear HW HG
  cases b1 with
  | false =>
    go_wp2_with fail
    go_ret
    exact ⟨congrArg (fun z => Ending.returned (Value.bool z)) (by rw [HZ.out]; rfl), HB.out⟩
  | true =>
    cases b2 with
    | false =>
      go_wp2_with fail
      go_ret
      exact ⟨congrArg (fun z => Ending.returned (Value.bool z)) (by rw [HZ.out]; rfl), HB.out⟩
    | true =>
      cases b3 with
      | false =>
        go_wp2_with fail
        go_ret
        exact ⟨congrArg (fun z => Ending.returned (Value.bool z)) (by rw [HZ.out]; rfl), HB.out⟩
      | true =>
        go_wp2_with fail
        refine (HC.out _ HB.out).mono ?_
        rintro e w1 ⟨rfl, hb1⟩
        have HB1 := Lib.hid (HB.out.trans (hb1.mono HB.out.size))
        clear HC HB hb1 c0 c1 c2 c3 c4 c5 c6 c7 c8 c9 d0 d1 d2 d3 d4 d5 d6 d7 d8 d9
        go_wp2_with fail
        go_ret
        exact ⟨congrArg (fun z => Ending.returned (Value.bool z)) (by rw [HZ.out]; rfl), HB1.out⟩
end
section
variable {S S2 : Nat → Prop} {w : World} {a a2 : Option Addr} {c c2 : Nat} {p q : List SQ}
set_option maxRecDepth 100000 in
set_option maxHeartbeats 8000000 in
theorem equalStep_any (hr : PathR S w (.slice a p.length c) p) (hr2 : PathR S2 w (.slice a2 q.length c2) q) :
    Calls Tryz.prog 31 #[.slice a p.length c, .slice a2 q.length c2, .func (.func 32) #[] #[]] w fun e w' => e = .returned (.bool (sameQ p q)) ∧ Below w.heap.size w w' := by
  have hll := hr.len
  have hl2 := hr2.len
  unfold maxLen at hll hl2
  by_cases hne : p.length = q.length
  · have HQ : Hid (q.length = p.length) := hne.symm
    rw [← hne] at hr2 ⊢
    have HR : Hid (∀ W, Below w.heap.size w W → PathR S W (.slice a p.length c) p ∧ PathR S2 W (.slice a2 q.length c2) q) := fun W hb => ⟨hr.stays hb, by rw [HQ.out]; exact hr2.stays hb⟩
    have HS0 : Hid (sameQ (p.drop 0) (q.drop 0) = sameQ p q) := rfl
    clear hr hr2 hl2 hne
    go_enter Tryz.func31, Tryz.ntmps31
    go_wp2_with fail
    go_loopw [17] (fun i wr => ∃ (m : Nat), m ≤ p.length ∧ i = .int .i64 m ∧ Hid (sameQ (p.drop m) (q.drop m) = sameQ p q) ∧ Below w.heap.size w wr) (fun i _ => p.length - (intOf i).toNat)
    case atStart => exact ⟨0, Nat.zero_le _, rfl, HS0.out, Below.refl _ _⟩
    case round =>
      clear HS0
      obtain ⟨m, hm, rfl, HI, hbe⟩ := hrel
      by_cases h1 : m < p.length
      · obtain ⟨⟨⟨K, N, T, ⟨k', n', t', fs', r', ls', ps'⟩⟩, ⟨fa', fc', la', lc', pa', pc'⟩⟩, hq⟩ : ∃ x, p[m]? = some x := ⟨_, List.getElem?_eq_getElem h1⟩
        obtain ⟨⟨⟨K2, N2, T2, ⟨k2, n2, t2, fs2, r2, ls2, ps2⟩⟩, ⟨fa2, fc2, la2, lc2, pa2, pc2⟩⟩, hq2⟩ : ∃ x, q[m]? = some x := ⟨_, List.getElem?_eq_getElem (by rw [HQ.out]; exact h1)⟩
        obtain ⟨hpr, hpr2⟩ := HR.out wr hbe
        obtain ⟨b, o, rfl, hrx, x0, x1, x2, c0, c1, c2, c3, c4, c5, c6⟩ := hpr.at hq
        obtain ⟨b', o', rfl, hry, y0, y1, y2, d0, d1, d2, d3, d4, d5, d6⟩ := hpr2.at hq2
        have hI := HI.out
        rw [sameQ_drop hq hq2] at hI
        have HC : Hid (∀ W, Below wr.heap.size wr W → Calls Tryz.prog 32 #[.agg #[.int .i64 K, .int .i64 N, .int .i64 T, .int .i64 k', .int .u64 (n' : Int), .string (strB t'), .slice fa' fs'.length fc', .string (strB r'), .slice la' ls'.length lc', .slice pa' ps'.length pc'], .agg #[.int .i64 K2, .int .i64 N2, .int .i64 T2, .int .i64 k2, .int .u64 (n2 : Int), .string (strB t2), .slice fa2 fs2.length fc2, .string (strB r2), .slice la2 ls2.length lc2, .slice pa2 ps2.length pc2]] W fun e w' => e = .returned (.bool (sameS ⟨K, N, T, .mk k' n' t' fs' r' ls' ps'⟩ ⟨K2, N2, T2, .mk k2 n2 t2 fs2 r2 ls2 ps2⟩)) ∧ Below W.heap.size W w') := fun W h => sstep_lit (hrx.2.stays h) (hry.2.stays h)
        simp only at hI
        generalize sameS ⟨K, N, T, .mk k' n' t' fs' r' ls' ps'⟩ ⟨K2, N2, T2, .mk k2 n2 t2 fs2 r2 ls2 ps2⟩ = R at HC hI
        have HI2 := Lib.hid hI
        have hbb : b < wr.heap.size := World.block_lt_of_cell? wr _ x0
        have hbb' : b' < wr.heap.size := World.block_lt_of_cell? wr _ y0
        have HBW : Hid (∀ x y, Below wr.heap.size wr ((wr.alloc (.cells x 62)).alloc (.cells y 62))) := fun x y => ((Below.refl _ _).alloc (Nat.le_refl _) _).alloc (by simp) _
        clear hI HI hrx hry hq hq2 hpr hpr2
        go_wp2_with fail
        refine (HC.out _ (HBW.out _ _)).mono ?_
        rintro e w2 ⟨rfl, hb2⟩
        have hbe2 : Below w.heap.size w w2 := (hbe.trans ((HBW.out _ _).mono hbe.size)).trans (hb2.mono (by simp; have := hbe.size; omega))
        clear HC HBW hb2 x0 x1 x2 c0 c1 c2 c3 c4 c5 c6 y0 y1 y2 d0 d1 d2 d3 d4 d5 d6
        cases R with
        | true =>
          go_wp2_with fail
          go_roundw
          case rel => exact ⟨m + 1, h1, by go_num, by show _ = _; simpa using HI2.out, hbe2⟩
          case measure => simp only [intOf]; omega
        | false =>
          have HZ : Hid (false = sameQ p q) := by have := HI2.out; rw [Bool.false_and] at this; exact this
          go_wp2_with fail
          go_ret
          exact ⟨congrArg (fun z => Ending.returned (Value.bool z)) HZ.out, hbe2⟩
      · have HZ : Hid (true = sameQ p q) := by show _ = _; rw [← HI.out, List.drop_of_length_le (by omega), List.drop_of_length_le (by rw [HQ.out]; omega)]; rfl
        clear HI
        go_wp2_with fail
        go_ret
        exact ⟨congrArg (fun z => Ending.returned (Value.bool z)) HZ.out, hbe⟩
  · have HZ : Hid (false = sameQ p q) := by show _ = _; unfold sameQ; rw [sameP_len _ _ (by simpa using hne)]
    have t0 : ((p.length : Int) != (q.length : Int)) = true := bne_iff_ne.2 (by omega)
    clear hr hr2 hne
    go_enter Tryz.func31, Tryz.ntmps31
    go_wp2_with fail
    go_ret
    exact ⟨congrArg (fun z => Ending.returned (Value.bool z)) HZ.out, Below.refl _ _⟩
set_option maxRecDepth 100000 in
theorem psame_any (hr : PathR S w (.slice a p.length c) p) (hr2 : PathR S2 w (.slice a2 q.length c2) q) :
    Calls Tryz.prog 11 #[.slice a p.length c, .slice a2 q.length c2] w fun e w' => e = .returned (.bool (sameQ p q)) ∧ Below w.heap.size w w' := by
  have HC := Lib.hid (equalStep_any hr hr2)
  clear hr hr2
  generalize sameQ p q = R at HC ⊢
  go_enter Tryz.func11, Tryz.ntmps11
  go_wp2_with fail
  refine HC.out.mono ?_
  rintro e w1 ⟨rfl, hb1⟩
  go_wp2_with fail
  go_ret
  exact ⟨rfl, hb1⟩
end
end Go.Proofs.YtcjflglpkpkflaaGreatDoor
namespace Go.Proofs.YtcjflglpkpkflaaGreatDoor
set_option linter.unusedVariables false
mutual
def allV : V → List (List PS)
  | .mk k _ _ fs _ ls ps => if k = 0 then [] else [] :: (allF fs ++ (allP ps ++ allL ls 0))
def allF : List (Int × V) → List (List PS)
  | [] => []
  | (n, v) :: r => (allV v).map (fun q => (⟨1, n, 0, V0⟩ : PS) :: q) ++ allF r
def allP : List (V × V) → List (List PS)
  | [] => []
  | (a, b) :: r => (allV b).map (fun q => (⟨2, 0, 0, a⟩ : PS) :: q) ++ allP r
def allL : List V → Int → List (List PS)
  | [], _ => []
  | v :: r, i => (allV v).map (fun q => (⟨3, i, 0, V0⟩ : PS) :: q) ++ allL r (i + 1)
end
/-- the steps to what lies directly within a value, with what lies there -/
def kidsF (fs : List (Int × V)) : List (PS × V) := fs.map fun p => (⟨1, p.1, 0, V0⟩, p.2)
def kidsP (ps : List (V × V)) : List (PS × V) := ps.map fun p => (⟨2, 0, 0, p.1⟩, p.2)
def kidsL : List V → Int → List (PS × V)
  | [], _ => []
  | v :: r, i => (⟨3, i, 0, V0⟩, v) :: kidsL r (i + 1)
def kidsV (v : V) : List (PS × V) := kidsF v.fs ++ (kidsP v.ps ++ kidsL v.ls 0)
def seeK (l : List (PS × V)) : List (List PS) := l.flatMap fun x => (allV x.2).map (fun q => x.1 :: q)
theorem seeK_cons (x : PS × V) (l : List (PS × V)) : seeK (x :: l) = (allV x.2).map (fun q => x.1 :: q) ++ seeK l := rfl
theorem seeK_app (l m : List (PS × V)) : seeK (l ++ m) = seeK l ++ seeK m := by unfold seeK; rw [List.flatMap_append]
theorem allF_eq : ∀ l, allF l = seeK (kidsF l)
  | [] => rfl
  | (n, v) :: r => by rw [allF, allF_eq r]; rfl
theorem allP_eq : ∀ l, allP l = seeK (kidsP l)
  | [] => rfl
  | (a, b) :: r => by rw [allP, allP_eq r]; rfl
theorem allL_eq : ∀ l i, allL l i = seeK (kidsL l i)
  | [], _ => rfl
  | v :: r, i => by rw [allL, allL_eq r (i + 1)]; rfl
theorem allV_eq (v : V) : allV v = if v.k = 0 then [] else [] :: seeK (kidsV v) := by
  cases v with
  | mk k n t fs r ls ps =>
    rw [allV, allF_eq, allP_eq, allL_eq, ← seeK_app, ← seeK_app]
    rfl
mutual
/-- each text within is short -/
def shortV : V → Bool
  | .mk _ _ t fs _ ls ps => decide (t.length ≤ 400) && (shortF fs && (shortL ls && shortP ps))
def shortF : List (Int × V) → Bool
  | [] => true
  | (_, v) :: r => shortV v && shortF r
def shortL : List V → Bool
  | [] => true
  | v :: r => shortV v && shortL r
def shortP : List (V × V) → Bool
  | [] => true
  | (a, b) :: r => shortV a && (shortV b && shortP r)
end
theorem shortV_eq (v : V) : shortV v = (decide (v.t.length ≤ 400) && (shortF v.fs && (shortL v.ls && shortP v.ps))) := by cases v; rw [shortV]; rfl
theorem shortF_mem : ∀ {l : List (Int × V)}, shortF l = true → ∀ p ∈ l, shortV p.2 = true
  | (n, v) :: r, h, p, hp => by
    rw [shortF, Bool.and_eq_true] at h
    rcases List.mem_cons.1 hp with rfl | hp
    · exact h.1
    · exact shortF_mem h.2 p hp
theorem shortL_mem : ∀ {l : List V}, shortL l = true → ∀ p ∈ l, shortV p = true
  | v :: r, h, p, hp => by
    rw [shortL, Bool.and_eq_true] at h
    rcases List.mem_cons.1 hp with rfl | hp
    · exact h.1
    · exact shortL_mem h.2 p hp
theorem shortP_mem : ∀ {l : List (V × V)}, shortP l = true → ∀ p ∈ l, shortV p.1 = true ∧ shortV p.2 = true
  | (a, b) :: r, h, p, hp => by
    rw [shortP, Bool.and_eq_true, Bool.and_eq_true] at h
    rcases List.mem_cons.1 hp with rfl | hp
    · exact ⟨h.1, h.2.1⟩
    · exact shortP_mem h.2.2 p hp
mutual
theorem great_short : ∀ (v : V) (left deep : Int), 0 ≤ left → 0 ≤ greatV v left deep → shortV v = true
  | .mk k n t fs r ls ps, left, deep => by
    intro h h0
    simp only [greatV] at h0
    split at h0
    · omega
    · rename_i hc
      have b1 := greatF_bd fs (left - 1) (deep - 1) (by omega)
      have b2 := greatL_bd ls _ (deep - 1) b1.1
      have b3 := greatP_bd ps _ (deep - 1) b2.1
      rw [shortV, great_shortF fs (left - 1) (deep - 1) (by omega) (by omega), great_shortL ls _ (deep - 1) b1.1 (by omega), great_shortP ps _ (deep - 1) b2.1 h0]
      simp
      omega
theorem great_shortF : ∀ (l : List (Int × V)) (left deep : Int), -1 ≤ left → 0 ≤ greatF l left deep → shortF l = true
  | [], left, deep => by intro h h0; rw [shortF]
  | (n, v) :: r, left, deep => by
    intro h h0
    simp only [greatF] at h0
    obtain ⟨l1, hl1⟩ : ∃ l1, l1 = (if 0 ≤ left then greatV v left deep else left) := ⟨_, rfl⟩
    rw [← hl1] at h0
    have b0 : -1 ≤ l1 := by
      rw [hl1]; split
      · rename_i hl; exact (greatV_bd v left deep hl).1
      · exact h
    have b1 := greatF_bd r l1 deep b0
    have p1 : 0 ≤ l1 := by omega
    have p0 : 0 ≤ left := by
      by_cases e : 0 ≤ left
      · exact e
      · rw [if_neg e] at hl1; omega
    rw [if_pos p0] at hl1
    rw [shortF, great_shortF r l1 deep b0 h0, great_short v left deep p0 (by omega)]
    rfl
theorem great_shortL : ∀ (l : List V) (left deep : Int), -1 ≤ left → 0 ≤ greatL l left deep → shortL l = true
  | [], left, deep => by intro h h0; rw [shortL]
  | v :: r, left, deep => by
    intro h h0
    simp only [greatL] at h0
    obtain ⟨l1, hl1⟩ : ∃ l1, l1 = (if 0 ≤ left then greatV v left deep else left) := ⟨_, rfl⟩
    rw [← hl1] at h0
    have b0 : -1 ≤ l1 := by
      rw [hl1]; split
      · rename_i hl; exact (greatV_bd v left deep hl).1
      · exact h
    have b1 := greatL_bd r l1 deep b0
    have p1 : 0 ≤ l1 := by omega
    have p0 : 0 ≤ left := by
      by_cases e : 0 ≤ left
      · exact e
      · rw [if_neg e] at hl1; omega
    rw [if_pos p0] at hl1
    rw [shortL, great_shortL r l1 deep b0 h0, great_short v left deep p0 (by omega)]
    rfl
theorem great_shortP : ∀ (l : List (V × V)) (left deep : Int), -1 ≤ left → 0 ≤ greatP l left deep → shortP l = true
  | [], left, deep => by intro h h0; rw [shortP]
  | (a, b) :: r, left, deep => by
    intro h h0
    simp only [greatP] at h0
    obtain ⟨l1, hl1⟩ : ∃ l1, l1 = (if 0 ≤ left then greatV a left deep else left) := ⟨_, rfl⟩
    rw [← hl1] at h0
    have b0 : -1 ≤ l1 := by
      rw [hl1]; split
      · rename_i hl; exact (greatV_bd a left deep hl).1
      · exact h
    obtain ⟨l2, hl2⟩ : ∃ l2, l2 = (if 0 ≤ l1 then greatV b l1 deep else l1) := ⟨_, rfl⟩
    rw [← hl2] at h0
    have b2 : -1 ≤ l2 ∧ l2 ≤ l1 := by
      rw [hl2]; split
      · rename_i hl; exact greatV_bd b l1 deep hl
      · exact ⟨b0, Int.le_refl _⟩
    have b1 := greatP_bd r l2 deep b2.1
    have p1 : 0 ≤ l1 := by omega
    have p0 : 0 ≤ left := by
      by_cases e : 0 ≤ left
      · exact e
      · rw [if_neg e] at hl1; omega
    rw [if_pos p0] at hl1
    rw [if_pos p1] at hl2
    rw [shortP, great_shortP r l2 deep b2.1 h0, great_short a left deep p0 (by omega), great_short b l1 deep p1 (by omega)]
    rfl
end
/-! ### what a right value's kids are -/
theorem findA_rise {α β : Type} {c : α → Int} {f : α → β} {d : β} {R : α → α → Prop} : ∀ (l : List α) (p : α), p ∈ l → l.Pairwise R → (∀ y, R y p → c y ≠ 0) → c p = 0 → findA c f d l = f p
  | y :: r, p, hp, hr, hc, h0 => by
    rw [findA]
    rcases List.mem_cons.1 hp with rfl | hp
    · rw [if_pos h0]
    · rw [if_neg (hc y ((List.pairwise_cons.1 hr).1 p hp)), findA_rise r p hp (List.pairwise_cons.1 hr).2 hc h0]
theorem rightF_all : ∀ {l : List (Int × V)} {last : Int}, rightF last l = true → ∀ p ∈ l, last < p.1 ∧ p.1 ≤ 536870911 ∧ p.2.k ≠ 0 ∧ rightV p.2 = true
  | (n, v) :: r, last, h, p, hp => by
    simp only [rightF, Bool.and_eq_true, decide_eq_true_eq] at h
    rcases List.mem_cons.1 hp with rfl | hp
    · exact ⟨h.1.1.1.1, h.1.1.1.2, by simpa using h.1.1.2, h.1.2⟩
    · have h2 := rightF_all h.2 p hp
      exact ⟨by have := h.1.1.1.1; omega, h2.2⟩
theorem rightP_all : ∀ {l : List (V × V)} {last : Option V}, rightP last l = true → ∀ p ∈ l, p.1.k ≤ 2 ∧ singleK p.1.k = true ∧ rightV p.1 = true ∧ singleK p.2.k = true ∧ rightV p.2 = true
  | (a, b) :: r, last, h, p, hp => by
    simp only [rightP, Bool.and_eq_true, decide_eq_true_eq] at h
    rcases List.mem_cons.1 hp with rfl | hp
    · exact ⟨h.1.1.1.1.1.1, h.1.1.1.1.1.2, h.1.1.1.1.2, h.1.1.1.2, h.1.1.2⟩
    · exact rightP_all h.2 p hp
theorem single_k {k : Int} (h : singleK k = true) : k ≠ 0 := by
  intro e; rw [e] at h; exact absurd h (by decide)
theorem V0_no : noB V0 = true := by decide +kernel
theorem kidsL_mem : ∀ {l : List V} {i : Int} {x : PS × V}, x ∈ kidsL l i → ∃ m : Nat, m < l.length ∧ x.1 = ⟨3, i + m, 0, V0⟩ ∧ l[m]? = some x.2
  | v :: r, i, x, h => by
    rw [kidsL] at h
    rcases List.mem_cons.1 h with rfl | h
    · exact ⟨0, by simp, by simp, rfl⟩
    · obtain ⟨m, h1, h2, h3⟩ := kidsL_mem h
      exact ⟨m + 1, by simpa using h1, by rw [h2]; congr 1; omega, by simpa using h3⟩
/-- a kid stands where its step leads; it is right, and something; its step is right -/
theorem kid_get {v : V} (h : rightV v = true) (hs : shortV v = true) (hw : wV v ≤ 1000000) {x : PS × V} (hx : x ∈ kidsV v) :
    getS x.1 v = (x.2, true) ∧ x.2.k ≠ 0 ∧ rightV x.2 = true ∧ shortV x.2 = true ∧ stepB x.1 = true := by
  obtain ⟨hshape, hF, hL, hP⟩ := (rightV_iff v).1 h
  rw [shortV_eq, Bool.and_eq_true, Bool.and_eq_true, Bool.and_eq_true] at hs
  unfold kidsV at hx
  rcases List.mem_append.1 hx with hx | hx
  · obtain ⟨p, hp, rfl⟩ := List.mem_map.1 hx
    have hk : v.k = 3 := by
      by_cases e : v.k = 3
      · exact e
      · have := (hshape.2.2.2.1 e).1; rw [this] at hp; cases hp
    obtain ⟨h1, h2, h3, h4⟩ := rightF_all hF p hp
    have hg : getV v p.1 = p.2 := by
      unfold getV
      rw [if_pos hk]
      exact findA_rise v.fs p hp (rightF_rise v.fs 0 hF).2 (fun y hy => by unfold fieldC sgnI; rw [if_pos hy]; decide) (by unfold fieldC sgnI; rw [if_neg (by omega), if_neg (by omega)])
    refine ⟨?_, h3, h4, shortF_mem hs.2.1 p hp, ?_⟩
    · show getS ⟨1, p.1, 0, V0⟩ v = _
      unfold getS
      rw [if_pos rfl]
      show (getV v p.1, (getV v p.1).k != 0) = _
      rw [hg, show (p.2.k != 0) = true from by simpa using h3]
    · show stepB ⟨1, p.1, 0, V0⟩ = true
      unfold stepB
      rw [if_pos (.inl rfl)]
      show (inB p.1 0 1073741824 && (0 : Int) == 0 && noB V0) = true
      rw [V0_no]
      unfold inB
      rw [decide_eq_true (by omega), decide_eq_true (by omega)]
      rfl
  · rcases List.mem_append.1 hx with hx | hx
    · obtain ⟨p, hp, rfl⟩ := List.mem_map.1 hx
      have hk : v.k = 5 := hshape.2.2.2.2.2.2 (fun e => by rw [e] at hp; cases hp)
      obtain ⟨h1, h2, h3, h4, h5⟩ := rightP_all hP p hp
      have hg : findV v p.1 = p.2 := by
        unfold findV
        rw [if_pos hk]
        exact findA_rise v.ps p hp (rightP_rise v.ps none hP).2 (fun y hy => by unfold pairC; omega) (by unfold pairC; exact cmpV_self _)
      refine ⟨?_, single_k h4, h5, (shortP_mem hs.2.2.2 p hp).2, ?_⟩
      · show getS ⟨2, 0, 0, p.1⟩ v = _
        unfold getS
        rw [if_neg (show ¬(2 : Int) = 1 by decide), if_pos rfl]
        show (findV v p.1, (findV v p.1).k != 0) = _
        rw [hg, show (p.2.k != 0) = true from by simpa using single_k h4]
      · show stepB ⟨2, 0, 0, p.1⟩ = true
        unfold stepB
        rw [if_neg (show ¬((2 : Int) = 1 ∨ (2 : Int) = 3 ∨ (2 : Int) = 6) by decide), if_neg (show ¬(2 : Int) = 4 by decide), if_neg (show ¬(2 : Int) = 5 by decide), if_pos rfl]
        have ht := (shortP_mem hs.2.2.2 p hp).1
        rw [shortV_eq, Bool.and_eq_true, decide_eq_true_eq] at ht
        show ((0 : Int) == 0 && (0 : Int) == 0 && keyB p.1) = true
        unfold keyB
        rw [h3, decide_eq_true (show p.1.t.length ≤ 4096 by have := ht.1; omega)]
        have hkk : p.1.k = 1 ∨ p.1.k = 2 := by unfold singleK at h2; simp only [Bool.or_eq_true, beq_iff_eq] at h2; omega
        rcases hkk with e | e <;> rw [e] <;> rfl
    · obtain ⟨m, hm, hx1, hx2⟩ := kidsL_mem hx
      obtain ⟨x1, x2⟩ := x
      simp only at hx1 hx2
      subst hx1
      have hmem := List.mem_of_getElem? hx2
      have hk : v.k = 4 := hshape.2.2.2.2.1.2 (fun e => by rw [e] at hmem; cases hmem)
      obtain ⟨h4, h5⟩ := rightL_to hL x2 hmem
      refine ⟨?_, single_k h4, h5, shortL_mem hs.2.2.1 x2 hmem, ?_⟩
      · rw [getS_3 ⟨hk, by omega, by omega⟩]
        rw [show ((0 : Int) + (m : Int)).toNat = m by omega, hx2]; rfl
      · have hl : v.ls.length ≤ 1000000 := by have := wL_len v.ls; rw [wV_eq] at hw; omega
        show stepB ⟨3, 0 + m, 0, V0⟩ = true
        unfold stepB
        rw [if_pos (.inr (.inl rfl))]
        show (inB (0 + m) 0 1073741824 && (0 : Int) == 0 && noB V0) = true
        rw [V0_no]
        unfold inB
        rw [decide_eq_true (by omega), decide_eq_true (by omega)]
        rfl
/-! ### each path leads somewhere, and is right -/
theorem getR_kid {v x : V} {s : PS} {q : List PS} (h : getS s v = (x, true)) (hx : x.k ≠ 0) : getR v (s :: q) = getR x q := by
  rw [getR, h]
  simp only [if_true]
  by_cases hq : q = []
  · rw [if_pos hq, hq, getR]
    rw [show (x.k != 0) = true from by simpa using hx]
  · rw [if_neg hq, if_neg hx]
theorem kid_w {v : V} {x : PS × V} (hx : x ∈ kidsV v) : wV x.2 < wV v := by
  rw [wV_eq v]
  unfold kidsV at hx
  have hF : ∀ (l : List (Int × V)), ∀ p ∈ l, wV p.2 ≤ wF l := by
    intro l
    induction l with
    | nil => intro p hp; cases hp
    | cons y r ih =>
      intro p hp
      obtain ⟨n, u⟩ := y
      rw [wF]
      rcases List.mem_cons.1 hp with rfl | hp
      · simp only; omega
      · have := ih p hp; omega
  have hP : ∀ (l : List (V × V)), ∀ p ∈ l, wV p.2 ≤ wP l := by
    intro l
    induction l with
    | nil => intro p hp; cases hp
    | cons y r ih =>
      intro p hp
      obtain ⟨n, u⟩ := y
      rw [wP]
      rcases List.mem_cons.1 hp with rfl | hp
      · simp only; omega
      · have := ih p hp; omega
  have hL : ∀ (l : List V), ∀ p ∈ l, wV p ≤ wL l := by
    intro l
    induction l with
    | nil => intro p hp; cases hp
    | cons y r ih =>
      intro p hp
      rw [wL]
      rcases List.mem_cons.1 hp with rfl | hp
      · omega
      · have := ih p hp; omega
  rcases List.mem_append.1 hx with hx | hx
  · obtain ⟨p, hp, rfl⟩ := List.mem_map.1 hx
    have := hF _ p hp
    simp only; omega
  · rcases List.mem_append.1 hx with hx | hx
    · obtain ⟨p, hp, rfl⟩ := List.mem_map.1 hx
      have := hP _ p hp
      simp only; omega
    · obtain ⟨m, hm, hx1, hx2⟩ := kidsL_mem hx
      have := hL _ x.2 (List.mem_of_getElem? hx2)
      omega
theorem mem_allV {v : V} {p : List PS} (h : p ∈ allV v) : v.k ≠ 0 ∧ (p = [] ∨ ∃ x ∈ kidsV v, ∃ q ∈ allV x.2, p = x.1 :: q) := by
  rw [allV_eq] at h
  by_cases h0 : v.k = 0
  · rw [if_pos h0] at h; cases h
  · rw [if_neg h0] at h
    refine ⟨h0, ?_⟩
    rcases List.mem_cons.1 h with h | h
    · exact .inl h
    · obtain ⟨x, hx, hq⟩ := List.mem_flatMap.1 h
      obtain ⟨q, hq2, rfl⟩ := List.mem_map.1 hq
      exact .inr ⟨x, hx, q, hq2, rfl⟩
/-- what stands at each path: something; the path is right -/
theorem all_get : ∀ (m : Nat) (v : V), wV v < m → m ≤ 1000000 → rightV v = true → shortV v = true → ∀ p ∈ allV v, (getR v p).2 = true ∧ (getR v p).1.k ≠ 0 ∧ pathB p = true ∧ p.length ≤ wV v
  | 0, v, h, _, _, _, _, _ => by omega
  | m + 1, v, h, hm, hr, hs, p, hp => by
    obtain ⟨h0, rfl | ⟨x, hx, q, hq, rfl⟩⟩ := mem_allV hp
    · refine ⟨?_, ?_, rfl, Nat.zero_le _⟩
      · rw [getR]; simpa using h0
      · rw [getR]; exact h0
    · obtain ⟨k1, k2, k3, k4, k5⟩ := kid_get hr hs (by omega) hx
      have hwx := kid_w hx
      obtain ⟨i1, i2, i3, i4⟩ := all_get m x.2 (by omega) (by omega) k3 k4 q hq
      rw [getR_kid k1 k2]
      refine ⟨i1, i2, ?_, ?_⟩
      · show (stepB x.1 && pathB q) = true
        rw [k5, i3]; rfl
      · rw [List.length_cons]; omega
/-! ### no path is the beginning of an earlier one -/
def beginsP : List PS → List PS → Bool
  | [], _ => true
  | _ :: _, [] => false
  | s :: p, t :: q => sameS s t && beginsP p q
theorem beginsP_take : ∀ (p q : List PS), beginsP p q = (decide (p.length ≤ q.length) && sameP p (q.take p.length))
  | [], q => by simp [beginsP, sameP]
  | s :: p, [] => by simp [beginsP]
  | s :: p, t :: q => by
    rw [beginsP, beginsP_take p q, List.length_cons, List.length_cons, List.take_succ_cons, sameP]
    by_cases h : p.length ≤ q.length
    · rw [decide_eq_true h, decide_eq_true (show p.length + 1 ≤ q.length + 1 by omega)]; simp
    · rw [decide_eq_false h, decide_eq_false (show ¬ p.length + 1 ≤ q.length + 1 by omega)]; simp
theorem kids_apart {v : V} (h : rightV v = true) : (kidsV v).Pairwise fun x y => sameS y.1 x.1 = false := by
  obtain ⟨hshape, hF, hL, hP⟩ := (rightV_iff v).1 h
  have hn : ∀ (s t : PS), s.k ≠ t.k → sameS s t = false := fun s t e => by unfold sameS; rw [show (s.k == t.k) = false from by simpa using e]; rfl
  have hn2 : ∀ (s t : PS), s.n ≠ t.n → sameS s t = false := fun s t e => by unfold sameS; rw [show (s.n == t.n) = false from by simpa using e]; simp
  have hLL : ∀ (l : List V) (i : Int), (kidsL l i).Pairwise fun x y => sameS y.1 x.1 = false := by
    intro l
    induction l with
    | nil => intro i; exact .nil
    | cons u r ih =>
      intro i
      rw [kidsL]
      refine .cons (fun y hy => ?_) (ih (i + 1))
      obtain ⟨m, _, hy1, _⟩ := kidsL_mem hy
      rw [hy1]
      exact hn2 _ _ (by simp only; omega)
  unfold kidsV
  rw [List.pairwise_append, List.pairwise_append]
  refine ⟨?_, ⟨?_, hLL _ _, ?_⟩, ?_⟩
  · unfold kidsF
    rw [List.pairwise_map]
    exact (rightF_rise v.fs 0 hF).2.imp fun {a b} hab => hn2 _ _ (by simp only; omega)
  · unfold kidsP
    rw [List.pairwise_map]
    refine (rightP_rise v.ps none hP).2.imp fun {a b} hab => ?_
    unfold sameS
    have := cmpV_swap a.1 b.1
    rw [show (cmpV b.1 a.1 == 0) = false from by simpa using (show ¬ cmpV b.1 a.1 = 0 by omega)]
    simp
  · intro x hx y hy
    obtain ⟨p, hp, rfl⟩ := List.mem_map.1 hx
    obtain ⟨m, _, hy1, _⟩ := kidsL_mem hy
    rw [hy1]
    exact hn _ _ (by simp)
  · intro x hx y hy
    obtain ⟨p, hp, rfl⟩ := List.mem_map.1 hx
    rcases List.mem_append.1 hy with hy | hy
    · obtain ⟨q, hq, rfl⟩ := List.mem_map.1 hy
      exact hn _ _ (by simp)
    · obtain ⟨m, _, hy1, _⟩ := kidsL_mem hy
      rw [hy1]
      exact hn _ _ (by simp)
theorem seeK_apart : ∀ (l : List (PS × V)), l.Pairwise (fun x y => sameS y.1 x.1 = false) → (∀ x ∈ l, (allV x.2).Pairwise fun e p => beginsP p e = false) → (seeK l).Pairwise fun e p => beginsP p e = false
  | [], _, _ => .nil
  | x :: l, h, hk => by
    rw [seeK_cons, List.pairwise_append]
    refine ⟨?_, seeK_apart l (List.pairwise_cons.1 h).2 (fun y hy => hk y (by simp [hy])), ?_⟩
    · rw [List.pairwise_map]
      exact (hk x (by simp)).imp fun {a b} hab => by rw [beginsP, hab, Bool.and_false]
    · intro e he p hp
      obtain ⟨e', _, rfl⟩ := List.mem_map.1 he
      obtain ⟨y, hy, hp⟩ := List.mem_flatMap.1 hp
      obtain ⟨p', _, rfl⟩ := List.mem_map.1 hp
      rw [beginsP, (List.pairwise_cons.1 h).1 y hy, Bool.false_and]
theorem all_apart : ∀ (m : Nat) (v : V), wV v < m → m ≤ 1000000 → rightV v = true → shortV v = true → (allV v).Pairwise fun e p => beginsP p e = false
  | 0, v, h, _, _, _ => by omega
  | m + 1, v, h, hm, hr, hs => by
    rw [allV_eq]
    split
    · exact .nil
    · refine .cons (fun p hp => ?_) (seeK_apart _ (kids_apart hr) fun x hx => ?_)
      · obtain ⟨y, hy, hp⟩ := List.mem_flatMap.1 hp
        obtain ⟨p', _, rfl⟩ := List.mem_map.1 hp
        rfl
      · obtain ⟨k1, k2, k3, k4, k5⟩ := kid_get hr hs (by omega) hx
        have := kid_w hx
        exact all_apart m x.2 (by omega) (by omega) k3 k4
/-! ### what the law's walk asks -/
mutual
theorem allV_len : ∀ v : V, (allV v).length ≤ wV v
  | .mk k n t fs r ls ps => by
    have h1 := allF_len fs
    have h2 := allP_len ps
    have h3 := allL_len ls 0
    rw [allV, wV]
    split
    · simp
    · simp only [List.length_cons, List.length_append]; omega
theorem allF_len : ∀ l : List (Int × V), (allF l).length ≤ wF l
  | [] => Nat.le_refl _
  | (n, v) :: r => by
    have h1 := allV_len v
    have h2 := allF_len r
    rw [allF, wF, List.length_append, List.length_map]; omega
theorem allP_len : ∀ l : List (V × V), (allP l).length ≤ wP l
  | [] => Nat.le_refl _
  | (a, b) :: r => by
    have h1 := allV_len b
    have h2 := allP_len r
    rw [allP, wP, List.length_append, List.length_map]; omega
theorem allL_len : ∀ (l : List V) (i : Int), (allL l i).length ≤ wL l
  | [], _ => Nat.le_refl _
  | v :: r, i => by
    have h1 := allV_len v
    have h2 := allL_len r (i + 1)
    rw [allL, wL, List.length_append, List.length_map]; omega
end
theorem allV_first {v : V} {p : List PS} (h : (allV v)[0]? = some p) : p = [] := by
  rw [allV_eq] at h
  split at h
  · cases h
  · cases h; rfl
/-- what the law asks of path i of a right value: something stands there; it is right; it is no beginning of the one ahead; the first one is its beginning -/
theorem all_law {v : V} (hr : rightV v = true) (hg : ¬ greatV v 100 30 < 0) (hw : wV v ≤ 900000) {i : Nat} {p : List PS} (hi : (allV v)[i]? = some p) :
    (getP v p).2 = true ∧ (getP v p).1.k ≠ 0 ∧ pathB p = true ∧ p.length ≤ wV v ∧ (∀ j q, i = j + 1 → (allV v)[j]? = some q → (decide (p.length ≤ q.length) && sameP p (q.take p.length)) = false) ∧ (∀ q, (allV v)[0]? = some q → (decide (q.length ≤ p.length) && sameP q (p.take q.length)) = true) := by
  have hs := great_short v 100 30 (by omega) (by omega)
  have hm := List.mem_of_getElem? hi
  obtain ⟨h1, h2, h3, h4⟩ := all_get (wV v + 1) v (by omega) (by omega) hr hs p hm
  rw [getR_getP] at h1 h2
  refine ⟨h1, h2, h3, h4, fun j q hij hq => ?_, fun q hq => ?_⟩
  · rw [← beginsP_take]
    obtain ⟨hi1, hi2⟩ := List.getElem?_eq_some_iff.1 hi
    obtain ⟨hj1, hj2⟩ := List.getElem?_eq_some_iff.1 hq
    have := List.pairwise_iff_getElem.1 (all_apart (wV v + 1) v (by omega) (by omega) hr hs) j i hj1 hi1 (by omega)
    rw [hi2, hj2] at this
    exact this
  · rw [allV_first hq]
    simp [sameP]
end Go.Proofs.YtcjflglpkpkflaaGreatDoor
namespace Go.Proofs.YtcjflglpkpkflaaGreatDoor
open Go Go.RowKit
set_option linter.unusedVariables false
set_option maxRecDepth 100000 in
set_option maxHeartbeats 2000000 in
theorem clonePath_any (v : Value) (l : List SQ) (w : World) (hr : RowS sC w v l) (hlen : l.length ≤ 1000000) :
    Calls Tryz.prog 67 #[v] w fun e w' => ∃ v', e = .returned v' ∧ OwnS 62 10 sC w.heap.size w' v' l ∧ Below w.heap.size w w' := by
  have hr' : ∀ o, RowS sC (w.alloc o) v l := fun o => RowS.stays hr ((Below.refl _ _).alloc (Nat.le_refl _) o)
  obtain ⟨a, n, c, rfl, hnil⟩ : ∃ a n c, v = .slice a n c ∧ (a = none → l = []) := by
    obtain ⟨a, c, h, _, h2⟩ := hr.shape sC_len
    refine ⟨a, _, c, h, fun h3 => ?_⟩
    cases l with
    | nil => rfl
    | cons x xs => obtain ⟨b, o, h4, _⟩ := h2 0 x rfl; rw [h3] at h4; cases h4
  clear hr
  have hown : Hid (OwnS 62 10 sC w.heap.size (w.alloc (.cells #[] 62)) (.slice (some ⟨w.heap.size, 0, none⟩) 0 0) []) := World.ownsRow_made (base := w.heap.size) (e := 62) (size := 10) w #[] 0 (Nat.le_refl _) (Nat.zero_le _) rfl
  have qT : ∀ (w : World) (a : Option Addr) (n c n' c' : Nat), (binOp .eql 23 (.slice a n c) (.slice none n' c')).run Tryz.prog w = .ok (.bool a.isNone) w := fun w a n c n' c' => Lib.run_eql_slice_nil w _ _ a n c n' c' Tryz.underlying23
  rcases a with _ | ad
  · obtain rfl := hnil rfl
    go_enter Tryz.func67, Tryz.ntmps67
    go_wp2_with fail
    go_ret
    exact ⟨_, rfl, OwnS.nil _ _, Below.refl _ _⟩
  · go_enter Tryz.func67, Tryz.ntmps67
    go_wp2_with (at_builtin; go_must (refine wpList_appendS sC_len sC_one Tryz.underlying23 infoSt rfl (by decide) hown.out (hr' _) (by simp; omega) (by simp) rfl _ _ rfl (by rfl) (by rfl) ?_))
    intro v' w' how hg _ _
    have hb : Below w.heap.size w w' := ((Below.refl _ _).alloc (Nat.le_refl _) _).grown hg (by simp) (fun k hk => by simp [Value.ownBlock] at hk; omega)
    clear hg
    go_wp2_with fail
    go_ret
    exact ⟨_, rfl, how, hb⟩
section
variable {S S2 : Nat → Prop} {w : World} {a a2 : Option Addr} {c c2 : Nat} {p q : List SQ}
set_option maxRecDepth 100000 in
set_option maxHeartbeats 4000000 in
theorem begins_any (hr : PathR S w (.slice a p.length c) p) (hr2 : PathR S2 w (.slice a2 q.length c2) q) :
    Calls Tryz.prog 23 #[.slice a p.length c, .slice a2 q.length c2] w fun e w' => e = .returned (.bool (decide (p.length ≤ q.length) && sameQ p (q.take p.length))) ∧ Below w.heap.size w w' := by
  have hll := hr.len
  have hl2 := hr2.len
  unfold maxLen at hll hl2
  by_cases hle : p.length ≤ q.length
  · have hlt : (q.take p.length).length = p.length := by rw [List.length_take]; omega
    have hr3 : PathR S2 w (.slice a2 (q.take p.length).length c2) (q.take p.length) := by
      rw [hlt]; exact ⟨RowS.upto hr2.1 p.length hle, fun x hx => hr2.2 x (List.mem_of_mem_take hx)⟩
    have hC := psame_any hr hr3
    rw [hlt] at hC
    have hcap : p.length ≤ c2 := by
      rcases hr2.1.capS with h | h
      · omega
      · rw [h] at hle; simp at hle; rw [hle]; simp
    have HZ : Hid ((decide (p.length ≤ q.length) && sameQ p (q.take p.length)) = sameQ p (q.take p.length)) := by show _ = _; rw [decide_eq_true hle]; rfl
    have HC := Lib.hid hC
    have t1 : decide ((p.length : Int) ≤ (q.length : Int)) = true := decide_eq_true (by omega)
    have hle2 : (p.length : Int) ≤ (q.length : Int) := by omega
    have hcap2 : (p.length : Int) ≤ (c2 : Int) := by omega
    clear hr hr2 hr3 hC hlt
    generalize (decide (p.length ≤ q.length) && sameQ p (q.take p.length)) = R at HZ ⊢
    generalize sameQ p (q.take p.length) = R2 at HC HZ
    obtain rfl : R = R2 := HZ.out
    clear HZ
    go_enter Tryz.func23, Tryz.ntmps23
    go_wp2_with fail
    refine HC.out.mono ?_
    rintro e w1 ⟨rfl, hb1⟩
    go_wp2_with fail
    go_ret
    exact ⟨rfl, hb1⟩
  · have HZ : Hid ((decide (p.length ≤ q.length) && sameQ p (q.take p.length)) = false) := by show _ = _; rw [decide_eq_false hle]; rfl
    have t1 : decide ((p.length : Int) ≤ (q.length : Int)) = false := decide_eq_false (by omega)
    have hle2 : ¬ (p.length : Int) ≤ (q.length : Int) := by omega
    clear hr hr2
    generalize (decide (p.length ≤ q.length) && sameQ p (q.take p.length)) = R at HZ ⊢
    obtain rfl : R = false := HZ.out
    clear HZ
    go_enter Tryz.func23, Tryz.ntmps23
    go_wp2_with fail
    go_ret
    exact ⟨rfl, Below.refl _ _⟩
set_option maxRecDepth 100000 in
set_option maxHeartbeats 16000000 in
theorem rsame17_any (hr : PathR S w (.slice a p.length c) p) (hr2 : PathR S2 w (.slice a2 q.length c2) q) :
    Calls Tryz.prog 22 #[.slice a p.length c, .slice a2 q.length c2] w fun e w' => e = .returned (.bool (sameQ p q)) ∧ Below w.heap.size w w' := by
  have hll := hr.len
  have hl2 := hr2.len
  unfold maxLen at hll hl2
  by_cases hne : p.length = q.length
  · have HQ : Hid (q.length = p.length) := hne.symm
    rw [← hne] at hr2 ⊢
    have HR : Hid (∀ W, Below w.heap.size w W → PathR S W (.slice a p.length c) p ∧ PathR S2 W (.slice a2 q.length c2) q) := fun W hb => ⟨hr.stays hb, by rw [HQ.out]; exact hr2.stays hb⟩
    have HS0 : Hid (sameQ (p.drop 0) (q.drop 0) = sameQ p q) := rfl
    clear hr hr2 hl2 hne
    go_enter Tryz.func22, Tryz.ntmps22
    go_wp2_with fail
    go_loopw [15] (fun i wr => ∃ (m : Nat), m ≤ p.length ∧ i = .int .i64 m ∧ Hid (sameQ (p.drop m) (q.drop m) = sameQ p q) ∧ Below w.heap.size w wr) (fun i _ => p.length - (intOf i).toNat)
    case atStart => exact ⟨0, Nat.zero_le _, rfl, HS0.out, Below.refl _ _⟩
    case round =>
     clear HS0
     obtain ⟨m, hm, rfl, HI, hbe⟩ := hrel
     by_cases h1 : m < p.length
     · obtain ⟨⟨⟨K, N, T, ⟨k', n', t', fs', r', ls', ps'⟩⟩, ⟨fa', fc', la', lc', pa', pc'⟩⟩, hq⟩ : ∃ x, p[m]? = some x := ⟨_, List.getElem?_eq_getElem h1⟩
       obtain ⟨⟨⟨K2, N2, T2, ⟨k2, n2, t2, fs2, r2, ls2, ps2⟩⟩, ⟨fa2, fc2, la2, lc2, pa2, pc2⟩⟩, hq2⟩ : ∃ x, q[m]? = some x := ⟨_, List.getElem?_eq_getElem (by rw [HQ.out]; exact h1)⟩
       obtain ⟨hpr, hpr2⟩ := HR.out wr hbe
       obtain ⟨b, o, rfl, hrx, x0, x1, x2, x3, x4, x5, x6, x7, x8, x9⟩ := hpr.at hq
       obtain ⟨b', o', rfl, hry, y0, y1, y2, y3, y4, y5, y6, y7, y8, y9⟩ := hpr2.at hq2
       have hI := HI.out
       rw [sameQ_drop hq hq2] at hI
       have hbb : b < wr.heap.size := World.block_lt_of_cell? wr _ x0
       have hbb' : b' < wr.heap.size := World.block_lt_of_cell? wr _ y0
       obtain ⟨W0, hW0⟩ : ∃ W0, W0 = (wr.alloc (.cells #[.int .i64 K, .int .i64 N, .int .i64 T, .int .i64 k', .int .u64 (n' : Int), .string (strB t'), .slice fa' fs'.length fc', .string (strB r'), .slice la' ls'.length lc', .slice pa' ps'.length pc'] 84)).alloc (.cells #[.int .i64 K2, .int .i64 N2, .int .i64 T2, .int .i64 k2, .int .u64 (n2 : Int), .string (strB t2), .slice fa2 fs2.length fc2, .string (strB r2), .slice la2 ls2.length lc2, .slice pa2 ps2.length pc2] 84) := ⟨_, rfl⟩
       obtain ⟨g, hg⟩ : ∃ g, g = wr.heap.size := ⟨_, rfl⟩
       have hb0 : Below wr.heap.size wr W0 := by rw [hW0]; exact ((Below.refl _ _).alloc (Nat.le_refl _) _).alloc (by simp) _
       have hcx : CellsAt W0 g 84 #[.int .i64 K, .int .i64 N, .int .i64 T, .int .i64 k', .int .u64 (n' : Int), .string (strB t'), .slice fa' fs'.length fc', .string (strB r'), .slice la' ls'.length lc', .slice pa' ps'.length pc'] := by rw [hW0, hg]; exact (CellsAt.new wr _ _).stays ((Below.refl _ _).alloc (Nat.le_refl _) _)
       have hcy : CellsAt W0 (g + 1) 84 #[.int .i64 K2, .int .i64 N2, .int .i64 T2, .int .i64 k2, .int .u64 (n2 : Int), .string (strB t2), .slice fa2 fs2.length fc2, .string (strB r2), .slice la2 ls2.length lc2, .slice pa2 ps2.length pc2] := by
         have := CellsAt.new (wr.alloc (.cells #[.int .i64 K, .int .i64 N, .int .i64 T, .int .i64 k', .int .u64 (n' : Int), .string (strB t'), .slice fa' fs'.length fc', .string (strB r'), .slice la' ls'.length lc', .slice pa' ps'.length pc'] 84)) #[.int .i64 K2, .int .i64 N2, .int .i64 T2, .int .i64 k2, .int .u64 (n2 : Int), .string (strB t2), .slice fa2 fs2.length fc2, .string (strB r2), .slice la2 ls2.length lc2, .slice pa2 ps2.length pc2] 84
         rw [hW0, hg]
         simpa using this
       have HC : Hid (∀ W, Below W0.heap.size W0 W → Calls _ _ _ W _) := fun W h => rsame_lit ((hrx.2.stays hb0).stays h) ((hry.2.stays hb0).stays h)
       have HZ : Hid (sameS ⟨K, N, T, .mk k' n' t' fs' r' ls' ps'⟩ ⟨K2, N2, T2, .mk k2 n2 t2 fs2 r2 ls2 ps2⟩ = (K == K2 && (N == N2 && (T == T2 && (cmpV (.mk k' n' t' fs' r' ls' ps') (.mk k2 n2 t2 fs2 r2 ls2 ps2) == 0))))) := rfl
       simp only at hI
       generalize sameS ⟨K, N, T, .mk k' n' t' fs' r' ls' ps'⟩ ⟨K2, N2, T2, .mk k2 n2 t2 fs2 r2 ls2 ps2⟩ = R at HZ hI
       generalize (cmpV (.mk k' n' t' fs' r' ls' ps') (.mk k2 n2 t2 fs2 r2 ls2 ps2) == 0) = CB at HC HZ
       have HI2 := Lib.hid hI
       have HB : Hid (Below w.heap.size w W0) := hbe.trans (hb0.mono hbe.size)
       have HBE := Lib.hid hbe
       have HW := Lib.hid hW0
       have HG := Lib.hid hg
       obtain ⟨b1, q1⟩ : ∃ b, (K == K2) = b := ⟨_, rfl⟩
       obtain ⟨b2, q2⟩ : ∃ b, (N == N2) = b := ⟨_, rfl⟩
       obtain ⟨b3, q3⟩ : ∃ b, (T == T2) = b := ⟨_, rfl⟩
       rw [q1, q2, q3] at HZ
       have z1 : (K != K2) = !b1 := by rw [bne, q1]
       have z2 : (N != N2) = !b2 := by rw [bne, q2]
       have z3 : (T != T2) = !b3 := by rw [bne, q3]
       have Q1 := Lib.hid q1
       have HX : Hid (CellsAt W0 g 84 #[.int .i64 K, .int .i64 N, .int .i64 T, .int .i64 k', .int .u64 (n' : Int), .string (strB t'), .slice fa' fs'.length fc', .string (strB r'), .slice la' ls'.length lc', .slice pa' ps'.length pc'] ∧ CellsAt W0 (g + 1) 84 #[.int .i64 K2, .int .i64 N2, .int .i64 T2, .int .i64 k2, .int .u64 (n2 : Int), .string (strB t2), .slice fa2 fs2.length fc2, .string (strB r2), .slice la2 ls2.length lc2, .slice pa2 ps2.length pc2]) := ⟨hcx, hcy⟩
       clear hI HI hrx hry hq hq2 hpr hpr2 hW0 hg hb0 hcx hcy q1 q2 q3
       go_upto_region 7 with fail
       rw [← HW.out, ← HG.out]
       clear HW HG x0 x1 x2 x3 x4 x5 x6 x7 x8 x9 y0 y1 y2 y3 y4 y5 y6 y7 y8 y9
       obtain ⟨hcx, hcy⟩ := HX.out
       have c0 := hcx.cell 0 (v := .int .i64 K) rfl
       have c1 := hcx.cell 1 (v := .int .i64 N) rfl
       have c2 := hcx.cell 2 (v := .int .i64 T) rfl
       have c3 := hcx.cell 3 (v := .int .i64 k') rfl
       have c4 := hcx.cell 4 (v := .int .u64 (n' : Int)) rfl
       have c5 := hcx.cell 5 (v := .string (strB t')) rfl
       have c6 := hcx.cell 6 (v := .slice fa' fs'.length fc') rfl
       have c7 := hcx.cell 7 (v := .string (strB r')) rfl
       have c8 := hcx.cell 8 (v := .slice la' ls'.length lc') rfl
       have c9 := hcx.cell 9 (v := .slice pa' ps'.length pc') rfl
       have d0 := hcy.cell 0 (v := .int .i64 K2) rfl
       have d1 := hcy.cell 1 (v := .int .i64 N2) rfl
       have d2 := hcy.cell 2 (v := .int .i64 T2) rfl
       have d3 := hcy.cell 3 (v := .int .i64 k2) rfl
       have d4 := hcy.cell 4 (v := .int .u64 (n2 : Int)) rfl
       have d5 := hcy.cell 5 (v := .string (strB t2)) rfl
       have d6 := hcy.cell 6 (v := .slice fa2 fs2.length fc2) rfl
       have d7 := hcy.cell 7 (v := .string (strB r2)) rfl
       have d8 := hcy.cell 8 (v := .slice la2 ls2.length lc2) rfl
       have d9 := hcy.cell 9 (v := .slice pa2 ps2.length pc2) rfl
       clear hcx hcy HX
       cases b1 with
       | false =>
         have HZ2 : Hid (false = sameQ p q) := by have := HI2.out; rw [HZ.out] at this; exact this
         go_wp2_with fail
         go_ret
         exact ⟨congrArg (fun z => Ending.returned (Value.bool z)) HZ2.out, HB.out⟩
       | true =>
        cases b2 with
        | false =>
         have HZ2 : Hid (false = sameQ p q) := by have := HI2.out; rw [HZ.out] at this; exact this
         go_wp2_with fail
         go_ret
         exact ⟨congrArg (fun z => Ending.returned (Value.bool z)) HZ2.out, HB.out⟩
        | true =>
         cases b3 with
         | false =>
           have HZ2 : Hid (false = sameQ p q) := by have := HI2.out; rw [HZ.out] at this; exact this
           go_wp2_with fail
           go_ret
           exact ⟨congrArg (fun z => Ending.returned (Value.bool z)) HZ2.out, HB.out⟩
         | true =>
           go_wp2_with fail
           refine (HC.out _ (Below.refl _ _)).mono ?_
           rintro e w2 ⟨rfl, hb2⟩
           have hbe2 : Below w.heap.size w w2 := HB.out.trans (hb2.mono HB.out.size)
           clear HC hb2 c0 c1 c2 c3 c4 c5 c6 c7 c8 c9 d0 d1 d2 d3 d4 d5 d6 d7 d8 d9
           cases CB with
           | true =>
             have HI3 : Hid (sameQ (p.drop (m + 1)) (q.drop (m + 1)) = sameQ p q) := by have := HI2.out; rw [HZ.out] at this; show _ = _; simpa using this
             go_wp2_with fail
             go_roundw
             case rel => exact ⟨m + 1, h1, by go_num, HI3.out, hbe2⟩
             case measure => simp only [intOf]; omega
           | false =>
             have HZ2 : Hid (false = sameQ p q) := by have := HI2.out; rw [HZ.out] at this; exact this
             go_wp2_with fail
             go_ret
             exact ⟨congrArg (fun z => Ending.returned (Value.bool z)) HZ2.out, hbe2⟩
     · have HZ : Hid (true = sameQ p q) := by show _ = _; rw [← HI.out, List.drop_of_length_le (by omega), List.drop_of_length_le (by rw [HQ.out]; omega)]; rfl
       clear HI
       go_wp2_with fail
       go_ret
       exact ⟨congrArg (fun z => Ending.returned (Value.bool z)) HZ.out, hbe⟩
  · have HZ : Hid (false = sameQ p q) := by show _ = _; unfold sameQ; rw [sameP_len _ _ (by simpa using hne)]
    have t0 : ((p.length : Int) != (q.length : Int)) = true := bne_iff_ne.2 (by omega)
    clear hr hr2 hne
    go_enter Tryz.func22, Tryz.ntmps22
    go_wp2_with fail
    go_ret
    exact ⟨congrArg (fun z => Ending.returned (Value.bool z)) HZ.out, Below.refl _ _⟩
end
end Go.Proofs.YtcjflglpkpkflaaGreatDoor
namespace Go.Proofs.YtcjflglpkpkflaaGreatDoor
open Go Go.RowKit
set_option linter.unusedVariables false
/-- a path with where its row lies -/
abbrev PR := List SQ × (Option Addr × Nat)
def prV (x : PR) : Value := .slice x.2.1 x.1.length x.2.2
def prC (x : PR) : List Value := [prV x]
theorem prC_len (x : PR) : (prC x).length = 1 := rfl
theorem prC_one (x : PR) : (prC x).all Value.oneCell' = true := rfl
/-- a path in memory, its own row's block among those that are named (where it has steps) -/
def PRep (S : Nat → Prop) (w : World) (x : PR) : Prop := PathR S w (prV x) x.1 ∧ (x.1 ≠ [] → ∀ k, (prV x).ownBlock = some k → S k)
theorem PRep.mono {S S' : Nat → Prop} {w : World} {x : PR} (h : PRep S w x) (hS : ∀ k, S k → S' k) : PRep S' w x :=
  ⟨⟨h.1.1, fun q hq => ⟨(h.1.2 q hq).1, (h.1.2 q hq).2.mono hS⟩⟩, fun hn k hk => hS k (h.2 hn k hk)⟩
theorem PRep.grew {S : Nat → Prop} {T : List Nat} {w w' : World} {x : PR} (h : PRep S w x) (hg : Grew T w w') (hT : ∀ k, S k → k ∉ T) : PRep S w' x :=
  ⟨⟨RowS.grew h.1.1 hg (fun hn k hk => hT k (h.2 hn k hk)), fun q hq => ⟨(h.1.2 q hq).1, (h.1.2 q hq).2.grew hg hT⟩⟩, h.2⟩
theorem PRep.stays {S : Nat → Prop} {w w' : World} {x : PR} (h : PRep S w x) (hb : Below w.heap.size w w') : PRep S w' x :=
  ⟨h.1.stays hb, h.2⟩
theorem PRep.lt {S : Nat → Prop} {w : World} {x : PR} (h : PRep S w x) : PRep (fun k => S k ∧ k < w.heap.size) w x :=
  ⟨⟨h.1.1, fun q hq => ⟨(h.1.2 q hq).1, (h.1.2 q hq).2.lt⟩⟩, fun hn k hk => ⟨h.2 hn k hk, by
    obtain ⟨y, hy⟩ := List.exists_mem_of_ne_nil _ hn
    obtain ⟨i, hi, rfl⟩ := List.getElem_of_mem hy
    obtain ⟨a, c, hv, _, hc⟩ := RowS.shape (size := 10) h.1.1 sC_len
    obtain ⟨b, o, ha, hcell⟩ := hc i x.1[i] (List.getElem?_eq_getElem hi)
    have hc0 := hcell 0 _ rfl
    have : (prV x).ownBlock = some b := by rw [hv, ha]; rfl
    rw [this] at hk
    cases hk
    exact World.block_lt_of_cell? w _ hc0⟩⟩
/-- a row of paths of the call's own, whose paths lead to blocks that were there (those of S0), or to others of the call's own -/
def OfX (E : TypeId) (S0 : Nat → Prop) (B : Nat) (w : World) (v : Value) (xs : List PR) : Prop :=
  OwnS E 1 prC B w v xs ∧ ∀ x ∈ xs, PRep (fun k => (S0 k ∧ k < B) ∨ (B ≤ k ∧ v.ownBlock ≠ some k)) w x
section
variable {E : TypeId} {S0 : Nat → Prop} {B : Nat} {w w' w6 w7 : World} {v v7 : Value} {xs : List PR}
theorem OfX.nil (B : Nat) (w : World) : OfX E S0 B w (.slice none 0 0) [] := ⟨OwnS.nil B w, fun p hp => by cases hp⟩
theorem OfX.row (h : OfX E S0 B w v xs) : RowS prC w v xs := OwnS.row h.1
theorem OfX.grew (h : OfX E S0 B w v xs) {T : List Nat} (hg : Grew T w w') (hT : ∀ k ∈ T, w.heap.size ≤ k ∨ (k < B ∧ ¬ S0 k)) : OfX E S0 B w' v xs := by
  have hlt := h.1.lt
  refine ⟨?_, fun p hp => ?_⟩
  · have := h.1
    rcases this.2 with ⟨h1, h2⟩ | ⟨g, cap, cur, h1, h2, h3, h4, h5, h6, h7⟩
    · exact ⟨this.1, .inl ⟨h1, h2⟩⟩
    · have hgl := lt_of_block h3
      refine ⟨this.1, .inr ⟨g, cap, cur, h1, h2, (hg.block g hgl (fun hm => ?_)).trans h3, h4, h5, h6, h7⟩⟩
      rcases hT g hm with h8 | h8 <;> omega
  · refine ((h.2 p hp).lt.grew hg (fun k hk hm => ?_)).mono (fun k hk => hk.1)
    rcases hT k hm with h8 | ⟨h8, h9⟩
    · have := hk.2; omega
    · rcases hk.1 with h10 | h10
      · exact h9 h10.1
      · have := h10.1; omega
theorem OfX.below (h : OfX E S0 B w v xs) (hb : Below w.heap.size w w') : OfX E S0 B w' v xs := h.grew (Grew.ofBelow (S := []) hb) (fun k hk => by cases hk)
/-- one more path, that leads to blocks made since, or to those of S0 -/
theorem OfX.push (h : OfX E S0 B w v xs) (hb : Below w.heap.size w w6) (hB : B ≤ w.heap.size) {x : PR} {SX : Nat → Prop} (hx : PRep SX w6 x) (hSX : ∀ k, SX k → (S0 k ∧ k < B) ∨ (B ≤ k ∧ v.ownBlock ≠ some k)) (ho : OwnS E 1 prC B w7 v7 (xs ++ [x])) (hg : w6.grownBy w7 v.ownBlock) (hn : NewOrSame w6 v v7) : OfX E S0 B w7 v7 (xs ++ [x]) := by
  have hlt := h.1.lt
  have hg' : Grew (v.ownBlock.toList) w6 w7 := ⟨hg.os, hg.tape, hg.output, hg.size, fun k hk hm => hg.block k hk (fun e => hm (by rw [← e]; simp))⟩
  have key : ∀ (p : PR) (S : Nat → Prop), PRep S w6 p → (∀ k, S k → (S0 k ∧ k < B) ∨ (B ≤ k ∧ v.ownBlock ≠ some k)) → PRep (fun k => (S0 k ∧ k < B) ∨ (B ≤ k ∧ v7.ownBlock ≠ some k)) w7 p := fun p S hp hS => by
    refine (hp.lt.grew hg' (fun k hk hm => ?_)).mono (fun k hk => ?_)
    · have hm' : v.ownBlock = some k := by simpa using hm
      rcases hS k hk.1 with h8 | h8
      · have := (hlt k hm').1; omega
      · exact h8.2 hm'
    · rcases hS k hk.1 with h8 | h8
      · exact .inl h8
      · refine .inr ⟨h8.1, fun e => ?_⟩
        rcases hn k e with h9 | h9
        · exact h8.2 h9
        · have := hk.2; omega
  refine ⟨ho, fun p hp => ?_⟩
  rcases List.mem_append.1 hp with hp | hp
  · exact key p _ ((h.below hb).2 p hp) (fun k hk => hk)
  · obtain rfl : p = x := by simpa using hp
    exact key p _ hx hSX
end
/-- path i of a row of paths -/
theorem OfX.at {E : TypeId} {S0 : Nat → Prop} {B : Nat} {w : World} {a : Option Addr} {c : Nat} {xs : List PR} (h : OfX E S0 B w (.slice a xs.length c) xs) {i : Nat} {p : List SQ} {ap : Option Addr} {cp : Nat} (hi : xs[i]? = some (p, (ap, cp))) :
    ∃ (b o : Nat), a = some ⟨b, o, none⟩ ∧ w.cell? ⟨b, o + i, none⟩ = some (.slice ap p.length cp) ∧ PRep (fun k => (S0 k ∧ k < B) ∨ (B ≤ k ∧ (Value.slice a xs.length c).ownBlock ≠ some k)) w (p, (ap, cp)) := by
  obtain ⟨a', c', hv, _, hc⟩ := RowS.shape (size := 1) h.row prC_len
  cases hv
  obtain ⟨b, o, ha, hcell⟩ := hc i _ hi
  refine ⟨b, o, ha, ?_, h.2 _ (List.mem_of_getElem? hi)⟩
  have := hcell 0 _ rfl
  rw [Nat.mul_one, Nat.add_zero] at this
  exact this
/-- a row of one, just made -/
theorem OwnS.made1 {α : Type} {E : TypeId} {size : Nat} {cs : α → List Value} {B : Nat} {w : World} {x : α} {cur : Array Value} (hcur : cur.toList = cs x) (hcs : (cs x).length = size) (hB : B ≤ w.heap.size) : OwnS E size cs B (w.alloc (.cells cur E)) (.slice (some ⟨w.heap.size, 0, none⟩) 1 1) [x] := by
  refine ⟨by simp [hcs], .inr ⟨w.heap.size, 1, cur, rfl, hB, heap_alloc_new w _, Nat.le_refl _, by unfold maxLen; omega, ?_, ?_⟩⟩
  · rw [← Array.length_toList, hcur, hcs, Nat.one_mul]
  · simp only [List.length_cons, List.length_nil, Nat.zero_add, Nat.one_mul, List.flatMap_cons, List.flatMap_nil, List.append_nil]
    rw [hcur, ← hcs, List.take_length]
/-- the paths themselves -/
def mapX (xs : List PR) : List (List PS) := xs.map fun x => x.1.map Prod.fst
end Go.Proofs.YtcjflglpkpkflaaGreatDoor
namespace Go.Proofs.YtcjflglpkpkflaaGreatDoor
open Go
set_option linter.unusedVariables false
section
variable {P : Program} {md : Region.Mode} {ops : Array Oper} {Q : Exit → Act → World → Prop} {C : World → Prop} {k : Nat}
/-- whatever order is picked; C holds behind every operation, as long as number k has not come up -/
def wpAnyK (P : Program) (md : Region.Mode) (ops : Array Oper) (Q : Exit → Act → World → Prop) (C : World → Prop) (k : Nat) : Nat → Array Bool → Act → World → Prop
  | 0, listed, a, w => Region.ready md ops listed = [] ∧ Q .normal a w
  | fuel + 1, listed, a, w => (Region.ready md ops listed = [] → Q .normal a w) ∧
    ∀ i ∈ Region.ready md ops listed, wpOp P ops Q i (fun a' w' => ((listed.setIfInBounds i true).getD k false = false → C w') ∧ wpAnyK P md ops Q C k fuel (listed.setIfInBounds i true) a' w') a w
theorem wpAny_of_K : ∀ (fuel : Nat) (listed : Array Bool) (a : Act) (w : World), wpAnyK P md ops Q C k fuel listed a w → wpAny P md ops Q fuel listed a w
  | 0, _, _, _, h => h
  | fuel + 1, _, _, _, h => ⟨h.1, fun i hi => wpOp_mono (fun a' w' h' => wpAny_of_K fuel _ a' w' h'.2) (h.2 i hi)⟩
def waitsB (md : Region.Mode) (ops : Array Oper) (i j : Nat) : Bool := match ops[j]? with
  | some o => o.after.any fun e => Region.binds md e && e.on == i
  | none => false
/-- each waits for the one ahead of it -/
def chainB (md : Region.Mode) (ops : Array Oper) : Nat → List Nat → Bool
  | _, [] => true
  | i, j :: r => waitsB md ops i j && chainB md ops j r
theorem chain_no {listed : Array Bool} : ∀ (c : List Nat) (i j : Nat), chainB md ops i c = true → listed.getD i false = false → (∀ x ∈ c, listed.getD x false = false) → j ∈ Region.ready md ops listed → j ∉ c
  | [], _, _, _, _, _, _ => by simp
  | y :: r, i, j, hc, hi, hu, hj => by
    simp only [chainB, Bool.and_eq_true] at hc
    intro hm
    rcases List.mem_cons.1 hm with rfl | hm
    · obtain ⟨_, o, ho, hall⟩ := mem_ready.1 hj
      have h1 := hc.1
      unfold waitsB at h1
      rw [ho] at h1
      obtain ⟨e, he, h2⟩ := Array.any_eq_true'.1 h1
      simp only [Bool.and_eq_true, beq_iff_eq] at h2
      have h3 := hall e he h2.1
      rw [h2.2, hi] at h3
      cases h3
    · exact chain_no r y j hc.2 (hu y (by simp)) (fun x hx => hu x (by simp [hx])) hj hm
theorem getD_other {listed : Array Bool} {i x : Nat} (h : i ≠ x) : (listed.setIfInBounds i true).getD x false = listed.getD x false := by
  simp [Array.getElem?_setIfInBounds_ne h]
/-- an operation that yields its value in every world that meets C may be taken first, where number k waits for it (through the chain) -/
theorem wpAnyK_first {i : Nat} {oi : Oper} {v : Value} {c : List Nat} (hi : ops[i]? = some oi) (hsel : ∀ (j : Nat) (o : Oper) cs b, ops[j]? = some o → o.op ≠ .select cs b)
    (hQ : ∀ c a w, Q (.panic c) (a.put oi.dst v) w → Q (.panic c) a w) (hc : chainB md ops i c = true) (hk : k ∈ c) (hic : i ∉ c) :
    ∀ (fuel : Nat) (listed : Array Bool) (a : Act) (w : World),
      (∀ j oj, ops[j]? = some oj → j ≠ i → listed.getD j true = false → (∀ e ∈ oj.after, Region.binds md e = true → e.on ≠ i) → oi.apart ops oj = true) →
      i ∈ Region.ready md ops listed → (∀ x ∈ c, listed.getD x false = false) → YieldsIf P ops C oi v a → C w →
      wpAnyK P md ops Q C k fuel (listed.setIfInBounds i true) (a.put oi.dst v) w → wpAnyK P md ops Q C k (fuel + 1) listed a w := by
  intro fuel
  induction fuel with
  | zero =>
    intro listed a w _ hr hu hy hS H
    refine ⟨fun h => (by rw [h] at hr; cases hr), fun j hj => ?_⟩
    by_cases hji : j = i
    · subst hji; exact hy.wpOp hi hS ⟨fun _ => hS, H⟩
    · have := ready_mono hj hji
      rw [H.1] at this
      cases this
  | succ fuel ih =>
    intro listed a w hfree hr hu hy hS H
    refine ⟨fun h => (by rw [h] at hr; cases hr), fun j hj => ?_⟩
    by_cases hji : j = i
    · subst hji; exact hy.wpOp hi hS ⟨fun _ => hS, H⟩
    · have h1 := H.2 j (ready_mono hj hji)
      obtain ⟨hjun, oj, hoj, hall⟩ := mem_ready.1 hj
      have hiun : listed.getD i false = false := by
        have h0 := (mem_ready.1 hr).1
        rcases Nat.lt_or_ge i listed.size with h' | h'
        · simp [h'] at h0 ⊢; exact h0
        · simp [Array.getElem?_eq_none h'] at h0
      have hnot : ∀ e ∈ oj.after, Region.binds md e = true → e.on ≠ i := fun e he hb heq => by
        have h1 := hall e he hb
        rw [heq, hiun] at h1
        cases h1
      have hjc : j ∉ c := chain_no c i j hc hiun hu hj
      have h2 := wpOp_putIf hoj (hfree j oj hoj hji hjun hnot) (fun cs b => hsel i oi cs b hi) (fun cs b => hsel j oj cs b hoj) hQ hy h1
      have hfree' : ∀ k ok, ops[k]? = some ok → k ≠ i → (listed.setIfInBounds j true).getD k true = false →
          (∀ e ∈ ok.after, Region.binds md e = true → e.on ≠ i) → oi.apart ops ok = true := fun k ok hk hki hun hno => by
        refine hfree k ok hk hki ?_ hno
        by_cases hjk : j = k
        · subst hjk; exact hjun
        · rw [getD_set_ne true hjk] at hun; exact hun
      have hu' : ∀ x ∈ c, (listed.setIfInBounds j true).getD x false = false := fun x hx => by
        have hjx : j ≠ x := fun e => by subst e; exact hjc hx
        rw [getD_other hjx]; exact hu x hx
      have hkk : ((listed.setIfInBounds i true).setIfInBounds j true).getD k false = false := by
        have h5 : j ≠ k := fun e => by subst e; exact hjc hk
        have h6 : i ≠ k := fun e => by subst e; exact hic hk
        rw [getD_other h5, getD_other h6]; exact hu k hk
      refine wpOp_mono (fun a' w' h3 => ⟨fun _ => h3.2.1 hkk, ih (listed.setIfInBounds j true) a' w' hfree' (ready_mono hr (Ne.symm hji)) hu' h3.1 (h3.2.1 hkk) ?_⟩) h2
      rw [Array.setIfInBounds_comm _ _ hji]
      exact h3.2.2
theorem wpAnyK_take {i : Nat} {oi : Oper} {v : Value} {fuel : Nat} {listed : Array Bool} {a : Act} {w : World} (c : List Nat) (hi : ops[i]? = some oi)
    (hs : Region.noSelect ops = true) (hf : Region.free md ops listed i = true) (hr : (Region.ready md ops listed).contains i = true)
    (hc : (chainB md ops i c && c.contains k && !c.contains i && c.all fun x => !listed.getD x false) = true)
    (hQ : ∀ c a w, Q (.panic c) (a.put oi.dst v) w → Q (.panic c) a w) (hy : YieldsIf P ops C oi v a) (hS : C w)
    (h : wpAnyK P md ops Q C k fuel (listed.setIfInBounds i true) (a.put oi.dst v) w) : wpAnyK P md ops Q C k (fuel + 1) listed a w := by
  simp only [Bool.and_eq_true, List.all_eq_true, Bool.not_eq_true', List.contains_eq_mem, decide_eq_true_eq, decide_eq_false_iff_not] at hc
  exact wpAnyK_first hi (Region.noSelect_spec hs) hQ hc.1.1.1 hc.1.1.2 hc.1.2 fuel listed a w (Region.free_spec hi hf) (by simpa using hr) (fun x hx => hc.2 x hx) hy hS h
/-- one that yields its value in every world may be taken first -/
theorem wpAnyK_any {i : Nat} {oi : Oper} {v : Value} (hi : ops[i]? = some oi) (hsel : ∀ (j : Nat) (o : Oper) cs b, ops[j]? = some o → o.op ≠ .select cs b)
    (hQ : ∀ c a w, Q (.panic c) (a.put oi.dst v) w → Q (.panic c) a w) (hik : i ≠ k) :
    ∀ (fuel : Nat) (listed : Array Bool) (a : Act) (w : World),
      (∀ j oj, ops[j]? = some oj → j ≠ i → listed.getD j true = false → (∀ e ∈ oj.after, Region.binds md e = true → e.on ≠ i) → oi.apart ops oj = true) →
      i ∈ Region.ready md ops listed → YieldsIf P ops (fun _ => True) oi v a → (listed.getD k false = false → C w) →
      wpAnyK P md ops Q C k fuel (listed.setIfInBounds i true) (a.put oi.dst v) w → wpAnyK P md ops Q C k (fuel + 1) listed a w := by
  intro fuel
  induction fuel with
  | zero =>
    intro listed a w _ hr hy hS H
    refine ⟨fun h => (by rw [h] at hr; cases hr), fun j hj => ?_⟩
    by_cases hji : j = i
    · subst hji; exact hy.wpOp hi trivial ⟨fun h => hS (by rw [getD_other hik] at h; exact h), H⟩
    · have := ready_mono hj hji
      rw [H.1] at this
      cases this
  | succ fuel ih =>
    intro listed a w hfree hr hy hS H
    refine ⟨fun h => (by rw [h] at hr; cases hr), fun j hj => ?_⟩
    by_cases hji : j = i
    · subst hji; exact hy.wpOp hi trivial ⟨fun h => hS (by rw [getD_other hik] at h; exact h), H⟩
    · have h1 := H.2 j (ready_mono hj hji)
      obtain ⟨hjun, oj, hoj, hall⟩ := mem_ready.1 hj
      have hiun : listed.getD i false = false := by
        have h0 := (mem_ready.1 hr).1
        rcases Nat.lt_or_ge i listed.size with h' | h'
        · simp [h'] at h0 ⊢; exact h0
        · simp [Array.getElem?_eq_none h'] at h0
      have hnot : ∀ e ∈ oj.after, Region.binds md e = true → e.on ≠ i := fun e he hb heq => by
        have h1 := hall e he hb
        rw [heq, hiun] at h1
        cases h1
      have h2 := wpOp_putIf hoj (hfree j oj hoj hji hjun hnot) (fun cs b => hsel i oi cs b hi) (fun cs b => hsel j oj cs b hoj) hQ hy h1
      have hfree' : ∀ k ok, ops[k]? = some ok → k ≠ i → (listed.setIfInBounds j true).getD k true = false →
          (∀ e ∈ ok.after, Region.binds md e = true → e.on ≠ i) → oi.apart ops ok = true := fun k ok hk hki hun hno => by
        refine hfree k ok hk hki ?_ hno
        by_cases hjk : j = k
        · subst hjk; exact hjun
        · rw [getD_set_ne true hjk] at hun; exact hun
      have hkk : ((listed.setIfInBounds i true).setIfInBounds j true).getD k false = (listed.setIfInBounds j true).getD k false := by
        rw [Array.setIfInBounds_comm _ _ (Ne.symm hji), getD_other hik]
      refine wpOp_mono (fun a' w' h3 => ⟨fun h => h3.2.1 (hkk.trans h), ih (listed.setIfInBounds j true) a' w' hfree' (ready_mono hr (Ne.symm hji)) h3.1 (fun h => h3.2.1 (hkk.trans h)) ?_⟩) h2
      rw [Array.setIfInBounds_comm _ _ hji]
      exact h3.2.2
theorem wpAnyK_skip {i : Nat} {oi : Oper} {v : Value} {fuel : Nat} {listed : Array Bool} {a : Act} {w : World} (hi : ops[i]? = some oi)
    (hs : Region.noSelect ops = true) (hf : Region.free md ops listed i = true) (hr : (Region.ready md ops listed).contains i = true) (hik : i ≠ k)
    (hQ : ∀ c a w, Q (.panic c) (a.put oi.dst v) w → Q (.panic c) a w) (hy : YieldsIf P ops (fun _ => True) oi v a) (hS : listed.getD k false = false → C w)
    (h : wpAnyK P md ops Q C k fuel (listed.setIfInBounds i true) (a.put oi.dst v) w) : wpAnyK P md ops Q C k (fuel + 1) listed a w :=
  wpAnyK_any hi (Region.noSelect_spec hs) hQ hik fuel listed a w (Region.free_spec hi hf) (by simpa using hr) hy hS h
/-- the same, behind number k -/
theorem wpAnyK_late {i : Nat} {oi : Oper} {v : Value} {fuel : Nat} {listed : Array Bool} {a : Act} {w : World} (hi : ops[i]? = some oi)
    (hs : Region.noSelect ops = true) (hf : Region.free md ops listed i = true) (hr : (Region.ready md ops listed).contains i = true) (hik : i ≠ k)
    (hQ : ∀ c a w, Q (.panic c) (a.put oi.dst v) w → Q (.panic c) a w) (hy : YieldsIf P ops (fun _ => True) oi v a) (hS : listed.getD k false = true)
    (h : wpAnyK P md ops Q C k fuel (listed.setIfInBounds i true) (a.put oi.dst v) w) : wpAnyK P md ops Q C k (fuel + 1) listed a w :=
  wpAnyK_skip hi hs hf hr hik hQ hy (fun h0 => by rw [hS] at h0; cases h0) h
/-- each of these comes up next -/
def AllReadyK (P : Program) (md : Region.Mode) (ops : Array Oper) (Q : Exit → Act → World → Prop) (C : World → Prop) (k : Nat) (fuel : Nat) (listed : Array Bool) (a : Act) (w : World) (rs : List Nat) : Prop :=
  ∀ i ∈ rs, wpOp P ops Q i (fun a' w' => ((listed.setIfInBounds i true).getD k false = false → C w') ∧ wpAnyK P md ops Q C k fuel (listed.setIfInBounds i true) a' w') a w
theorem AllReadyK.nil {fuel : Nat} {listed : Array Bool} {a : Act} {w : World} : AllReadyK P md ops Q C k fuel listed a w [] := fun _ h => by cases h
/-- one that comes up ahead of number k -/
theorem AllReadyK.cons {fuel : Nat} {listed : Array Bool} {a : Act} {w : World} {i : Nat} {o : Oper} {rs : List Nat} (ho : ops[i]? = some o)
    (h : ∀ K' : Act → World → Prop, Shut (∀ a w, C w → wpAnyK P md ops Q C k fuel (listed.setIfInBounds i true) a w → K' a w) → if Region.wanted o (yielded ops a.tmps) = true then Oper.wp P o a w K' Q else K' (a.put o.dst undef) w)
    (hs : AllReadyK P md ops Q C k fuel listed a w rs) : AllReadyK P md ops Q C k fuel listed a w (i :: rs) := fun j hj => by
  rcases List.mem_cons.1 hj with rfl | hj
  · exact wpOp_step ho (fun K' hK => h K' (fun a w hS hW => hK a w ⟨fun _ => hS, hW⟩))
  · exact hs j hj
/-- number k itself, or one that comes up behind it -/
theorem AllReadyK.last {fuel : Nat} {listed : Array Bool} {a : Act} {w : World} {i : Nat} {o : Oper} {rs : List Nat} (ho : ops[i]? = some o) (hk : (listed.setIfInBounds i true).getD k false = true)
    (h : ∀ K' : Act → World → Prop, Shut (∀ a w, wpAnyK P md ops Q C k fuel (listed.setIfInBounds i true) a w → K' a w) → if Region.wanted o (yielded ops a.tmps) = true then Oper.wp P o a w K' Q else K' (a.put o.dst undef) w)
    (hs : AllReadyK P md ops Q C k fuel listed a w rs) : AllReadyK P md ops Q C k fuel listed a w (i :: rs) := fun j hj => by
  rcases List.mem_cons.1 hj with rfl | hj
  · exact wpOp_step ho (fun K' hK => h K' (fun a w hW => hK a w ⟨fun h0 => (by rw [hk] at h0; cases h0), hW⟩))
  · exact hs j hj
theorem wpAnyK_ready {rs : List Nat} {fuel : Nat} {listed : Array Bool} {a : Act} {w : World} (hr : Region.ready md ops listed = rs) (hne : rs ≠ [])
    (h : AllReadyK P md ops Q C k fuel listed a w rs) : wpAnyK P md ops Q C k (fuel + 1) listed a w :=
  ⟨fun h0 => absurd (hr ▸ h0) hne, by rw [hr]; exact h⟩
theorem wpAnyK_done {listed : Array Bool} {a : Act} {w : World} (hr : Region.ready md ops listed = []) (h : Q .normal a w) : ∀ fuel, wpAnyK P md ops Q C k fuel listed a w
  | 0 => ⟨hr, h⟩
  | _ + 1 => ⟨fun _ => h, by rw [hr]; simp⟩
theorem wp_region_K {id : Nat} {a : Act} {w : World} (C : World → Prop) (k : Nat) (hm : P.follows .mixedOrders = true) (hS : C w.drew)
    (h : C w.drew → wpAnyK P .any ops Q C k ops.size (Array.replicate ops.size false) a w.drew) : (Code.region id ops true).wp P Q a w :=
  wp_region_any hm (wpAny_of_K _ _ _ _ (h hS))
end
end Go.Proofs.YtcjflglpkpkflaaGreatDoor
namespace Go.Proofs.YtcjflglpkpkflaaGreatDoor
open Go Go.RowKit
set_option linter.unusedVariables false
theorem infoPs17 : (Tryz.prog.info? 51).map (fun i => (i.zero, i.size, i.bytes)) = some (some (.slice none 0 0), 1, 24) := by kernel_rfl
theorem infoQ17 : (Tryz.prog.info? 84).map (fun i => (i.zero, i.size, i.bytes)) = some (some (.agg #[.int .i64 0, .int .i64 0, .int .i64 0, .int .i64 0, .int .u64 0, .string ⟨#[]⟩, .slice none 0 0, .string ⟨#[]⟩, .slice none 0 0, .slice none 0 0]), 10, 144) := by kernel_rfl
/-- what All answers -/
def AllX (E : TypeId) (S0 : Nat → Prop) (v : V) (w : World) (e : Ending) (w' : World) : Prop := ∃ (xs : List PR) (av : Option Addr) (cv : Nat), e = .returned (.slice av xs.length cv) ∧ mapX xs = allV v ∧ OfX E S0 w.heap.size w' (.slice av xs.length cv) xs ∧ Below w.heap.size w w'
def RAllC (v : V) : Prop := ∀ (a : A3) (S : Nat → Prop) (w : World), Rep S w v a → wV v ≤ 1000000 → Calls Tryz.prog 21 #[vG (v, a)] w (AllX 51 S v w)
theorem RAllC.lit {k : Int} {n : Nat} {t r : List UInt8} {fs : List (Int × V)} {ls : List V} {ps : List (V × V)} {fa la pa : Option Addr} {fc lc pc : Nat} {S : Nat → Prop} {w : World} (h : RAllC (.mk k n t fs r ls ps)) (hr : Rep S w (.mk k n t fs r ls ps) ⟨fa, fc, la, lc, pa, pc⟩) (hw : wV (.mk k n t fs r ls ps) ≤ 1000000) :
    Calls Tryz.prog 21 #[.agg #[.int .i64 k, .int .u64 (n : Int), .string (strB t), .slice fa fs.length fc, .string (strB r), .slice la ls.length lc, .slice pa ps.length pc]] w (AllX 51 S (.mk k n t fs r ls ps) w) := by
  have := h _ S w hr hw
  rw [vG_lit] at this
  exact this
/-- where an outer loop stands: PRE the paths told before, KS the kids of this loop -/
def OutI (S : Nat → Prop) (w : World) (PRE : List (List PS)) (KS : List (PS × V)) (m : Nat) (xs : List PR) (av : Option Addr) (cv : Nat) (wr : World) : Prop :=
  mapX xs = PRE ++ seeK (KS.take m) ∧ OfX 51 S w.heap.size wr (.slice av xs.length cv) xs ∧ Below w.heap.size w wr
theorem kidsF_at {fs : List (Int × V)} {m : Nat} {n : Int} {x : V} (h : fs[m]? = some (n, x)) : (kidsF fs)[m]? = some (⟨1, n, 0, V0⟩, x) := by unfold kidsF; rw [List.getElem?_map, h]; rfl
theorem kidsP_at {ps : List (V × V)} {m : Nat} {a x : V} (h : ps[m]? = some (a, x)) : (kidsP ps)[m]? = some (⟨2, 0, 0, a⟩, x) := by unfold kidsP; rw [List.getElem?_map, h]; rfl
theorem kidsL_at : ∀ {ls : List V} {m : Nat} {x : V} {i : Int}, ls[m]? = some x → (kidsL ls i)[m]? = some (⟨3, i + m, 0, V0⟩, x)
  | v :: r, 0, x, i, h => by cases h; simp [kidsL]
  | v :: r, m + 1, x, i, h => by
    have := kidsL_at (i := i + 1) (show r[m]? = some x from h)
    rw [kidsL, List.getElem?_cons_succ, this]
    congr 3
    omega
theorem seeK_step {KS : List (PS × V)} {m : Nat} {s : PS} {x : V} (h : KS[m]? = some (s, x)) : seeK (KS.take (m + 1)) = seeK (KS.take m) ++ (allV x).map (fun q => s :: q) := by
  rw [List.take_add_one, h, Option.toList_some, seeK_app]
  unfold seeK
  simp
theorem seeK_take_len (KS : List (PS × V)) (m : Nat) : (seeK (KS.take m)).length ≤ (seeK KS).length := by
  have := congrArg (fun l => (seeK l).length) (List.take_append_drop m KS)
  simp only [seeK_app, List.length_append] at this
  omega
theorem path_len : ∀ (m : Nat) (v : V), wV v < m → ∀ p ∈ allV v, p.length ≤ wV v
  | 0, v, h, _, _ => by omega
  | m + 1, v, h, p, hp => by
    obtain ⟨_, rfl | ⟨x, hx, q, hq, rfl⟩⟩ := mem_allV hp
    · exact Nat.zero_le _
    · have h1 := kid_w hx
      have h2 := path_len m x.2 (by omega) q hq
      rw [List.length_cons]; omega
/-- where an inner loop stands: w3 the world behind the call of All, T0 the block of the row at the start, MP the paths so far -/
def InI (S : Nat → Prop) (w w3 : World) (T0 : List Nat) (MP : List (List PS)) (xs : List PR) (av : Option Addr) (cv : Nat) (wi : World) : Prop :=
  mapX xs = MP ∧ OfX 51 S w.heap.size wi (.slice av xs.length cv) xs ∧ Below w.heap.size w wi ∧ Grew T0 w3 wi ∧ ∀ k, (Value.slice av xs.length cv).ownBlock = some k → k ∈ T0 ∨ w3.heap.size ≤ k
theorem InI.start {S : Nat → Prop} {w wr w3 : World} {PRE : List (List PS)} {KS : List (PS × V)} {m : Nat} {xs : List PR} {av : Option Addr} {cv : Nat} (h : OutI S w PRE KS m xs av cv wr) (hb : Below wr.heap.size wr w3) : InI S w w3 (Value.slice av xs.length cv).ownBlock.toList (PRE ++ seeK (KS.take m)) xs av cv w3 :=
  ⟨h.1, h.2.1.below hb, h.2.2.trans (hb.mono h.2.2.size), Grew.refl _ _, fun k hk => .inl (by rw [hk]; simp)⟩
theorem InI.found {S : Nat → Prop} {w w3 wi : World} {B2 : Nat} {T0 : List Nat} {ys : List PR} {ay : Option Addr} {cy : Nat} (hG : Grew T0 w3 wi) (hoy : OfX 51 (fun k => S k ∧ k < w.heap.size) B2 w3 (.slice ay ys.length cy) ys) (hT0 : ∀ k ∈ T0, w.heap.size ≤ k ∧ k < B2) {j : Nat} {p : List SQ} {ap : Option Addr} {cp : Nat} (hi : ys[j]? = some (p, (ap, cp))) :
    ∃ (b o : Nat), ay = some ⟨b, o, none⟩ ∧ wi.cell? ⟨b, o + j, none⟩ = some (.slice ap p.length cp) ∧ PRep (fun k => (S k ∧ k < w.heap.size) ∨ (B2 ≤ k ∧ k < w3.heap.size)) wi (p, (ap, cp)) := by
  have hrow : RowS prC wi (.slice ay ys.length cy) ys := RowS.grew hoy.row hG (fun _ k hk hm => by
    have h1 := (hoy.1.lt k hk).1
    have h2 := (hT0 k hm).2
    omega)
  obtain ⟨a', c', hv, _, hc⟩ := RowS.shape (size := 1) hrow prC_len
  cases hv
  obtain ⟨b, o, ha, hcell⟩ := hc j _ hi
  refine ⟨b, o, ha, ?_, ?_⟩
  · have := hcell 0 _ rfl
    rw [Nat.mul_one, Nat.add_zero] at this
    exact this
  · refine ((hoy.2 _ (List.mem_of_getElem? hi)).lt.grew hG (fun k hk hm => ?_)).mono (fun k hk => ?_)
    · have h2 := hT0 k hm
      rcases hk.1 with hk | hk
      · have := hk.1.2; omega
      · have := hk.1; omega
    · rcases hk.1 with h | h
      · exact .inl h.1
      · exact .inr ⟨h.1, hk.2⟩
theorem InI.conv {S : Nat → Prop} {w w3 wi : World} {T0 : List Nat} {MP MP' : List (List PS)} {xs : List PR} {av : Option Addr} {cv : Nat} (h : InI S w w3 T0 MP xs av cv wi) (e : MP = MP') : InI S w w3 T0 MP' xs av cv wi := e ▸ h
theorem InI.push {S : Nat → Prop} {w w3 wi w7 w9 : World} {T0 : List Nat} {MP : List (List PS)} {xs : List PR} {av : Option Addr} {cv : Nat} (h : InI S w w3 T0 MP xs av cv wi) {q : List SQ} {aq : Option Addr} {cq : Nat} {v9 : Value}
    (hb7 : Below wi.heap.size wi w7) (ho : OwnS 51 1 prC w.heap.size w9 v9 (xs ++ [(q, (aq, cq))])) (hg : w7.grownBy w9 (Value.slice av xs.length cv).ownBlock) (hn : NewOrSame w7 (.slice av xs.length cv) v9)
    {SX : Nat → Prop} (hx2 : PRep SX w7 (q, (aq, cq))) (hSX : ∀ k, SX k → (S k ∧ k < w.heap.size) ∨ (w.heap.size ≤ k ∧ (Value.slice av xs.length cv).ownBlock ≠ some k)) :
    ∃ (a9 : Option Addr) (c9 : Nat), v9 = .slice a9 (xs.length + 1) c9 ∧ InI S w w3 T0 (MP ++ [q.map Prod.fst]) (xs ++ [(q, (aq, cq))]) a9 c9 w9 := by
  obtain ⟨h1, h2, h3, h4, h5⟩ := h
  have hP := OfX.push h2 hb7 h3.size hx2 hSX ho hg hn
  obtain ⟨a9, c9, hv, _, _⟩ := RowS.shape (size := 1) hP.row prC_len
  have hl : (xs ++ [(q, (aq, cq))]).length = xs.length + 1 := by simp
  rw [hl] at hv
  have h37 : Grew T0 w3 w7 := h4.add hb7
  refine ⟨a9, c9, hv, ?_, ?_, ?_, ?_, ?_⟩
  · unfold mapX at h1 ⊢; rw [List.map_append, h1]; rfl
  · rw [hl, ← hv]; exact hP
  · exact (h3.trans (hb7.mono h3.size)).grown hg (Nat.le_trans h3.size hb7.size) (fun k hk => (h2.1.lt k hk).1)
  · exact h37.grown hg h5
  · intro k hk
    rw [hl, ← hv] at hk
    rcases hn k hk with h | h
    · exact h5 k h
    · exact .inr (Nat.le_trans h37.size h)
theorem kidsF_len (fs : List (Int × V)) : (kidsF fs).length = fs.length := by unfold kidsF; rw [List.length_map]
theorem kidsP_len (ps : List (V × V)) : (kidsP ps).length = ps.length := by unfold kidsP; rw [List.length_map]
theorem kidsL_len : ∀ (ls : List V) (i : Int), (kidsL ls i).length = ls.length
  | [], _ => rfl
  | v :: r, i => by rw [kidsL, List.length_cons, List.length_cons, kidsL_len r (i + 1)]
theorem kidsL_at0 {ls : List V} {m : Nat} {x : V} (h : ls[m]? = some x) : (kidsL ls 0)[m]? = some (⟨3, (m : Int), 0, V0⟩, x) := by
  have := kidsL_at (i := 0) h
  rw [Int.zero_add] at this
  exact this
theorem OutI.next {S : Nat → Prop} {w wr : World} {PRE : List (List PS)} {KS : List (PS × V)} {m : Nat} {xs : List PR} {av : Option Addr} {cv : Nat} (h : OutI S w PRE KS m xs av cv wr) (hm : KS.length ≤ m) (KS' : List (PS × V)) : OutI S w (PRE ++ seeK KS) KS' 0 xs av cv wr :=
  ⟨by rw [h.1, List.take_of_length_le hm]; simp [seeK], h.2.1, h.2.2⟩
theorem OutI.done {S : Nat → Prop} {w wr : World} {B : Nat} {PRE : List (List PS)} {KS : List (PS × V)} {m : Nat} {xs : List PR} {av : Option Addr} {cv : Nat} (h : OutI (fun k => S k ∧ k < B) w PRE KS m xs av cv wr) (hm : KS.length ≤ m) (hB : B ≤ w.heap.size) : mapX xs = PRE ++ seeK KS ∧ OfX 51 S B wr (.slice av xs.length cv) xs := by
  refine ⟨by rw [h.1, List.take_of_length_le hm], h.2.1.1.mono hB, fun x hx => (h.2.1.2 x hx).mono (fun k hk => ?_)⟩
  rcases hk with hk | hk
  · exact .inl hk.1
  · exact .inr ⟨Nat.le_trans hB hk.1, hk.2⟩
set_option maxRecDepth 100000 in
set_option maxHeartbeats 16000000 in
theorem rall_any : ∀ v : V, RAllC v := by
  intro v
  induction v using V.ind with
  | h v ihf ihl ihp =>
    intro a S w hr hw
    obtain ⟨k, n, t, fs, r, ls, ps⟩ := v
    obtain ⟨fa, fc, la, lc, pa, pc⟩ := a
    rw [vG_lit]
    obtain ⟨lf, ll, lp⟩ := lens_of_w hw
    obtain ⟨W0, hW0⟩ : ∃ W0, W0 = w.alloc (.cells #[.int .i64 k, .int .u64 (n : Int), .string (strB t), .slice fa fs.length fc, .string (strB r), .slice la ls.length lc, .slice pa ps.length pc] 47) := ⟨_, rfl⟩
    obtain ⟨g, hg⟩ : ∃ g, g = w.heap.size := ⟨_, rfl⟩
    have hb0 : Below w.heap.size w W0 := by rw [hW0]; exact (Below.refl _ _).alloc (Nat.le_refl _) _
    have hcx : CellsAt W0 g 47 #[.int .i64 k, .int .u64 (n : Int), .string (strB t), .slice fa fs.length fc, .string (strB r), .slice la ls.length lc, .slice pa ps.length pc] := by rw [hW0, hg]; exact CellsAt.new w _ _
    have HX : Hid (∀ W, Below W0.heap.size W0 W → CellsAt W g 47 #[.int .i64 k, .int .u64 (n : Int), .string (strB t), .slice fa fs.length fc, .string (strB r), .slice la ls.length lc, .slice pa ps.length pc]) := fun W h => hcx.stays h
    have HR : Hid (∀ W, Below w.heap.size w W → Rep (fun k => S k ∧ k < w.heap.size) W (.mk k n t fs r ls ps) ⟨fa, fc, la, lc, pa, pc⟩) := fun W h => hr.lt.stays h
    have HB := Lib.hid hb0
    have HW := Lib.hid hW0
    have HG := Lib.hid hg
    have HWV := Lib.hid hw
    have x0 := hcx.cell 0 (v := .int .i64 k) rfl
    clear hr hw hW0 hg hb0
    go_enter Tryz.func21, Tryz.ntmps21
    go_upto_region 1 with fail
    rw [← HW.out, ← HG.out]
    clear HW HG
    by_cases h0 : k = 0
    · have HZ : Hid (allV (.mk k n t fs r ls ps) = []) := by show _ = _; rw [allV_eq, if_pos (show (V.mk k n t fs r ls ps).k = 0 from h0)]
      have tk : (k == 0) = true := by simpa using h0
      clear hcx HX HR ihf ihl ihp HWV
      go_wp2_with fail
      go_ret
      exact ⟨[], none, 0, rfl, by rw [HZ.out]; rfl, OfX.nil _ _, HB.out⟩
    · have tk : (k == 0) = false := by simpa using h0
      have HZ : Hid (allV (.mk k n t fs r ls ps) = [] :: (seeK (kidsF fs) ++ (seeK (kidsP ps) ++ seeK (kidsL ls 0)))) := by
        show _ = _
        rw [allV_eq, if_neg (show ¬(V.mk k n t fs r ls ps).k = 0 from h0)]
        unfold kidsV
        rw [seeK_app, seeK_app]
        rfl
      obtain ⟨W1, hW1⟩ : ∃ W1, W1 = W0.alloc (.cells #[.slice none 0 0] 51) := ⟨_, rfl⟩
      obtain ⟨g1, hg1⟩ : ∃ g1, g1 = W0.heap.size := ⟨_, rfl⟩
      have HO1 : Hid (OutI (fun k => S k ∧ k < w.heap.size) W0 [[]] (kidsF fs) 0 [([], (none, 0))] (some ⟨g1, 0, none⟩) 1 W1) := by
        refine ⟨rfl, ⟨?_, fun x hx => ?_⟩, ?_⟩
        · rw [hW1, hg1]; exact OwnS.made1 rfl rfl (Nat.le_refl _)
        · obtain rfl : x = ([], (none, 0)) := by simpa using hx
          exact ⟨⟨RowS.nil _, fun q hq => by cases hq⟩, fun h => absurd rfl h⟩
        · rw [hW1]; exact (Below.refl _ _).alloc (Nat.le_refl _) _
      have HB1 : Hid (Below W0.heap.size W0 W1) := by show Below _ _ _; rw [hW1]; exact (Below.refl _ _).alloc (Nat.le_refl _) _
      have x3 := (HX.out W1 HB1.out).cell 3 (v := .slice fa fs.length fc) rfl
      have HW1 := Lib.hid hW1
      have HG1 := Lib.hid hg1
      clear hcx h0 hW1 hg1
      go_upto_region 4 with fail
      rw [← HW1.out, ← HG1.out]
      clear HW1 HG1
      go_wp2_with fail
      go_loopw [3, 23] (fun u i wr => ∃ (m : Nat) (xs : List PR) (av : Option Addr) (cv : Nat), m ≤ fs.length ∧ i = .int .i64 m ∧ u = .slice av xs.length cv ∧ Hid (OutI (fun k => S k ∧ k < w.heap.size) W0 ([[]]) (kidsF fs) m xs av cv wr)) (fun _ i _ => fs.length - (intOf i).toNat)
      case atStart => exact ⟨0, _, _, _, Nat.zero_le _, rfl, rfl, HO1.out⟩
      case round =>
        clear HO1 HB1 x3 x0
        obtain ⟨m, xs, av, cv, hm, rfl, rfl, HO⟩ := hrel
        by_cases h1 : m < fs.length
        · obtain ⟨⟨num, ⟨k', n', t', fs', r', ls', ps'⟩⟩, hq⟩ : ∃ x, fs[m]? = some x := ⟨_, List.getElem?_eq_getElem h1⟩
          have hbw : Below w.heap.size w wr := HB.out.trans (HO.out.2.2.mono HB.out.size)
          obtain ⟨bf, of', fa', la', pa', fc', lc', pc', rfl, hnum, hrx, y0, y1, y2, y3, y4, y5, y6, y7⟩ := (HR.out wr hbw).fieldAt hq
          have hks : (kidsF fs)[m]? = some (⟨1, num, 0, V0⟩, .mk k' n' t' fs' r' ls' ps') := kidsF_at hq
          have hwx : wV (.mk k' n' t' fs' r' ls' ps') ≤ 1000000 := by
            have h1 := kid_w (v := V.mk k n t fs r ls ps) (x := (⟨1, num, 0, V0⟩, .mk k' n' t' fs' r' ls' ps')) (List.mem_append.2 (.inl (List.mem_of_getElem? hks)))
            have h2 := HWV.out
            simp only at h1
            omega
          have hih : RAllC (.mk k' n' t' fs' r' ls' ps') := ihf (num, .mk k' n' t' fs' r' ls' ps') (List.mem_of_getElem? hq)
          obtain ⟨W2, hW2⟩ : ∃ W2, W2 = wr.alloc (.cells #[.int .i64 num, .int .i64 k', .int .u64 (n' : Int), .string (strB t'), .slice fa' fs'.length fc', .string (strB r'), .slice la' ls'.length lc', .slice pa' ps'.length pc'] 90) := ⟨_, rfl⟩
          obtain ⟨gb, hgb⟩ : ∃ gb, gb = wr.heap.size := ⟨_, rfl⟩
          have hb2 : Below wr.heap.size wr W2 := by rw [hW2]; exact (Below.refl _ _).alloc (Nat.le_refl _) _
          have hcb : CellsAt W2 gb 90 #[.int .i64 num, .int .i64 k', .int .u64 (n' : Int), .string (strB t'), .slice fa' fs'.length fc', .string (strB r'), .slice la' ls'.length lc', .slice pa' ps'.length pc'] := by rw [hW2, hgb]; exact CellsAt.new wr _ _
          have hgl : gb < W2.heap.size := hcb.lt
          have HC := Lib.hid (RAllC.lit hih ((hrx.mono (fun k hk => (⟨hk, Nat.lt_of_lt_of_le hk.2 HB.out.size⟩ : (S k ∧ k < w.heap.size) ∧ k < W0.heap.size))).stays hb2) hwx)
          have HCB := Lib.hid hcb
          have HB2 := Lib.hid hb2
          have HGB := Lib.hid hgb
          have HGL := Lib.hid hgl
          have HW2 := Lib.hid hW2
          have HSK := Lib.hid (seeK_step hks)
          have HWX := Lib.hid hwx
          have HLT := Lib.hid HO.out.2.1.1.lt
          clear hq hks hwx hih hW2 hgb hb2 hcb hgl hrx hbw
          go_upto_region 7 with fail
          rw [← HW2.out, ← HGB.out]
          have hcb := HCB.out
          have z0 := hcb.cell 0 (v := .int .i64 num) rfl
          have z1 := hcb.cell 1 (v := .int .i64 k') rfl
          have z2 := hcb.cell 2 (v := .int .u64 (n' : Int)) rfl
          have z3 := hcb.cell 3 (v := .string (strB t')) rfl
          have z4 := hcb.cell 4 (v := .slice fa' fs'.length fc') rfl
          have z5 := hcb.cell 5 (v := .string (strB r')) rfl
          have z6 := hcb.cell 6 (v := .slice la' ls'.length lc') rfl
          have z7 := hcb.cell 7 (v := .slice pa' ps'.length pc') rfl
          clear hcb HW2 y0 y1 y2 y3 y4 y5 y6 y7
          go_wp2_with fail
          refine HC.out.mono ?_
          rintro e w3 ⟨ys, ay, cy, rfl, hmy, hoy, hb3⟩
          have HI0 := Lib.hid (InI.start HO.out (HB2.out.trans (hb3.mono HB2.out.size)))
          have HOY := Lib.hid hoy
          have HMY := Lib.hid hmy
          have hyl : ys.length ≤ 1000000 := by
            have h3 := congrArg List.length HMY.out
            unfold mapX at h3
            rw [List.length_map] at h3
            have h4 := allV_len (.mk k' n' t' fs' r' ls' ps')
            have h5 := HWX.out
            omega
          have HB3 := Lib.hid hb3
          have HCB3 := Lib.hid (HCB.out.stays hb3)
          have HT0 : Hid (∀ k ∈ (Value.slice av xs.length cv).ownBlock.toList, W0.heap.size ≤ k ∧ k < gb) := fun k hk => by
            have := HLT.out k (by simpa using hk)
            rw [HGB.out]
            exact this
          clear hmy hoy hb3 HC z0 z1 z2 z3 z4 z5 z6 z7
          go_wp2_with fail
          go_loopw [3, 31] (fun u i wi => ∃ (j : Nat) (xs2 : List PR) (av2 : Option Addr) (cv2 : Nat), j ≤ ys.length ∧ i = .int .i64 j ∧ u = .slice av2 xs2.length cv2 ∧ Hid (InI (fun k => S k ∧ k < w.heap.size) W0 w3 (Value.slice av xs.length cv).ownBlock.toList ([[]] ++ seeK ((kidsF fs).take m) ++ ((allV (.mk k' n' t' fs' r' ls' ps')).take j).map (fun q => (⟨1, num, 0, V0⟩ : PS) :: q)) xs2 av2 cv2 wi)) (fun _ i _ => ys.length - (intOf i).toNat)
          case atStart => exact ⟨0, _, _, _, Nat.zero_le _, rfl, rfl, Lib.hid (by simpa using HI0.out)⟩
          case round =>
            obtain ⟨j, xs2, av2, cv2, hj, rfl, rfl, HI⟩ := hrel
            by_cases h2 : j < ys.length
            · obtain ⟨⟨p, ⟨ap, cp⟩⟩, hpy⟩ : ∃ x, ys[j]? = some x := ⟨_, List.getElem?_eq_getElem h2⟩
              have hG := HI.out.2.2.2.1
              obtain ⟨bY, oY, rfl, hcell, hpr⟩ := InI.found (B2 := W2.heap.size) hG HOY.out (fun k hk => ⟨(HT0.out k hk).1, Nat.lt_trans (HT0.out k hk).2 HGL.out⟩) hpy
              have hcz := HCB3.out.grew hG (fun hm => by have := (HT0.out gb hm).2; omega)
              have z0 := hcz.cell 0 (v := .int .i64 num) rfl
              have hmem : p.map Prod.fst ∈ allV (.mk k' n' t' fs' r' ls' ps') := by rw [← HMY.out]; unfold mapX; exact List.mem_map.2 ⟨_, List.mem_of_getElem? hpy, rfl⟩
              have hpl : p.length ≤ 1000000 := by
                have h3 := path_len _ _ (Nat.lt_succ_self _) _ hmem
                rw [List.length_map] at h3
                exact Nat.le_trans h3 HWX.out
              have HPR := Lib.hid hpr
              have HRA : Hid (∀ o, RowS sC (wr.alloc o) (.slice ap p.length cp) p) := fun o => RowS.stays hpr.1.1 ((Below.refl _ _).alloc (Nat.le_refl _) o)
              have HOM : Hid (OwnS 84 10 sC wr.heap.size (wr.alloc (.cells #[.int .i64 1, .int .i64 num, .int .i64 0, .int .i64 0, .int .u64 0, .string ⟨#[]⟩, .slice none 0 0, .string ⟨#[]⟩, .slice none 0 0, .slice none 0 0] 84)) (.slice (some ⟨wr.heap.size, 0, none⟩) 1 1) [((⟨1, num, 0, V0⟩, A3.nil) : SQ)]) := OwnS.made1 rfl rfl (Nat.le_refl _)
              have HPY := Lib.hid hpy
              clear hmem hpr hpy hG hcz
              go_wp2_with (at_builtin; go_must (refine wpList_appendS sC_len sC_one Tryz.underlying51 infoQ17 rfl (by decide) HOM.out (HRA.out _) (by simp; omega) (by simp) rfl _ _ rfl (by rfl) (by rfl) ?_))
              intro v7 w7 how7 hg7 hn7 hnil
              obtain ⟨a7, c7, rfl, -, -⟩ := RowS.shape (size := 10) how7.row sC_len
              have hb7 : Below wr.heap.size wr w7 := ((Below.refl _ _).alloc (Nat.le_refl _) _).grown hg7 (by simp) (fun k hk => by simp [Value.ownBlock] at hk; omega)
              have hx7 : PRep (fun k => (((S k ∧ k < w.heap.size) ∧ k < W0.heap.size) ∨ (W2.heap.size ≤ k ∧ k < w3.heap.size)) ∨ wr.heap.size ≤ k) w7 ([((⟨1, num, 0, V0⟩, A3.nil) : SQ)] ++ p, (a7, c7)) := by
                refine ⟨⟨how7.row, fun q hq => ?_⟩, fun _ k hk => .inr (how7.lt k hk).1⟩
                rcases List.mem_append.1 hq with hq | hq
                · obtain rfl : q = (⟨1, num, 0, V0⟩, A3.nil) := by simpa using hq
                  exact ⟨⟨(show i64 1 from ⟨by decide, by decide⟩), hnum, (show i64 0 from ⟨by decide, by decide⟩)⟩, rep_none⟩
                · have h3 := (HPR.out.1.2 q hq).stays hb7
                  exact ⟨h3.1, h3.2.mono (fun k hk => .inl hk)⟩
              have hxl : xs2.length ≤ 100000000 := by
                have h3 := congrArg List.length HI.out.1
                unfold mapX at h3
                simp only [List.length_map, List.length_append, List.length_cons, List.length_nil, List.length_take] at h3
                have h4 := seeK_take_len (kidsF fs) m
                have h5 := allF_len fs
                have h5p := allP_len ps
                have h5l := allL_len ls 0
                rw [allF_eq] at h5
                rw [allP_eq] at h5p
                rw [allL_eq] at h5l
                have h6 := allV_len (.mk k' n' t' fs' r' ls' ps')
                have h7 := HWX.out
                have h8 := HWV.out
                rw [wV_eq (.mk k n t fs r ls ps)] at h8
                simp only [V.fs, V.ls, V.ps] at h8
                omega
              have hpy2 : (allV (.mk k' n' t' fs' r' ls' ps'))[j]? = some (p.map Prod.fst) := by rw [← HMY.out]; unfold mapX; rw [List.getElem?_map, HPY.out]; rfl
              have HM2 : Hid ([[]] ++ seeK ((kidsF fs).take m) ++ ((allV (.mk k' n' t' fs' r' ls' ps')).take j).map (fun q => (⟨1, num, 0, V0⟩ : PS) :: q) ++ [([((⟨1, num, 0, V0⟩, A3.nil) : SQ)] ++ p).map Prod.fst] = [[]] ++ seeK ((kidsF fs).take m) ++ ((allV (.mk k' n' t' fs' r' ls' ps')).take (j + 1)).map (fun q => (⟨1, num, 0, V0⟩ : PS) :: q)) := by
                show _ = _
                rw [List.take_add_one, hpy2]; simp
              clear hpy2
              have HX7 := Lib.hid hx7
              have HB7 := Lib.hid hb7
              have HO2 := Lib.hid (HI.out.2.1.1.stays hb7)
              have hs7 : W0.heap.size ≤ w7.heap.size := Nat.le_trans HI.out.2.2.1.size hb7.size
              clear hx7 hb7 how7 hg7 hn7 hnil HRA HOM hcell hpl z0
              go_wp2_with (at_builtin; go_must (refine wpList_pushS prC_len prC_one Tryz.underlying58 infoPs17 rfl (by decide) HO2.out (([((⟨1, num, 0, V0⟩, A3.nil) : SQ)] ++ p, (a7, c7)) : PR) hxl hs7 rfl _ _ rfl (by rfl) _ _ _ (by rfl) (by rfl) ?_))
              intro v9 w9 ho9 hg9 hn9
              have hgs : gb < W2.heap.size := HGL.out
              have hws : W0.heap.size ≤ gb := by rw [HGB.out]; exact HO.out.2.2.size
              obtain ⟨a9, c9, rfl, hI9⟩ := InI.push HI.out HB7.out ho9 hg9 hn9 HX7.out (fun k hk => by
                rcases hk with (hk | hk) | hk
                · exact .inl hk
                · refine .inr ⟨by omega, fun e => ?_⟩
                  rcases HI.out.2.2.2.2 k e with h | h
                  · have := (HT0.out k h).2; omega
                  · omega
                · refine .inr ⟨Nat.le_trans HI.out.2.2.1.size hk, fun e => ?_⟩
                  have := (HI.out.2.1.1.lt k e).2
                  omega)
              have HI9 := Lib.hid (hI9.conv HM2.out)
              clear hI9 ho9 hg9 hn9 hgs hws hs7 HX7 HB7 HO2 HM2 HI HPR hxl
              go_wp2_with fail
              go_roundw
              case rel => exact ⟨j + 1, _, a9, c9, h2, by go_num, by rw [List.length_append]; rfl, HI9.out⟩
              case measure => simp only [intOf]; omega
            · obtain rfl : j = ys.length := by omega
              have HON : Hid (OutI (fun k => S k ∧ k < w.heap.size) W0 ([[]]) (kidsF fs) (m + 1) xs2 av2 cv2 wr) := by
                refine ⟨?_, HI.out.2.1, HI.out.2.2.1⟩
                have h3 := HI.out.1
                have h4 : (allV (.mk k' n' t' fs' r' ls' ps')).length = ys.length := by rw [← HMY.out]; unfold mapX; rw [List.length_map]
                rw [← h4, List.take_length] at h3
                rw [h3, HSK.out, List.append_assoc]
              clear HI
              go_wp2_with fail
              go_roundw
              case rel => exact ⟨m + 1, xs2, av2, cv2, h1, by go_num, rfl, HON.out⟩
              case measure => simp only [intOf]; omega
        · obtain rfl : m = fs.length := by omega
          have HO2 := Lib.hid (OutI.next HO.out (Nat.le_of_eq (kidsF_len fs)) (kidsP ps))
          have x6 := (HX.out wr HO.out.2.2).cell 6 (v := .slice pa ps.length pc) rfl
          clear HO
          go_wp2_with fail
          go_loopw [3, 49] (fun u i wr => ∃ (m : Nat) (xs : List PR) (av : Option Addr) (cv : Nat), m ≤ ps.length ∧ i = .int .i64 m ∧ u = .slice av xs.length cv ∧ Hid (OutI (fun k => S k ∧ k < w.heap.size) W0 ([[]] ++ seeK (kidsF fs)) (kidsP ps) m xs av cv wr)) (fun _ i _ => ps.length - (intOf i).toNat)
          case atStart => exact ⟨0, _, _, _, Nat.zero_le _, rfl, rfl, HO2.out⟩
          case round =>
            clear HO2 x6
            obtain ⟨m, xs, av, cv, hm, rfl, rfl, HO⟩ := hrel
            by_cases h1 : m < ps.length
            · obtain ⟨⟨⟨k', n', t', fs', r', ls', ps'⟩, ⟨k2, n2, t2, fs2, r2, ls2, ps2⟩⟩, hq⟩ : ∃ x, ps[m]? = some x := ⟨_, List.getElem?_eq_getElem h1⟩
              have hbw : Below w.heap.size w wr := HB.out.trans (HO.out.2.2.mono HB.out.size)
              obtain ⟨bf, of', fa', la', pa', fc', lc', pc', fa2, la2, pa2, fc2, lc2, pc2, rfl, hrk, hrx, y0, y1, y2, y3, y4, y5, y6, y7, y8, y9, y10, y11, y12, y13⟩ := (HR.out wr hbw).pairAt hq
              have hks : (kidsP ps)[m]? = some (⟨2, 0, 0, .mk k' n' t' fs' r' ls' ps'⟩, .mk k2 n2 t2 fs2 r2 ls2 ps2) := kidsP_at hq
              have hwx : wV (.mk k2 n2 t2 fs2 r2 ls2 ps2) ≤ 1000000 := by
                have h1 := kid_w (v := V.mk k n t fs r ls ps) (x := (⟨2, 0, 0, .mk k' n' t' fs' r' ls' ps'⟩, .mk k2 n2 t2 fs2 r2 ls2 ps2)) (List.mem_append.2 (.inr (List.mem_append.2 (.inl (List.mem_of_getElem? hks)))))
                have h2 := HWV.out
                simp only at h1
                omega
              have hih : RAllC (.mk k2 n2 t2 fs2 r2 ls2 ps2) := (ihp (.mk k' n' t' fs' r' ls' ps', .mk k2 n2 t2 fs2 r2 ls2 ps2) (List.mem_of_getElem? hq)).2
              obtain ⟨W2, hW2⟩ : ∃ W2, W2 = wr.alloc (.cells #[.int .i64 k', .int .u64 (n' : Int), .string (strB t'), .slice fa' fs'.length fc', .string (strB r'), .slice la' ls'.length lc', .slice pa' ps'.length pc', .int .i64 k2, .int .u64 (n2 : Int), .string (strB t2), .slice fa2 fs2.length fc2, .string (strB r2), .slice la2 ls2.length lc2, .slice pa2 ps2.length pc2] 94) := ⟨_, rfl⟩
              obtain ⟨gb, hgb⟩ : ∃ gb, gb = wr.heap.size := ⟨_, rfl⟩
              have hb2 : Below wr.heap.size wr W2 := by rw [hW2]; exact (Below.refl _ _).alloc (Nat.le_refl _) _
              have hcb : CellsAt W2 gb 94 #[.int .i64 k', .int .u64 (n' : Int), .string (strB t'), .slice fa' fs'.length fc', .string (strB r'), .slice la' ls'.length lc', .slice pa' ps'.length pc', .int .i64 k2, .int .u64 (n2 : Int), .string (strB t2), .slice fa2 fs2.length fc2, .string (strB r2), .slice la2 ls2.length lc2, .slice pa2 ps2.length pc2] := by rw [hW2, hgb]; exact CellsAt.new wr _ _
              have hgl : gb < W2.heap.size := hcb.lt
              have HC := Lib.hid (RAllC.lit hih ((hrx.mono (fun k hk => (⟨hk, Nat.lt_of_lt_of_le hk.2 HB.out.size⟩ : (S k ∧ k < w.heap.size) ∧ k < W0.heap.size))).stays hb2) hwx)
              have HK2 := Lib.hid (hrk.stays hb2)
              have HCB := Lib.hid hcb
              have HB2 := Lib.hid hb2
              have HGB := Lib.hid hgb
              have HGL := Lib.hid hgl
              have HW2 := Lib.hid hW2
              have HSK := Lib.hid (seeK_step hks)
              have HWX := Lib.hid hwx
              have HLT := Lib.hid HO.out.2.1.1.lt
              clear hq hks hwx hih hW2 hgb hb2 hcb hgl hrx hbw hrk
              go_upto_region 16 with fail
              rw [← HW2.out, ← HGB.out]
              have hcb := HCB.out
              have z0 := hcb.cell 0 (v := .int .i64 k') rfl
              have z1 := hcb.cell 1 (v := .int .u64 (n' : Int)) rfl
              have z2 := hcb.cell 2 (v := .string (strB t')) rfl
              have z3 := hcb.cell 3 (v := .slice fa' fs'.length fc') rfl
              have z4 := hcb.cell 4 (v := .string (strB r')) rfl
              have z5 := hcb.cell 5 (v := .slice la' ls'.length lc') rfl
              have z6 := hcb.cell 6 (v := .slice pa' ps'.length pc') rfl
              have z7 := hcb.cell 7 (v := .int .i64 k2) rfl
              have z8 := hcb.cell 8 (v := .int .u64 (n2 : Int)) rfl
              have z9 := hcb.cell 9 (v := .string (strB t2)) rfl
              have z10 := hcb.cell 10 (v := .slice fa2 fs2.length fc2) rfl
              have z11 := hcb.cell 11 (v := .string (strB r2)) rfl
              have z12 := hcb.cell 12 (v := .slice la2 ls2.length lc2) rfl
              have z13 := hcb.cell 13 (v := .slice pa2 ps2.length pc2) rfl
              clear hcb HW2 y0 y1 y2 y3 y4 y5 y6 y7 y8 y9 y10 y11 y12 y13
              go_wp2_with fail
              refine HC.out.mono ?_
              rintro e w3 ⟨ys, ay, cy, rfl, hmy, hoy, hb3⟩
              have HI0 := Lib.hid (InI.start HO.out (HB2.out.trans (hb3.mono HB2.out.size)))
              have HOY := Lib.hid hoy
              have HMY := Lib.hid hmy
              have hyl : ys.length ≤ 1000000 := by
                have h3 := congrArg List.length HMY.out
                unfold mapX at h3
                rw [List.length_map] at h3
                have h4 := allV_len (.mk k2 n2 t2 fs2 r2 ls2 ps2)
                have h5 := HWX.out
                omega
              have HB3 := Lib.hid hb3
              have HCB3 := Lib.hid (HCB.out.stays hb3)
              have HK3 := Lib.hid (HK2.out.stays hb3)
              have HT0 : Hid (∀ k ∈ (Value.slice av xs.length cv).ownBlock.toList, W0.heap.size ≤ k ∧ k < gb) := fun k hk => by
                have := HLT.out k (by simpa using hk)
                rw [HGB.out]
                exact this
              clear hmy hoy hb3 HC z0 z1 z2 z3 z4 z5 z6 z7 z8 z9 z10 z11 z12 z13 HK2
              go_wp2_with fail
              go_loopw [3, 57] (fun u i wi => ∃ (j : Nat) (xs2 : List PR) (av2 : Option Addr) (cv2 : Nat), j ≤ ys.length ∧ i = .int .i64 j ∧ u = .slice av2 xs2.length cv2 ∧ Hid (InI (fun k => S k ∧ k < w.heap.size) W0 w3 (Value.slice av xs.length cv).ownBlock.toList ([[]] ++ seeK (kidsF fs) ++ seeK ((kidsP ps).take m) ++ ((allV (.mk k2 n2 t2 fs2 r2 ls2 ps2)).take j).map (fun q => (⟨2, 0, 0, .mk k' n' t' fs' r' ls' ps'⟩ : PS) :: q)) xs2 av2 cv2 wi)) (fun _ i _ => ys.length - (intOf i).toNat)
              case atStart => exact ⟨0, _, _, _, Nat.zero_le _, rfl, rfl, Lib.hid (by simpa using HI0.out)⟩
              case round =>
                obtain ⟨j, xs2, av2, cv2, hj, rfl, rfl, HI⟩ := hrel
                by_cases h2 : j < ys.length
                · obtain ⟨⟨p, ⟨ap, cp⟩⟩, hpy⟩ : ∃ x, ys[j]? = some x := ⟨_, List.getElem?_eq_getElem h2⟩
                  have hG := HI.out.2.2.2.1
                  obtain ⟨bY, oY, rfl, hcell, hpr⟩ := InI.found (B2 := W2.heap.size) hG HOY.out (fun k hk => ⟨(HT0.out k hk).1, Nat.lt_trans (HT0.out k hk).2 HGL.out⟩) hpy
                  have hcz := HCB3.out.grew hG (fun hm => by have := (HT0.out gb hm).2; omega)
                  have z0 := hcz.cell 0 (v := .int .i64 k') rfl
                  have z1 := hcz.cell 1 (v := .int .u64 (n' : Int)) rfl
                  have z2 := hcz.cell 2 (v := .string (strB t')) rfl
                  have z3 := hcz.cell 3 (v := .slice fa' fs'.length fc') rfl
                  have z4 := hcz.cell 4 (v := .string (strB r')) rfl
                  have z5 := hcz.cell 5 (v := .slice la' ls'.length lc') rfl
                  have z6 := hcz.cell 6 (v := .slice pa' ps'.length pc') rfl
                  have z7 := hcz.cell 7 (v := .int .i64 k2) rfl
                  have z8 := hcz.cell 8 (v := .int .u64 (n2 : Int)) rfl
                  have z9 := hcz.cell 9 (v := .string (strB t2)) rfl
                  have z10 := hcz.cell 10 (v := .slice fa2 fs2.length fc2) rfl
                  have z11 := hcz.cell 11 (v := .string (strB r2)) rfl
                  have z12 := hcz.cell 12 (v := .slice la2 ls2.length lc2) rfl
                  have z13 := hcz.cell 13 (v := .slice pa2 ps2.length pc2) rfl
                  have HKW := Lib.hid (HK3.out.grew hG (fun k hk hm => by have h5 := (HT0.out k hm).1; have h6 := hk.2; have h7 := HB.out.size; omega))
                  have hmem : p.map Prod.fst ∈ allV (.mk k2 n2 t2 fs2 r2 ls2 ps2) := by rw [← HMY.out]; unfold mapX; exact List.mem_map.2 ⟨_, List.mem_of_getElem? hpy, rfl⟩
                  have hpl : p.length ≤ 1000000 := by
                    have h3 := path_len _ _ (Nat.lt_succ_self _) _ hmem
                    rw [List.length_map] at h3
                    exact Nat.le_trans h3 HWX.out
                  have HPR := Lib.hid hpr
                  have HRA : Hid (∀ o, RowS sC (wr.alloc o) (.slice ap p.length cp) p) := fun o => RowS.stays hpr.1.1 ((Below.refl _ _).alloc (Nat.le_refl _) o)
                  have HOM : Hid (OwnS 84 10 sC wr.heap.size (wr.alloc (.cells #[.int .i64 2, .int .i64 0, .int .i64 0, .int .i64 k', .int .u64 (n' : Int), .string (strB t'), .slice fa' fs'.length fc', .string (strB r'), .slice la' ls'.length lc', .slice pa' ps'.length pc'] 84)) (.slice (some ⟨wr.heap.size, 0, none⟩) 1 1) [((⟨2, 0, 0, .mk k' n' t' fs' r' ls' ps'⟩, ⟨fa', fc', la', lc', pa', pc'⟩) : SQ)]) := OwnS.made1 rfl rfl (Nat.le_refl _)
                  have HPY := Lib.hid hpy
                  clear hmem hpr hpy hG hcz
                  go_wp2_with (at_builtin; go_must (refine wpList_appendS sC_len sC_one Tryz.underlying51 infoQ17 rfl (by decide) HOM.out (HRA.out _) (by simp; omega) (by simp) rfl _ _ rfl (by rfl) (by rfl) ?_))
                  intro v7 w7 how7 hg7 hn7 hnil
                  obtain ⟨a7, c7, rfl, -, -⟩ := RowS.shape (size := 10) how7.row sC_len
                  have hb7 : Below wr.heap.size wr w7 := ((Below.refl _ _).alloc (Nat.le_refl _) _).grown hg7 (by simp) (fun k hk => by simp [Value.ownBlock] at hk; omega)
                  have hx7 : PRep (fun k => (((S k ∧ k < w.heap.size) ∧ k < W0.heap.size) ∨ (W2.heap.size ≤ k ∧ k < w3.heap.size)) ∨ wr.heap.size ≤ k) w7 ([((⟨2, 0, 0, .mk k' n' t' fs' r' ls' ps'⟩, ⟨fa', fc', la', lc', pa', pc'⟩) : SQ)] ++ p, (a7, c7)) := by
                    refine ⟨⟨how7.row, fun q hq => ?_⟩, fun _ k hk => .inr (how7.lt k hk).1⟩
                    rcases List.mem_append.1 hq with hq | hq
                    · obtain rfl : q = (⟨2, 0, 0, .mk k' n' t' fs' r' ls' ps'⟩, ⟨fa', fc', la', lc', pa', pc'⟩) := by simpa using hq
                      exact ⟨⟨(show i64 2 from ⟨by decide, by decide⟩), (show i64 0 from ⟨by decide, by decide⟩), (show i64 0 from ⟨by decide, by decide⟩)⟩, (HKW.out.stays hb7).mono (fun k hk => .inl (.inl ⟨hk, Nat.lt_of_lt_of_le hk.2 HB.out.size⟩))⟩
                    · have h3 := (HPR.out.1.2 q hq).stays hb7
                      exact ⟨h3.1, h3.2.mono (fun k hk => .inl hk)⟩
                  have hxl : xs2.length ≤ 100000000 := by
                    have h3 := congrArg List.length HI.out.1
                    unfold mapX at h3
                    simp only [List.length_map, List.length_append, List.length_cons, List.length_nil, List.length_take] at h3
                    have h4 := seeK_take_len (kidsP ps) m
                    have h5 := allF_len fs
                    have h5p := allP_len ps
                    have h5l := allL_len ls 0
                    rw [allF_eq] at h5
                    rw [allP_eq] at h5p
                    rw [allL_eq] at h5l
                    have h6 := allV_len (.mk k2 n2 t2 fs2 r2 ls2 ps2)
                    have h7 := HWX.out
                    have h8 := HWV.out
                    rw [wV_eq (.mk k n t fs r ls ps)] at h8
                    simp only [V.fs, V.ls, V.ps] at h8
                    omega
                  have hpy2 : (allV (.mk k2 n2 t2 fs2 r2 ls2 ps2))[j]? = some (p.map Prod.fst) := by rw [← HMY.out]; unfold mapX; rw [List.getElem?_map, HPY.out]; rfl
                  have HM2 : Hid ([[]] ++ seeK (kidsF fs) ++ seeK ((kidsP ps).take m) ++ ((allV (.mk k2 n2 t2 fs2 r2 ls2 ps2)).take j).map (fun q => (⟨2, 0, 0, .mk k' n' t' fs' r' ls' ps'⟩ : PS) :: q) ++ [([((⟨2, 0, 0, .mk k' n' t' fs' r' ls' ps'⟩, ⟨fa', fc', la', lc', pa', pc'⟩) : SQ)] ++ p).map Prod.fst] = [[]] ++ seeK (kidsF fs) ++ seeK ((kidsP ps).take m) ++ ((allV (.mk k2 n2 t2 fs2 r2 ls2 ps2)).take (j + 1)).map (fun q => (⟨2, 0, 0, .mk k' n' t' fs' r' ls' ps'⟩ : PS) :: q)) := by
                    show _ = _
                    rw [List.take_add_one, hpy2]; simp
                  clear hpy2
                  have HX7 := Lib.hid hx7
                  have HB7 := Lib.hid hb7
                  have HO2 := Lib.hid (HI.out.2.1.1.stays hb7)
                  have hs7 : W0.heap.size ≤ w7.heap.size := Nat.le_trans HI.out.2.2.1.size hb7.size
                  clear hx7 hb7 how7 hg7 hn7 hnil HRA HOM hcell hpl z0 z1 z2 z3 z4 z5 z6 z7 z8 z9 z10 z11 z12 z13 HKW
                  go_wp2_with (at_builtin; go_must (refine wpList_pushS prC_len prC_one Tryz.underlying58 infoPs17 rfl (by decide) HO2.out (([((⟨2, 0, 0, .mk k' n' t' fs' r' ls' ps'⟩, ⟨fa', fc', la', lc', pa', pc'⟩) : SQ)] ++ p, (a7, c7)) : PR) hxl hs7 rfl _ _ rfl (by rfl) _ _ _ (by rfl) (by rfl) ?_))
                  intro v9 w9 ho9 hg9 hn9
                  have hgs : gb < W2.heap.size := HGL.out
                  have hws : W0.heap.size ≤ gb := by rw [HGB.out]; exact HO.out.2.2.size
                  obtain ⟨a9, c9, rfl, hI9⟩ := InI.push HI.out HB7.out ho9 hg9 hn9 HX7.out (fun k hk => by
                    rcases hk with (hk | hk) | hk
                    · exact .inl hk
                    · refine .inr ⟨by omega, fun e => ?_⟩
                      rcases HI.out.2.2.2.2 k e with h | h
                      · have := (HT0.out k h).2; omega
                      · omega
                    · refine .inr ⟨Nat.le_trans HI.out.2.2.1.size hk, fun e => ?_⟩
                      have := (HI.out.2.1.1.lt k e).2
                      omega)
                  have HI9 := Lib.hid (hI9.conv HM2.out)
                  clear hI9 ho9 hg9 hn9 hgs hws hs7 HX7 HB7 HO2 HM2 HI HPR hxl
                  go_wp2_with fail
                  go_roundw
                  case rel => exact ⟨j + 1, _, a9, c9, h2, by go_num, by rw [List.length_append]; rfl, HI9.out⟩
                  case measure => simp only [intOf]; omega
                · obtain rfl : j = ys.length := by omega
                  have HON : Hid (OutI (fun k => S k ∧ k < w.heap.size) W0 ([[]] ++ seeK (kidsF fs)) (kidsP ps) (m + 1) xs2 av2 cv2 wr) := by
                    refine ⟨?_, HI.out.2.1, HI.out.2.2.1⟩
                    have h3 := HI.out.1
                    have h4 : (allV (.mk k2 n2 t2 fs2 r2 ls2 ps2)).length = ys.length := by rw [← HMY.out]; unfold mapX; rw [List.length_map]
                    rw [← h4, List.take_length] at h3
                    rw [h3, HSK.out, List.append_assoc]
                  clear HI
                  go_wp2_with fail
                  go_roundw
                  case rel => exact ⟨m + 1, xs2, av2, cv2, h1, by go_num, rfl, HON.out⟩
                  case measure => simp only [intOf]; omega
            · obtain rfl : m = ps.length := by omega
              have HO3 := Lib.hid (OutI.next HO.out (Nat.le_of_eq (kidsP_len ps)) (kidsL ls 0))
              have x5 := (HX.out wr HO.out.2.2).cell 5 (v := .slice la ls.length lc) rfl
              clear HO
              go_wp2_with fail
              go_loopw [3, 75] (fun u i wr => ∃ (m : Nat) (xs : List PR) (av : Option Addr) (cv : Nat), m ≤ ls.length ∧ i = .int .i64 m ∧ u = .slice av xs.length cv ∧ Hid (OutI (fun k => S k ∧ k < w.heap.size) W0 ([[]] ++ seeK (kidsF fs) ++ seeK (kidsP ps)) (kidsL ls 0) m xs av cv wr)) (fun _ i _ => ls.length - (intOf i).toNat)
              case atStart => exact ⟨0, _, _, _, Nat.zero_le _, rfl, rfl, HO3.out⟩
              case round =>
                clear HO3 x5
                obtain ⟨m, xs, av, cv, hm, rfl, rfl, HO⟩ := hrel
                by_cases h1 : m < ls.length
                · obtain ⟨⟨k', n', t', fs', r', ls', ps'⟩, hq⟩ : ∃ x, ls[m]? = some x := ⟨_, List.getElem?_eq_getElem h1⟩
                  have hbw : Below w.heap.size w wr := HB.out.trans (HO.out.2.2.mono HB.out.size)
                  obtain ⟨bf, of', fa', la', pa', fc', lc', pc', rfl, hrx, y0, y1, y2, y3, y4, y5, y6⟩ := (HR.out wr hbw).partAt hq
                  have hks : (kidsL ls 0)[m]? = some (⟨3, (m : Int), 0, V0⟩, .mk k' n' t' fs' r' ls' ps') := kidsL_at0 hq
                  have hwx : wV (.mk k' n' t' fs' r' ls' ps') ≤ 1000000 := by
                    have h1 := kid_w (v := V.mk k n t fs r ls ps) (x := (⟨3, (m : Int), 0, V0⟩, .mk k' n' t' fs' r' ls' ps')) (List.mem_append.2 (.inr (List.mem_append.2 (.inr (List.mem_of_getElem? hks)))))
                    have h2 := HWV.out
                    simp only at h1
                    omega
                  have hih : RAllC (.mk k' n' t' fs' r' ls' ps') := ihl (.mk k' n' t' fs' r' ls' ps') (List.mem_of_getElem? hq)
                  obtain ⟨W2, hW2⟩ : ∃ W2, W2 = wr.alloc (.cells #[.int .i64 k', .int .u64 (n' : Int), .string (strB t'), .slice fa' fs'.length fc', .string (strB r'), .slice la' ls'.length lc', .slice pa' ps'.length pc'] 47) := ⟨_, rfl⟩
                  obtain ⟨gb, hgb⟩ : ∃ gb, gb = wr.heap.size := ⟨_, rfl⟩
                  have hb2 : Below wr.heap.size wr W2 := by rw [hW2]; exact (Below.refl _ _).alloc (Nat.le_refl _) _
                  have hcb : CellsAt W2 gb 47 #[.int .i64 k', .int .u64 (n' : Int), .string (strB t'), .slice fa' fs'.length fc', .string (strB r'), .slice la' ls'.length lc', .slice pa' ps'.length pc'] := by rw [hW2, hgb]; exact CellsAt.new wr _ _
                  have hgl : gb < W2.heap.size := hcb.lt
                  have HC := Lib.hid (RAllC.lit hih ((hrx.mono (fun k hk => (⟨hk, Nat.lt_of_lt_of_le hk.2 HB.out.size⟩ : (S k ∧ k < w.heap.size) ∧ k < W0.heap.size))).stays hb2) hwx)
                  have HCB := Lib.hid hcb
                  have HB2 := Lib.hid hb2
                  have HGB := Lib.hid hgb
                  have HGL := Lib.hid hgl
                  have HW2 := Lib.hid hW2
                  have HSK := Lib.hid (seeK_step hks)
                  have HWX := Lib.hid hwx
                  have HLT := Lib.hid HO.out.2.1.1.lt
                  clear hq hks hwx hih hW2 hgb hb2 hcb hgl hrx hbw
                  go_upto_region 25 with fail
                  rw [← HW2.out, ← HGB.out]
                  have hcb := HCB.out
                  have z0 := hcb.cell 0 (v := .int .i64 k') rfl
                  have z1 := hcb.cell 1 (v := .int .u64 (n' : Int)) rfl
                  have z2 := hcb.cell 2 (v := .string (strB t')) rfl
                  have z3 := hcb.cell 3 (v := .slice fa' fs'.length fc') rfl
                  have z4 := hcb.cell 4 (v := .string (strB r')) rfl
                  have z5 := hcb.cell 5 (v := .slice la' ls'.length lc') rfl
                  have z6 := hcb.cell 6 (v := .slice pa' ps'.length pc') rfl
                  clear hcb HW2 y0 y1 y2 y3 y4 y5 y6
                  go_wp2_with fail
                  refine HC.out.mono ?_
                  rintro e w3 ⟨ys, ay, cy, rfl, hmy, hoy, hb3⟩
                  have HI0 := Lib.hid (InI.start HO.out (HB2.out.trans (hb3.mono HB2.out.size)))
                  have HOY := Lib.hid hoy
                  have HMY := Lib.hid hmy
                  have hyl : ys.length ≤ 1000000 := by
                    have h3 := congrArg List.length HMY.out
                    unfold mapX at h3
                    rw [List.length_map] at h3
                    have h4 := allV_len (.mk k' n' t' fs' r' ls' ps')
                    have h5 := HWX.out
                    omega
                  have HB3 := Lib.hid hb3
                  have HCB3 := Lib.hid (HCB.out.stays hb3)
                  have HT0 : Hid (∀ k ∈ (Value.slice av xs.length cv).ownBlock.toList, W0.heap.size ≤ k ∧ k < gb) := fun k hk => by
                    have := HLT.out k (by simpa using hk)
                    rw [HGB.out]
                    exact this
                  clear hmy hoy hb3 HC z0 z1 z2 z3 z4 z5 z6
                  go_wp2_with fail
                  go_loopw [3, 83] (fun u i wi => ∃ (j : Nat) (xs2 : List PR) (av2 : Option Addr) (cv2 : Nat), j ≤ ys.length ∧ i = .int .i64 j ∧ u = .slice av2 xs2.length cv2 ∧ Hid (InI (fun k => S k ∧ k < w.heap.size) W0 w3 (Value.slice av xs.length cv).ownBlock.toList ([[]] ++ seeK (kidsF fs) ++ seeK (kidsP ps) ++ seeK ((kidsL ls 0).take m) ++ ((allV (.mk k' n' t' fs' r' ls' ps')).take j).map (fun q => (⟨3, (m : Int), 0, V0⟩ : PS) :: q)) xs2 av2 cv2 wi)) (fun _ i _ => ys.length - (intOf i).toNat)
                  case atStart => exact ⟨0, _, _, _, Nat.zero_le _, rfl, rfl, Lib.hid (by simpa using HI0.out)⟩
                  case round =>
                    obtain ⟨j, xs2, av2, cv2, hj, rfl, rfl, HI⟩ := hrel
                    by_cases h2 : j < ys.length
                    · obtain ⟨⟨p, ⟨ap, cp⟩⟩, hpy⟩ : ∃ x, ys[j]? = some x := ⟨_, List.getElem?_eq_getElem h2⟩
                      have hG := HI.out.2.2.2.1
                      obtain ⟨bY, oY, rfl, hcell, hpr⟩ := InI.found (B2 := W2.heap.size) hG HOY.out (fun k hk => ⟨(HT0.out k hk).1, Nat.lt_trans (HT0.out k hk).2 HGL.out⟩) hpy
                      have hcz := HCB3.out.grew hG (fun hm => by have := (HT0.out gb hm).2; omega)
                      have hmem : p.map Prod.fst ∈ allV (.mk k' n' t' fs' r' ls' ps') := by rw [← HMY.out]; unfold mapX; exact List.mem_map.2 ⟨_, List.mem_of_getElem? hpy, rfl⟩
                      have hpl : p.length ≤ 1000000 := by
                        have h3 := path_len _ _ (Nat.lt_succ_self _) _ hmem
                        rw [List.length_map] at h3
                        exact Nat.le_trans h3 HWX.out
                      have HPR := Lib.hid hpr
                      have HRA : Hid (∀ o, RowS sC (wr.alloc o) (.slice ap p.length cp) p) := fun o => RowS.stays hpr.1.1 ((Below.refl _ _).alloc (Nat.le_refl _) o)
                      have HOM : Hid (OwnS 84 10 sC wr.heap.size (wr.alloc (.cells #[.int .i64 3, .int .i64 (m : Int), .int .i64 0, .int .i64 0, .int .u64 0, .string ⟨#[]⟩, .slice none 0 0, .string ⟨#[]⟩, .slice none 0 0, .slice none 0 0] 84)) (.slice (some ⟨wr.heap.size, 0, none⟩) 1 1) [((⟨3, (m : Int), 0, V0⟩, A3.nil) : SQ)]) := OwnS.made1 rfl rfl (Nat.le_refl _)
                      have HPY := Lib.hid hpy
                      clear hmem hpr hpy hG hcz
                      go_wp2_with (at_builtin; go_must (refine wpList_appendS sC_len sC_one Tryz.underlying51 infoQ17 rfl (by decide) HOM.out (HRA.out _) (by simp; omega) (by simp) rfl _ _ rfl (by rfl) (by rfl) ?_))
                      intro v7 w7 how7 hg7 hn7 hnil
                      obtain ⟨a7, c7, rfl, -, -⟩ := RowS.shape (size := 10) how7.row sC_len
                      have hb7 : Below wr.heap.size wr w7 := ((Below.refl _ _).alloc (Nat.le_refl _) _).grown hg7 (by simp) (fun k hk => by simp [Value.ownBlock] at hk; omega)
                      have hx7 : PRep (fun k => (((S k ∧ k < w.heap.size) ∧ k < W0.heap.size) ∨ (W2.heap.size ≤ k ∧ k < w3.heap.size)) ∨ wr.heap.size ≤ k) w7 ([((⟨3, (m : Int), 0, V0⟩, A3.nil) : SQ)] ++ p, (a7, c7)) := by
                        refine ⟨⟨how7.row, fun q hq => ?_⟩, fun _ k hk => .inr (how7.lt k hk).1⟩
                        rcases List.mem_append.1 hq with hq | hq
                        · obtain rfl : q = (⟨3, (m : Int), 0, V0⟩, A3.nil) := by simpa using hq
                          exact ⟨⟨(show i64 3 from ⟨by decide, by decide⟩), (show i64 (m : Int) from ⟨by omega, by omega⟩), (show i64 0 from ⟨by decide, by decide⟩)⟩, rep_none⟩
                        · have h3 := (HPR.out.1.2 q hq).stays hb7
                          exact ⟨h3.1, h3.2.mono (fun k hk => .inl hk)⟩
                      have hxl : xs2.length ≤ 100000000 := by
                        have h3 := congrArg List.length HI.out.1
                        unfold mapX at h3
                        simp only [List.length_map, List.length_append, List.length_cons, List.length_nil, List.length_take] at h3
                        have h4 := seeK_take_len (kidsL ls 0) m
                        have h5 := allF_len fs
                        have h5p := allP_len ps
                        have h5l := allL_len ls 0
                        rw [allF_eq] at h5
                        rw [allP_eq] at h5p
                        rw [allL_eq] at h5l
                        have h6 := allV_len (.mk k' n' t' fs' r' ls' ps')
                        have h7 := HWX.out
                        have h8 := HWV.out
                        rw [wV_eq (.mk k n t fs r ls ps)] at h8
                        simp only [V.fs, V.ls, V.ps] at h8
                        omega
                      have hpy2 : (allV (.mk k' n' t' fs' r' ls' ps'))[j]? = some (p.map Prod.fst) := by rw [← HMY.out]; unfold mapX; rw [List.getElem?_map, HPY.out]; rfl
                      have HM2 : Hid ([[]] ++ seeK (kidsF fs) ++ seeK (kidsP ps) ++ seeK ((kidsL ls 0).take m) ++ ((allV (.mk k' n' t' fs' r' ls' ps')).take j).map (fun q => (⟨3, (m : Int), 0, V0⟩ : PS) :: q) ++ [([((⟨3, (m : Int), 0, V0⟩, A3.nil) : SQ)] ++ p).map Prod.fst] = [[]] ++ seeK (kidsF fs) ++ seeK (kidsP ps) ++ seeK ((kidsL ls 0).take m) ++ ((allV (.mk k' n' t' fs' r' ls' ps')).take (j + 1)).map (fun q => (⟨3, (m : Int), 0, V0⟩ : PS) :: q)) := by
                        show _ = _
                        rw [List.take_add_one, hpy2]; simp
                      clear hpy2
                      have HX7 := Lib.hid hx7
                      have HB7 := Lib.hid hb7
                      have HO2 := Lib.hid (HI.out.2.1.1.stays hb7)
                      have hs7 : W0.heap.size ≤ w7.heap.size := Nat.le_trans HI.out.2.2.1.size hb7.size
                      clear hx7 hb7 how7 hg7 hn7 hnil HRA HOM hcell hpl 
                      go_wp2_with (at_builtin; go_must (refine wpList_pushS prC_len prC_one Tryz.underlying58 infoPs17 rfl (by decide) HO2.out (([((⟨3, (m : Int), 0, V0⟩, A3.nil) : SQ)] ++ p, (a7, c7)) : PR) hxl hs7 rfl _ _ rfl (by rfl) _ _ _ (by rfl) (by rfl) ?_))
                      intro v9 w9 ho9 hg9 hn9
                      have hgs : gb < W2.heap.size := HGL.out
                      have hws : W0.heap.size ≤ gb := by rw [HGB.out]; exact HO.out.2.2.size
                      obtain ⟨a9, c9, rfl, hI9⟩ := InI.push HI.out HB7.out ho9 hg9 hn9 HX7.out (fun k hk => by
                        rcases hk with (hk | hk) | hk
                        · exact .inl hk
                        · refine .inr ⟨by omega, fun e => ?_⟩
                          rcases HI.out.2.2.2.2 k e with h | h
                          · have := (HT0.out k h).2; omega
                          · omega
                        · refine .inr ⟨Nat.le_trans HI.out.2.2.1.size hk, fun e => ?_⟩
                          have := (HI.out.2.1.1.lt k e).2
                          omega)
                      have HI9 := Lib.hid (hI9.conv HM2.out)
                      clear hI9 ho9 hg9 hn9 hgs hws hs7 HX7 HB7 HO2 HM2 HI HPR hxl
                      go_wp2_with fail
                      go_roundw
                      case rel => exact ⟨j + 1, _, a9, c9, h2, by go_num, by rw [List.length_append]; rfl, HI9.out⟩
                      case measure => simp only [intOf]; omega
                    · obtain rfl : j = ys.length := by omega
                      have HON : Hid (OutI (fun k => S k ∧ k < w.heap.size) W0 ([[]] ++ seeK (kidsF fs) ++ seeK (kidsP ps)) (kidsL ls 0) (m + 1) xs2 av2 cv2 wr) := by
                        refine ⟨?_, HI.out.2.1, HI.out.2.2.1⟩
                        have h3 := HI.out.1
                        have h4 : (allV (.mk k' n' t' fs' r' ls' ps')).length = ys.length := by rw [← HMY.out]; unfold mapX; rw [List.length_map]
                        rw [← h4, List.take_length] at h3
                        rw [h3, HSK.out, List.append_assoc]
                      clear HI
                      go_wp2_with fail
                      go_roundw
                      case rel => exact ⟨m + 1, xs2, av2, cv2, h1, by go_num, rfl, HON.out⟩
                      case measure => simp only [intOf]; omega
                · obtain rfl : m = ls.length := by omega
                  have HD := Lib.hid (OutI.done HO.out (Nat.le_of_eq (kidsL_len ls 0)) HB.out.size)
                  have HBW : Hid (Below w.heap.size w wr) := HB.out.trans (HO.out.2.2.mono HB.out.size)
                  clear HO
                  go_wp2_with fail
                  go_ret
                  refine ⟨xs, av, cv, rfl, ?_, HD.out.2, HBW.out⟩
                  rw [HD.out.1, HZ.out]
                  simp only [List.append_assoc, List.cons_append, List.nil_append]
end Go.Proofs.YtcjflglpkpkflaaGreatDoor
namespace Go.Proofs.YtcjflglpkpkflaaGreatDoor
open Go Go.RowKit
set_option linter.unusedVariables false
/-- elements that are read are appended, at a step of a region that draws its order -/
theorem step_appendS {α : Type} {cs : α → List Value} {E T : TypeId} {size B : Nat} {w : World} {v : Value} {xs : List α} {P : Program} {ops : Array Oper} {o : Oper} {a : Act} {K : Act → World → Prop} {Q : Exit → Act → World → Prop} {EE : Prop} (hcs : ∀ x, (cs x).length = size) (hf : ∀ x : α, (cs x).all Value.oneCell' = true) {z : Value} {bytes : Nat} (ht : P.underlying T = some (.slice E))
    (hinf : (P.info? E).map (fun i => (i.zero, i.size, i.bytes)) = some (some z, size, bytes)) (hz : z.cells.size = size) (hbs : bytes ≤ 1000) (hown : OwnS E size cs B w v xs) {x' : Value} {ys : List α} (hr : RowS cs w x' ys) (h63 : xs.length + ys.length ≤ 100000000) (hbase : B ≤ w.heap.size)
    (hgd : o.guard = none) (s y : Operand) (ho : o.op = .call { callee := .builtin .append, args := #[s, y], argTypes := #[T, T] }) (hs : a.eval s = v) (hx : a.eval y = x')
    (h : ∀ v' w', OwnS E size cs B w' v' (xs ++ ys) → w.grownBy w' v.ownBlock → NewOrSame w v v' → K (a.put o.dst v') w') :
    if Region.wanted o (yielded ops a.tmps) = true then Oper.wp P o a w K Q else EE := by
  have hw : Region.wanted o (yielded ops a.tmps) = true := by simp [Region.wanted, hgd]
  rw [if_pos hw]
  obtain ⟨i, hi, hz0, hz1, hz2⟩ := info_parts hinf
  have hby : (xs.length + ys.length) * bytes ≤ 140737488355328 := by
    have := Nat.mul_le_mul h63 hbs
    omega
  obtain ⟨v', w', h1, h2, h3, h4, h5⟩ := run_append_src w B T T o.type E i z size bytes ht hi hz0 hz1 hz2 hz v xs.length (xs.flatMap cs) hown x' ys.length (ys.flatMap cs) (Row.src hr ht (flat_len hcs ys) (fun u hu => by
      obtain ⟨q, _, hq⟩ := List.mem_flatMap.1 hu
      exact List.all_eq_true.1 (hf q) u hq)) (by unfold maxLen; omega) hby hbase
  exact Lib.wp_append_run _ s y T T ho v _ hs hx v' w' h1 (h v' w' (by unfold OwnS; simpa using h2) h3 h4)
theorem infoPth : (Tryz.prog.info? 23).map (fun i => (i.zero, i.size, i.bytes)) = some (some (.slice none 0 0), 1, 24) := by kernel_rfl
theorem below_alX {W1 W : World} (h : Below W1.heap.size W1 W) (o : Obj) : Below W1.heap.size W1 (W.alloc o) := h.alloc h.size o
/-- the walker at block g, with the paths that it has gathered -/
def Wlk (S0 : Nat → Prop) (g : Nat) (w : World) (xs : List PR) (av : Option Addr) (cv : Nat) : Prop :=
  CellsAt w g 99 #[.slice av xs.length cv] ∧ OfX 23 S0 (g + 1) w (.slice av xs.length cv) xs
theorem Wlk.below {S0 : Nat → Prop} {g : Nat} {w w' : World} {xs : List PR} {av : Option Addr} {cv : Nat} (h : Wlk S0 g w xs av cv) (hb : Below w.heap.size w w') : Wlk S0 g w' xs av cv := ⟨h.1.stays hb, h.2.below hb⟩
/-- where a path that is walked may lie: not in the row of what is gathered -/
def AtS (S0 : Nat → Prop) (g n : Nat) (av : Option Addr) (cv : Nat) : Nat → Prop := fun k => S0 k ∨ (g + 1 ≤ k ∧ (Value.slice av n cv).ownBlock ≠ some k)
/-- what is gathered behind xs, since w0: the paths MP; T0 the block in which the row lay -/
def WalkI (S0 : Nat → Prop) (g : Nat) (MP : List (List PS)) (xs : List PR) (T0 : List Nat) (w0 w : World) : Prop :=
  ∃ (ys : List PR) (av : Option Addr) (cv : Nat), mapX ys = MP ∧ Wlk S0 g w (xs ++ ys) av cv ∧ Grew (g :: T0) w0 w ∧ ∀ k, (Value.slice av (xs ++ ys).length cv).ownBlock = some k → k ∈ T0 ∨ w0.heap.size ≤ k
theorem WalkI.start {S0 : Nat → Prop} {g : Nat} {w0 w : World} {xs : List PR} {av : Option Addr} {cv : Nat} (h : Wlk S0 g w0 xs av cv) (hb : Below w0.heap.size w0 w) : WalkI S0 g [] xs (Value.slice av xs.length cv).ownBlock.toList w0 w :=
  ⟨[], av, cv, rfl, by rw [List.append_nil]; exact h.below hb, Grew.ofBelow hb, fun k hk => .inl (by rw [List.append_nil] at hk; rw [hk]; simp)⟩
theorem WalkI.add {S0 : Nat → Prop} {g : Nat} {MP MP' : List (List PS)} {xs ys : List PR} {T0 : List Nat} {w0 w1 w2 w3 : World} {av : Option Addr} {cv : Nat} (hm : mapX ys = MP) (hG : Grew (g :: T0) w0 w1)
    (hn : ∀ k, (Value.slice av (xs ++ ys).length cv).ownBlock = some k → k ∈ T0 ∨ w0.heap.size ≤ k) (hb : Below w1.heap.size w1 w2) (h : WalkI S0 g MP' (xs ++ ys) (Value.slice av (xs ++ ys).length cv).ownBlock.toList w2 w3) : WalkI S0 g (MP ++ MP') xs T0 w0 w3 := by
  obtain ⟨zs, a3, c3, h1, h2, h3, h4⟩ := h
  have h02 := hG.add hb
  refine ⟨ys ++ zs, a3, c3, ?_, ?_, ?_, ?_⟩
  · unfold mapX at hm h1 ⊢; rw [List.map_append, hm, h1]
  · rw [← List.append_assoc]; exact h2
  · refine h02.step h3 (fun i hi => ?_)
    rcases List.mem_cons.1 hi with rfl | hi
    · exact .inl (by simp)
    · rcases hn i (by simpa using hi) with h | h
      · exact .inl (by simp [h])
      · exact .inr h
  · intro k hk
    rw [← List.append_assoc] at hk
    rcases h4 k hk with h | h
    · exact hn k (by simpa using h)
    · exact .inr (Nat.le_trans h02.size h)
theorem WalkI.conv {S0 : Nat → Prop} {g : Nat} {MP MP' : List (List PS)} {xs : List PR} {T0 : List Nat} {w0 w : World} (h : WalkI S0 g MP xs T0 w0 w) (e : MP = MP') : WalkI S0 g MP' xs T0 w0 w := e ▸ h
/-- seen from an earlier world -/
theorem WalkI.since {S0 : Nat → Prop} {g : Nat} {MP : List (List PS)} {xs : List PR} {T0 : List Nat} {w0 w1 w : World} (h : WalkI S0 g MP xs T0 w1 w) (hb : Below w0.heap.size w0 w1) : WalkI S0 g MP xs T0 w0 w := by
  obtain ⟨ys, av, cv, h1, h2, h3, h4⟩ := h
  exact ⟨ys, av, cv, h1, h2, (Grew.ofBelow (S := g :: T0) hb).trans h3, fun k hk => (h4 k hk).imp id (fun h => Nat.le_trans hb.size h)⟩
/-- what walk tells -/
def WalkC (v : V) : Prop := ∀ (a : A3) (S0 : Nat → Prop) (g : Nat) (w : World) (xs : List PR) (av : Option Addr) (cv : Nat) (pt : List SQ) (ap : Option Addr) (cp : Nat),
  (∀ k, S0 k → k < g) → Rep S0 w v a → pt.length + wV v ≤ 1000000 → xs.length + (allV v).length ≤ 100000000 → Wlk S0 g w xs av cv → PRep (AtS S0 g xs.length av cv) w (pt, (ap, cp)) →
  Calls Tryz.prog 45 #[.pointer (some ⟨g, 0, none⟩), vG (v, a), .slice ap pt.length cp] w fun e w' => e = .returned (.tuple #[]) ∧ WalkI S0 g ((allV v).map (fun q => pt.map Prod.fst ++ q)) xs (Value.slice av xs.length cv).ownBlock.toList w w'
theorem WalkC.lit {k : Int} {n : Nat} {t r : List UInt8} {fs : List (Int × V)} {ls : List V} {ps : List (V × V)} {fa la pa : Option Addr} {fc lc pc : Nat} (h : WalkC (.mk k n t fs r ls ps)) {S0 : Nat → Prop} {g : Nat} {w : World} {xs : List PR} {av : Option Addr} {cv : Nat} {pt : List SQ} {ap : Option Addr} {cp : Nat}
    (hS : ∀ k, S0 k → k < g) (hr : Rep S0 w (.mk k n t fs r ls ps) ⟨fa, fc, la, lc, pa, pc⟩) (hw : pt.length + wV (.mk k n t fs r ls ps) ≤ 1000000) (hx : xs.length + (allV (.mk k n t fs r ls ps)).length ≤ 100000000) (hW : Wlk S0 g w xs av cv) (hp : PRep (AtS S0 g xs.length av cv) w (pt, (ap, cp))) :
    Calls Tryz.prog 45 #[.pointer (some ⟨g, 0, none⟩), .agg #[.int .i64 k, .int .u64 (n : Int), .string (strB t), .slice fa fs.length fc, .string (strB r), .slice la ls.length lc, .slice pa ps.length pc], .slice ap pt.length cp] w fun e w' => e = .returned (.tuple #[]) ∧ WalkI S0 g ((allV (.mk k n t fs r ls ps)).map (fun q => pt.map Prod.fst ++ q)) xs (Value.slice av xs.length cv).ownBlock.toList w w' := by
  have := h ⟨fa, fc, la, lc, pa, pc⟩ S0 g w xs av cv pt ap cp hS hr hw hx hW hp
  rw [vG_lit] at this
  exact this
/-- a path with a step more, in a row of the call's own -/
theorem PRep.more {S0 : Nat → Prop} {g n : Nat} {av : Option Addr} {cv : Nat} {w w7 : World} {pt : List SQ} {ap : Option Addr} {cp B : Nat} {q : SQ} {v7 : Value} (hp : PRep (AtS S0 g n av cv) w (pt, (ap, cp))) (hown : ∀ k, (Value.slice av n cv).ownBlock = some k → k < w.heap.size) (hg : g < w.heap.size)
    (hb : Below w.heap.size w w7) (hB : w.heap.size ≤ B) (ho : OwnS 62 10 sC B w7 v7 (pt ++ [q])) (hi : i64 q.1.k ∧ i64 q.1.n ∧ i64 q.1.t) (hk : Rep S0 w q.1.v q.2) :
    ∃ (a7 : Option Addr) (c7 : Nat), v7 = .slice a7 (pt ++ [q]).length c7 ∧ PRep (AtS S0 g n av cv) w7 (pt ++ [q], (a7, c7)) := by
  obtain ⟨a7, c7, rfl, -, -⟩ := RowS.shape (size := 10) ho.row sC_len
  refine ⟨a7, c7, rfl, ⟨ho.row, fun y hy => ?_⟩, fun _ k hk => ?_⟩
  · rcases List.mem_append.1 hy with hy | hy
    · exact ⟨(hp.1.2 y hy).1, (hp.1.2 y hy).2.stays hb⟩
    · obtain rfl : y = q := by simpa using hy
      exact ⟨hi, (hk.stays hb).mono (fun k hk => .inl hk)⟩
  · have h1 := (ho.lt k hk).1
    exact .inr ⟨by omega, fun e => by have := hown k e; omega⟩
/-- one path more is gathered -/
theorem Wlk.push {S0 : Nat → Prop} {g : Nat} {w W0 w3 w9 : World} {xs : List PR} {av ap a3 : Option Addr} {cv cp c3 B3 : Nat} {pt : List SQ} {v9 : Value} (hS : ∀ k, S0 k → k < g) (hW : Wlk S0 g w xs av cv) (hp : PRep (AtS S0 g xs.length av cv) w (pt, (ap, cp)))
    (hb0 : Below w.heap.size w W0) (hb3 : Below W0.heap.size W0 w3) (ho3 : OwnS 62 10 sC B3 w3 (.slice a3 pt.length c3) pt) (hB : W0.heap.size ≤ B3)
    (ho9 : OwnS 23 1 prC (g + 1) w9 v9 (xs ++ [(pt, (a3, c3))])) (hg9 : w3.grownBy w9 (Value.slice av xs.length cv).ownBlock) (hn9 : NewOrSame w3 (.slice av xs.length cv) v9) :
    WalkI S0 g [pt.map Prod.fst] xs (Value.slice av xs.length cv).ownBlock.toList W0 (w9.setCell ⟨g, 0, none⟩ v9) := by
  have hown : ∀ k, (Value.slice av xs.length cv).ownBlock = some k → g + 1 ≤ k ∧ k < w.heap.size := fun k hk => hW.2.1.lt k hk
  have hgl : g < w.heap.size := hW.1.lt
  have hb03 : Below w.heap.size w w3 := hb0.trans (hb3.mono hb0.size)
  have hx : PRep (fun k => AtS S0 g xs.length av cv k ∨ W0.heap.size ≤ k) w3 (pt, (a3, c3)) := by
    refine ⟨⟨ho3.row, fun q hq => ?_⟩, fun _ k hk => .inr (Nat.le_trans hB (ho3.lt k hk).1)⟩
    have h1 := (hp.1.2 q hq).stays hb03
    exact ⟨h1.1, h1.2.mono (fun k hk => .inl hk)⟩
  have hP := OfX.push hW.2 hb03 hgl hx (fun k hk => by
    rcases hk with (hk | hk) | hk
    · exact .inl ⟨hk, Nat.lt_succ_of_lt (hS k hk)⟩
    · exact .inr hk
    · refine .inr ⟨by have := hb0.size; omega, fun e => ?_⟩
      have h1 := (hown k e).2
      have h2 := hb0.size
      omega) ho9 hg9 hn9
  have hG9 : Grew (Value.slice av xs.length cv).ownBlock.toList W0 w9 := (Grew.ofBelow hb3).grown hg9 (fun i hi => .inl (by rw [hi]; simp))
  have hcg : CellsAt w9 g 99 #[.slice av xs.length cv] := (hW.1.stays hb03).grown hg9 (fun e => by have := (hown g e).1; omega)
  obtain ⟨a9, c9, hv, -, -⟩ := RowS.shape (size := 1) hP.row prC_len
  have hs : Grew [g] w9 (w9.setCell ⟨g, 0, none⟩ v9) := (Grew.refl _ _).setCell (p := ⟨g, 0, none⟩) (.inl (by simp)) v9
  refine ⟨[(pt, (a3, c3))], a9, c9, rfl, ⟨?_, ?_⟩, ?_, ?_⟩
  · have := hcg.set 0 v9
    rw [← hv]
    exact this
  · rw [← hv]
    refine hP.grew hs (fun k hk => ?_)
    obtain rfl : k = g := by simpa using hk
    exact .inr ⟨Nat.lt_succ_self _, fun h => absurd (hS _ h) (Nat.lt_irrefl _)⟩
  · exact (hG9.mono (fun i hi => by simp [hi])).step hs (fun i hi => .inl (by simp at hi; simp [hi]))
  · intro k hk
    rw [← hv] at hk
    rcases hn9 k hk with h | h
    · exact .inl (by rw [h]; simp)
    · exact .inr (Nat.le_trans hb3.size h)
/-- what walk reads ahead of its loops -/
def WkC (g b : Nat) (ov pv : Value) (W : World) : Prop := CellsAt W b 97 #[.pointer (some ⟨g, 0, none⟩)] ∧ CellsAt W (b + 2) 23 #[pv] ∧ CellsAt W g 99 #[ov]
/-- what the closure reads -/
def InC (g b3 b5 b : Nat) (pv : Value) (st xv : Array Value) (W : World) : Prop := CellsAt W b3 97 #[.pointer (some ⟨g, 0, none⟩)] ∧ CellsAt W b5 23 #[pv] ∧ CellsAt W b 62 st ∧ CellsAt W (b + 1) 38 xv
set_option maxRecDepth 100000 in
set_option maxHeartbeats 8000000 in
theorem inner_any {S0 : Nat → Prop} {g b3 b5 : Nat} {w : World} {xs : List PR} {av ap : Option Addr} {cv cp : Nat} {pt : List SQ} {K N : Int} {k' k2 : Int} {n' n2 : Nat} {t' r' t2 r2 : List UInt8} {fs' fs2 : List (Int × V)} {ls' ls2 : List V} {ps' ps2 : List (V × V)} {fa' la' pa' fa2 la2 pa2 : Option Addr} {fc' lc' pc' fc2 lc2 pc2 : Nat}
    (hx : WalkC (.mk k2 n2 t2 fs2 r2 ls2 ps2)) (hS : ∀ k, S0 k → k < g) (h3 : CellsAt w b3 97 #[.pointer (some ⟨g, 0, none⟩)]) (h5 : CellsAt w b5 23 #[.slice ap pt.length cp]) (hW : Wlk S0 g w xs av cv) (hp : PRep (AtS S0 g xs.length av cv) w (pt, (ap, cp)))
    (hK : i64 K) (hN : i64 N) (hrk : Rep S0 w (.mk k' n' t' fs' r' ls' ps') ⟨fa', fc', la', lc', pa', pc'⟩) (hrx : Rep S0 w (.mk k2 n2 t2 fs2 r2 ls2 ps2) ⟨fa2, fc2, la2, lc2, pa2, pc2⟩) (hlen : pt.length + 1 + wV (.mk k2 n2 t2 fs2 r2 ls2 ps2) ≤ 1000000) (hxl : xs.length + (allV (.mk k2 n2 t2 fs2 r2 ls2 ps2)).length ≤ 100000000) :
    Calls Tryz.prog 68 #[.agg #[.int .i64 K, .int .i64 N, .int .i64 0, .int .i64 k', .int .u64 (n' : Int), .string (strB t'), .slice fa' fs'.length fc', .string (strB r'), .slice la' ls'.length lc', .slice pa' ps'.length pc'], .agg #[.int .i64 k2, .int .u64 (n2 : Int), .string (strB t2), .slice fa2 fs2.length fc2, .string (strB r2), .slice la2 ls2.length lc2, .slice pa2 ps2.length pc2], .pointer (some ⟨b3, 0, none⟩), .pointer (some ⟨b5, 0, none⟩)] w fun e w' => e = .returned (.tuple #[]) ∧ WalkI S0 g ((allV (.mk k2 n2 t2 fs2 r2 ls2 ps2)).map (fun q => pt.map Prod.fst ++ (⟨K, N, 0, .mk k' n' t' fs' r' ls' ps'⟩ : PS) :: q)) xs (Value.slice av xs.length cv).ownBlock.toList w w' := by
  obtain ⟨W1, hW1⟩ : ∃ W1, W1 = (w.alloc (.cells #[.int .i64 K, .int .i64 N, .int .i64 0, .int .i64 k', .int .u64 (n' : Int), .string (strB t'), .slice fa' fs'.length fc', .string (strB r'), .slice la' ls'.length lc', .slice pa' ps'.length pc'] 62)).alloc (.cells #[.int .i64 k2, .int .u64 (n2 : Int), .string (strB t2), .slice fa2 fs2.length fc2, .string (strB r2), .slice la2 ls2.length lc2, .slice pa2 ps2.length pc2] 38) := ⟨_, rfl⟩
  obtain ⟨b, hb⟩ : ∃ b, b = w.heap.size := ⟨_, rfl⟩
  have hb1 : Below w.heap.size w W1 := by rw [hW1]; exact ((Below.refl _ _).alloc (Nat.le_refl _) _).alloc (by simp) _
  have hc4 : CellsAt W1 b 62 #[.int .i64 K, .int .i64 N, .int .i64 0, .int .i64 k', .int .u64 (n' : Int), .string (strB t'), .slice fa' fs'.length fc', .string (strB r'), .slice la' ls'.length lc', .slice pa' ps'.length pc'] := by rw [hW1, hb]; exact (CellsAt.new w _ _).stays ((Below.refl _ _).alloc (Nat.le_refl _) _)
  have hc5 : CellsAt W1 (b + 1) 38 #[.int .i64 k2, .int .u64 (n2 : Int), .string (strB t2), .slice fa2 fs2.length fc2, .string (strB r2), .slice la2 ls2.length lc2, .slice pa2 ps2.length pc2] := by
    have := CellsAt.new (w.alloc (.cells #[.int .i64 K, .int .i64 N, .int .i64 0, .int .i64 k', .int .u64 (n' : Int), .string (strB t'), .slice fa' fs'.length fc', .string (strB r'), .slice la' ls'.length lc', .slice pa' ps'.length pc'] 62)) #[.int .i64 k2, .int .u64 (n2 : Int), .string (strB t2), .slice fa2 fs2.length fc2, .string (strB r2), .slice la2 ls2.length lc2, .slice pa2 ps2.length pc2] 38
    rw [hW1, hb]; simpa using this
  have HX : Hid (∀ W, Below W1.heap.size W1 W → InC g b3 b5 b (.slice ap pt.length cp) #[.int .i64 K, .int .i64 N, .int .i64 0, .int .i64 k', .int .u64 (n' : Int), .string (strB t'), .slice fa' fs'.length fc', .string (strB r'), .slice la' ls'.length lc', .slice pa' ps'.length pc'] #[.int .i64 k2, .int .u64 (n2 : Int), .string (strB t2), .slice fa2 fs2.length fc2, .string (strB r2), .slice la2 ls2.length lc2, .slice pa2 ps2.length pc2] W) := fun W h => ⟨(h3.stays hb1).stays h, (h5.stays hb1).stays h, hc4.stays h, hc5.stays h⟩
  have HCL : Hid (∀ W, Below W1.heap.size W1 W → Calls Tryz.prog 67 #[.slice ap pt.length cp] W fun e w' => ∃ v', e = .returned v' ∧ OwnS 62 10 sC W.heap.size w' v' pt ∧ Below W.heap.size W w') := fun W h => clonePath_any _ pt W ((hp.1.1.stays hb1).stays h) (by omega)
  have HGO : Hid (∀ W, Below W1.heap.size W1 W → ∀ (B : Nat) (v7 : Value), W1.heap.size ≤ B → OwnS 62 10 sC B W v7 (pt ++ [((⟨K, N, 0, .mk k' n' t' fs' r' ls' ps'⟩, ⟨fa', fc', la', lc', pa', pc'⟩) : SQ)]) → ∃ (a7 : Option Addr) (c7 : Nat), v7 = .slice a7 (pt.length + 1) c7 ∧
      Calls Tryz.prog 45 #[.pointer (some ⟨g, 0, none⟩), .agg #[.int .i64 k2, .int .u64 (n2 : Int), .string (strB t2), .slice fa2 fs2.length fc2, .string (strB r2), .slice la2 ls2.length lc2, .slice pa2 ps2.length pc2], .slice a7 (pt.length + 1) c7] W fun e w' => e = .returned (.tuple #[]) ∧ WalkI S0 g ((allV (.mk k2 n2 t2 fs2 r2 ls2 ps2)).map (fun q => pt.map Prod.fst ++ (⟨K, N, 0, .mk k' n' t' fs' r' ls' ps'⟩ : PS) :: q)) xs (Value.slice av xs.length cv).ownBlock.toList w w') := fun W h B v7 hB ho => by
    have hbw : Below w.heap.size w W := hb1.trans (h.mono hb1.size)
    obtain ⟨a7, c7, hv, hq⟩ := PRep.more hp (fun k hk => (hW.2.1.lt k hk).2) hW.1.lt hbw (Nat.le_trans hb1.size hB) ho ⟨hK, hN, (show i64 0 from ⟨by decide, by decide⟩)⟩ hrk
    have hl : (pt ++ [((⟨K, N, 0, .mk k' n' t' fs' r' ls' ps'⟩, ⟨fa', fc', la', lc', pa', pc'⟩) : SQ)]).length = pt.length + 1 := by simp
    rw [hl] at hv
    rw [← hl]
    refine ⟨a7, c7, by rw [hl]; exact hv, (WalkC.lit hx hS (hrx.stays hbw) (by rw [List.length_append]; simp; omega) hxl (hW.below hbw) hq).mono ?_⟩
    rintro e w8 ⟨rfl, hI⟩
    refine ⟨rfl, (hI.since hbw).conv ?_⟩
    simp
  have HPL : Hid (pt.length ≤ 1000000) := by show _ ≤ _; omega
  have hd0 : Below W1.heap.size W1 W1.drew := (Below.refl _ _).drew
  have HW := Lib.hid hW1
  have HG := Lib.hid hb
  clear hx hS h3 h5 hW hp hK hN hrk hrx hlen hxl hb1 hc4 hc5 hW1 hb
  go_enter Tryz.func68, Tryz.ntmps68
  go_upto_region 1 with fail
  rw [← HW.out, ← HG.out]
  clear HW HG
  refine wp_region_noPanic ?_
  refine wp_region_K (InC g b3 b5 b (.slice ap pt.length cp) #[.int .i64 K, .int .i64 N, .int .i64 0, .int .i64 k', .int .u64 (n' : Int), .string (strB t'), .slice fa' fs'.length fc', .string (strB r'), .slice la' ls'.length lc', .slice pa' ps'.length pc'] #[.int .i64 k2, .int .u64 (n2 : Int), .string (strB t2), .slice fa2 fs2.length fc2, .string (strB r2), .slice la2 ls2.length lc2, .slice pa2 ps2.length pc2]) 7 (by kernel_rfl) (HX.out _ hd0) (fun hC0 => ?_)
  refine wpAnyK_take (i := 0) (oi := ⟨some 6, _, _, _, _, _⟩) (v := ?_) [7] rfl (by kernel_rfl) (by kernel_rfl) (by kernel_rfl) (by kernel_rfl) (fun _ _ _ h => h) (Or.inl ⟨by rfl, ?_⟩) (by assumption) ?_
  rotate_left
  focus
    intro wq hSq
    have e0 := hSq.1.cell 0 (v := .pointer (some ⟨g, 0, none⟩)) rfl
    clear hSq
    go_simp
    try (with_reducible rfl)
  try simp only [Act.put, List.setIfInBounds_toArray, List.set_cons_zero, List.set_cons_succ]
  refine wpAnyK_take (i := 1) (oi := ⟨some 7, _, _, _, _, _⟩) (v := ?_) [7] rfl (by kernel_rfl) (by kernel_rfl) (by kernel_rfl) (by kernel_rfl) (fun _ _ _ h => h) (Or.inl ⟨by rfl, ?_⟩) (by assumption) ?_
  rotate_left
  focus
    intro wq hSq
    have e0 := hSq.2.2.2.cell 0 (v := .int .i64 k2) rfl
    have e1 := hSq.2.2.2.cell 1 (v := .int .u64 (n2 : Int)) rfl
    have e2 := hSq.2.2.2.cell 2 (v := .string (strB t2)) rfl
    have e3 := hSq.2.2.2.cell 3 (v := .slice fa2 fs2.length fc2) rfl
    have e4 := hSq.2.2.2.cell 4 (v := .string (strB r2)) rfl
    have e5 := hSq.2.2.2.cell 5 (v := .slice la2 ls2.length lc2) rfl
    have e6 := hSq.2.2.2.cell 6 (v := .slice pa2 ps2.length pc2) rfl
    clear hSq
    go_simp
    try (with_reducible rfl)
  try simp only [Act.put, List.setIfInBounds_toArray, List.set_cons_zero, List.set_cons_succ]
  refine wpAnyK_take (i := 2) (oi := ⟨some 8, _, _, _, _, _⟩) (v := ?_) [3, 6, 7] rfl (by kernel_rfl) (by kernel_rfl) (by kernel_rfl) (by kernel_rfl) (fun _ _ _ h => h) (Or.inl ⟨by rfl, ?_⟩) (by assumption) ?_
  rotate_left
  focus
    intro wq hSq
    have e0 := hSq.2.1.cell 0 (v := .slice ap pt.length cp) rfl
    clear hSq
    go_simp
    try (with_reducible rfl)
  try simp only [Act.put, List.setIfInBounds_toArray, List.set_cons_zero, List.set_cons_succ]
  refine wpAnyK_take (i := 4) (oi := ⟨some 10, _, _, _, _, _⟩) (v := ?_) [5, 6, 7] rfl (by kernel_rfl) (by kernel_rfl) (by kernel_rfl) (by kernel_rfl) (fun _ _ _ h => h) (Or.inl ⟨by rfl, ?_⟩) (by assumption) ?_
  rotate_left
  focus
    intro wq hSq
    have e0 := hSq.2.2.1.cell 0 (v := .int .i64 K) rfl
    have e1 := hSq.2.2.1.cell 1 (v := .int .i64 N) rfl
    have e2 := hSq.2.2.1.cell 2 (v := .int .i64 0) rfl
    have e3 := hSq.2.2.1.cell 3 (v := .int .i64 k') rfl
    have e4 := hSq.2.2.1.cell 4 (v := .int .u64 (n' : Int)) rfl
    have e5 := hSq.2.2.1.cell 5 (v := .string (strB t')) rfl
    have e6 := hSq.2.2.1.cell 6 (v := .slice fa' fs'.length fc') rfl
    have e7 := hSq.2.2.1.cell 7 (v := .string (strB r')) rfl
    have e8 := hSq.2.2.1.cell 8 (v := .slice la' ls'.length lc') rfl
    have e9 := hSq.2.2.1.cell 9 (v := .slice pa' ps'.length pc') rfl
    clear hSq
    go_simp
    try (with_reducible rfl)
  try simp only [Act.put, List.setIfInBounds_toArray, List.set_cons_zero, List.set_cons_succ]
  refine wpAnyK_ready (rs := [3, 5]) (by kernel_rfl) (by simp) ?_
  refine AllReadyK.cons (o := _) rfl (fun K1 hK => ?_) (AllReadyK.cons (o := _) rfl (fun K1 hK => ?_) AllReadyK.nil)
  · go_simp
    go_at_call 67
    refine (HCL.out _ hd0).mono ?_
    rintro e w3 ⟨v3, rfl, how3, hb3⟩
    have hd3 := hd0.trans (hb3.mono hd0.size)
    have hs3 := Nat.le_trans hd0.size (Nat.le_refl _)
    go_wp2_with fail
    refine hK.out _ _ (HX.out _ hd3) ?_
    clear hK K1
    try simp only [Act.put, List.setIfInBounds_toArray, List.set_cons_zero, List.set_cons_succ]
    refine wpAnyK_ready (rs := [5]) (by kernel_rfl) (by simp) ?_
    refine AllReadyK.cons (o := _) rfl (fun K1 hK => ?_) AllReadyK.nil
    go_simp
    refine hK.out _ _ (HX.out _ (below_alX hd3 _)) ?_
    clear hK K1
    try simp only [Act.put, List.setIfInBounds_toArray, List.set_cons_zero, List.set_cons_succ]
    refine wpAnyK_ready (rs := [6]) (by kernel_rfl) (by simp) ?_
    refine AllReadyK.cons (o := _) rfl (fun K1 hK => ?_) AllReadyK.nil
    have HBS : W1.heap.size ≤ W1.drew.heap.size := hd0.size
    have HB7 : ∀ w7, w3.grownBy w7 v3.ownBlock → Below W1.heap.size W1 w7 := fun w7 h => hd3.grown h hd3.size (fun k hk => Nat.le_trans HBS (how3.lt k hk).1)
    refine step_pushS sC_len sC_one Tryz.underlying23 infoSt rfl (by decide) how3 ((⟨K, N, 0, .mk k' n' t' fs' r' ls' ps'⟩, ⟨fa', fc', la', lc', pa', pc'⟩) : SQ) (Nat.le_trans HPL.out (by decide)) hb3.size rfl _ _ rfl (by rfl) _ _ _ (by rfl) (by rfl) ?_
    intro v7 w7 how7 hg7 hn7
    have hd7 : Below W1.heap.size W1 w7 := HB7 w7 hg7
    obtain ⟨a7, c7, rfl, hC⟩ := HGO.out _ hd7 _ v7 HBS how7
    have HC := Lib.hid hC
    clear hC how7 hg7 hn7 HB7 HBS
    refine hK.out _ _ (HX.out _ hd7) ?_
    clear hK K1
    try simp only [Act.put, List.setIfInBounds_toArray]
    refine wpAnyK_ready (rs := [7]) (by kernel_rfl) (by simp) ?_
    refine AllReadyK.last (o := _) rfl (by kernel_rfl) (fun K1 hK => ?_) AllReadyK.nil
    go_simp
    go_at_call 45
    refine HC.out.mono ?_
    rintro e w8 ⟨rfl, hI⟩
    have HI := Lib.hid hI
    clear hI
    go_wp2_with fail
    refine hK.out _ _ ?_
    clear hK K1
    refine wpAnyK_done (by kernel_rfl) ?_ _
    refine NoPanic.normal ?_
    go_wp2_with fail
    go_end0
    exact ⟨rfl, HI.out⟩
  · go_simp
    refine hK.out _ _ (HX.out _ (below_alX hd0 _)) ?_
    clear hK K1
    try simp only [Act.put, List.setIfInBounds_toArray, List.set_cons_zero, List.set_cons_succ]
    have hd1 := below_alX hd0 (.cells #[.int .i64 K, .int .i64 N, .int .i64 0, .int .i64 k', .int .u64 (n' : Int), .string (strB t'), .slice fa' fs'.length fc', .string (strB r'), .slice la' ls'.length lc', .slice pa' ps'.length pc'] 62)
    have HRW : Hid (RowS sC (W1.drew.alloc (.cells #[.int .i64 K, .int .i64 N, .int .i64 0, .int .i64 k', .int .u64 (n' : Int), .string (strB t'), .slice fa' fs'.length fc', .string (strB r'), .slice la' ls'.length lc', .slice pa' ps'.length pc'] 62)) (.slice (some ⟨W1.drew.heap.size, 0, none⟩) 1 1) [((⟨K, N, 0, .mk k' n' t' fs' r' ls' ps'⟩, ⟨fa', fc', la', lc', pa', pc'⟩) : SQ)]) := (OwnS.made1 (E := 62) (size := 10) (B := 0) rfl rfl (Nat.zero_le _)).row
    refine wpAnyK_ready (rs := [3]) (by kernel_rfl) (by simp) ?_
    refine AllReadyK.cons (o := _) rfl (fun K1 hK => ?_) AllReadyK.nil
    go_simp
    go_at_call 67
    refine (HCL.out _ hd1).mono ?_
    rintro e w3 ⟨v3, rfl, how3, hb3⟩
    have hd3 := hd1.trans (hb3.mono hd1.size)
    have hs3 := Nat.le_trans hd1.size (Nat.le_refl _)
    go_wp2_with fail
    refine hK.out _ _ (HX.out _ hd3) ?_
    clear hK K1
    try simp only [Act.put, List.setIfInBounds_toArray, List.set_cons_zero, List.set_cons_succ]
    refine wpAnyK_ready (rs := [6]) (by kernel_rfl) (by simp) ?_
    refine AllReadyK.cons (o := _) rfl (fun K1 hK => ?_) AllReadyK.nil
    have HBS : W1.heap.size ≤ (W1.drew.alloc (.cells #[.int .i64 K, .int .i64 N, .int .i64 0, .int .i64 k', .int .u64 (n' : Int), .string (strB t'), .slice fa' fs'.length fc', .string (strB r'), .slice la' ls'.length lc', .slice pa' ps'.length pc'] 62)).heap.size := hd1.size
    have HB7 : ∀ w7, w3.grownBy w7 v3.ownBlock → Below W1.heap.size W1 w7 := fun w7 h => hd3.grown h hd3.size (fun k hk => Nat.le_trans HBS (how3.lt k hk).1)
    refine step_appendS sC_len sC_one Tryz.underlying23 infoSt rfl (by decide) how3 (HRW.out.stays hb3) (by have := HPL.out; simp; omega) hb3.size rfl _ _ rfl (by rfl) (by rfl) ?_
    intro v7 w7 how7 hg7 hn7
    have hd7 : Below W1.heap.size W1 w7 := HB7 w7 hg7
    obtain ⟨a7, c7, rfl, hC⟩ := HGO.out _ hd7 _ v7 HBS how7
    have HC := Lib.hid hC
    clear hC how7 hg7 hn7 HB7 HBS
    refine hK.out _ _ (HX.out _ hd7) ?_
    clear hK K1
    try simp only [Act.put, List.setIfInBounds_toArray]
    refine wpAnyK_ready (rs := [7]) (by kernel_rfl) (by simp) ?_
    refine AllReadyK.last (o := _) rfl (by kernel_rfl) (fun K1 hK => ?_) AllReadyK.nil
    go_simp
    go_at_call 45
    refine HC.out.mono ?_
    rintro e w8 ⟨rfl, hI⟩
    have HI := Lib.hid hI
    clear hI
    go_wp2_with fail
    refine hK.out _ _ ?_
    clear hK K1
    refine wpAnyK_done (by kernel_rfl) ?_ _
    refine NoPanic.normal ?_
    go_wp2_with fail
    go_end0
    exact ⟨rfl, HI.out⟩
set_option maxRecDepth 100000 in
set_option maxHeartbeats 16000000 in
theorem walk_any : ∀ v : V, WalkC v := by
  intro v
  induction v using V.ind with
  | h v ihf ihl ihp =>
    intro a S0 g w xs av cv pt ap cp hS hr hw hxl hW hp
    obtain ⟨k, n, t, fs, r, ls, ps⟩ := v
    obtain ⟨fa, fc, la, lc, pa, pc⟩ := a
    rw [vG_lit]
    have hmf : ∀ (fn : Fn) (first cap : Array Value) (w : World), (Instr.makeFunc fn first cap).run Tryz.prog w = .ok (.func fn first cap) w := fun _ _ _ _ => rfl
    obtain ⟨lf, ll, lp⟩ := lens_of_w (show wV (.mk k n t fs r ls ps) ≤ 1000000 by omega)
    obtain ⟨T0, hT0⟩ : ∃ T0, T0 = (Value.slice av xs.length cv).ownBlock.toList := ⟨_, rfl⟩
    rw [← hT0]
    obtain ⟨W0, hW0⟩ : ∃ W0, W0 = ((w.alloc (.cells #[.pointer (some ⟨g, 0, none⟩)] 97)).alloc (.cells #[.int .i64 k, .int .u64 (n : Int), .string (strB t), .slice fa fs.length fc, .string (strB r), .slice la ls.length lc, .slice pa ps.length pc] 38)).alloc (.cells #[.slice ap pt.length cp] 23) := ⟨_, rfl⟩
    obtain ⟨b, hb⟩ : ∃ b, b = w.heap.size := ⟨_, rfl⟩
    have hb0 : Below w.heap.size w W0 := by rw [hW0]; exact (((Below.refl _ _).alloc (Nat.le_refl _) _).alloc (by simp) _).alloc (by simp; omega) _
    have hc3 : CellsAt W0 b 97 #[.pointer (some ⟨g, 0, none⟩)] := by rw [hW0]; exact ((CellsAt.new' hb).allocC).allocC
    have hc4 : CellsAt W0 (b + 1) 38 #[.int .i64 k, .int .u64 (n : Int), .string (strB t), .slice fa fs.length fc, .string (strB r), .slice la ls.length lc, .slice pa ps.length pc] := by rw [hW0]; exact (CellsAt.new' (by rw [hb]; simp)).allocC
    have hc5 : CellsAt W0 (b + 2) 23 #[.slice ap pt.length cp] := by rw [hW0]; exact CellsAt.new' (by rw [hb]; simp)
    have hTl : ∀ i ∈ T0, g + 1 ≤ i ∧ i < w.heap.size := fun i hi => hW.2.1.lt i (by rw [hT0] at hi; simpa using hi)
    have hgl : g < w.heap.size := hW.1.lt
    have hno : ∀ i, b ≤ i → i ∉ g :: T0 := fun i hi hm => by
      rcases List.mem_cons.1 hm with rfl | hm
      · omega
      · have := (hTl i hm).2; omega
    have HX : Hid (∀ W, Grew (g :: T0) W0 W → CellsAt W b 97 #[.pointer (some ⟨g, 0, none⟩)] ∧ CellsAt W (b + 1) 38 #[.int .i64 k, .int .u64 (n : Int), .string (strB t), .slice fa fs.length fc, .string (strB r), .slice la ls.length lc, .slice pa ps.length pc] ∧ CellsAt W (b + 2) 23 #[.slice ap pt.length cp]) := fun W h =>
      ⟨hc3.grew h (hno _ (Nat.le_refl _)), hc4.grew h (hno _ (by omega)), hc5.grew h (hno _ (by omega))⟩
    have HR : Hid (∀ W, Grew (g :: T0) W0 W → Rep S0 W (.mk k n t fs r ls ps) ⟨fa, fc, la, lc, pa, pc⟩) := fun W h => (hr.stays hb0).grew h (fun k hk hm => by
      have h1 := hS k hk
      rcases List.mem_cons.1 hm with rfl | hm
      · omega
      · have := (hTl k hm).1; omega)
    have HPT : Hid (∀ W, Grew (g :: T0) W0 W → ∀ (n : Nat) (aw : Option Addr) (cw : Nat), (∀ k, (Value.slice aw n cw).ownBlock = some k → k ∈ T0 ∨ W0.heap.size ≤ k) → PRep (AtS S0 g n aw cw) W (pt, (ap, cp))) := fun W h n aw cw hn => by
      refine ((hp.lt.stays hb0).grew h (fun k hk hm => ?_)).mono (fun k hk => ?_)
      · rcases List.mem_cons.1 hm with rfl | hm
        · rcases hk.1 with h1 | h1
          · exact absurd (hS _ h1) (Nat.lt_irrefl _)
          · have := h1.1; omega
        · rcases hk.1 with h1 | h1
          · have h2 := hS _ h1
            have h3 := (hTl _ hm).1
            omega
          · refine h1.2 ?_
            rw [hT0] at hm
            simpa using hm
      · rcases hk.1 with h1 | h1
        · exact .inl h1
        · refine .inr ⟨h1.1, fun e => ?_⟩
          rcases hn k e with h2 | h2
          · refine h1.2 ?_
            rw [hT0] at h2
            simpa using h2
          · have h3 := hk.2
            have h4 := hb0.size
            omega
    have HCL : Hid (∀ W, Below W0.heap.size W0 W → Calls Tryz.prog 67 #[.slice ap pt.length cp] W fun e w' => ∃ v', e = .returned v' ∧ OwnS 62 10 sC W.heap.size w' v' pt ∧ Below W.heap.size W w') := fun W h => clonePath_any _ pt W ((hp.1.1.stays hb0).stays h) (by omega)
    have HBX : Hid (∀ W, Grew T0 W0 W → WkC g b (.slice av xs.length cv) (.slice ap pt.length cp) W) := fun W h => by
      have hm : Grew (g :: T0) W0 W := h.mono (fun i hi => by simp [hi])
      exact ⟨hc3.grew hm (hno _ (Nat.le_refl _)), hc5.grew hm (hno _ (by omega)), (hW.1.stays hb0).grew h (fun hm => by have := (hTl g hm).1; omega)⟩
    have HGT : Hid (∀ W w', Below W0.heap.size W0 W → W.grownBy w' (Value.slice av xs.length cv).ownBlock → Grew T0 W0 w') := fun W w' h1 h2 => (Grew.ofBelow h1).grown h2 (fun i hi => .inl (by rw [hT0, hi]; simp))
    have HPU : Hid (∀ (w3 w9 : World) (a3 : Option Addr) (c3 B3 : Nat) (v9 : Value), Below W0.heap.size W0 w3 → OwnS 62 10 sC B3 w3 (.slice a3 pt.length c3) pt → W0.heap.size ≤ B3 → OwnS 23 1 prC (g + 1) w9 v9 (xs ++ [(pt, (a3, c3))]) → w3.grownBy w9 (Value.slice av xs.length cv).ownBlock → NewOrSame w3 (.slice av xs.length cv) v9 →
      WalkI S0 g [pt.map Prod.fst] xs T0 W0 (w9.setCell ⟨g, 0, none⟩ v9)) := fun w3 w9 a3 c3 B3 v9 h1 h2 h3 h4 h5 h6 => by rw [hT0]; exact Wlk.push hS hW hp hb0 h1 h2 h3 h4 h5 h6
    have HOW : Hid (∀ W, Below W0.heap.size W0 W → OwnS 23 1 prC (g + 1) W (.slice av xs.length cv) xs ∧ g + 1 ≤ W.heap.size) := fun W h => ⟨(hW.2.1.stays hb0).stays h, by have h1 := hb0.size; have h2 := h.size; omega⟩
    have HS0 : Hid (WalkI S0 g [] xs T0 w W0) := by show WalkI _ _ _ _ _ _ _; rw [hT0]; exact WalkI.start hW hb0
    have HB := Lib.hid hb0
    have HWV := Lib.hid hw
    have HAL := Lib.hid hxl
    have HS := Lib.hid hS
    have x0 := hc4.cell 0 (v := .int .i64 k) rfl
    have HW := Lib.hid hW0
    have HG := Lib.hid hb
    clear hS hr hw hxl hW hp hT0 hW0 hb hb0 hc3 hc4 hc5 hTl hgl hno
    go_enter Tryz.func45, Tryz.ntmps45
    go_upto_region 1 with fail
    rw [← HW.out, ← HG.out]
    clear HW HG
    by_cases h0 : k = 0
    · have HZ : Hid (allV (.mk k n t fs r ls ps) = []) := by show _ = _; rw [allV_eq, if_pos (show (V.mk k n t fs r ls ps).k = 0 from h0)]
      have tk : (k == 0) = true := by simpa using h0
      clear HX HR HPT HCL HBX HGT HPU HOW ihf ihl ihp
      go_wp2_with fail
      refine bodyPost_ret (results_none rfl _ _ _) rfl ?_
      exact ⟨rfl, by rw [HZ.out]; exact HS0.out⟩
    · have tk : (k == 0) = false := by simpa using h0
      have HZ : Hid (allV (.mk k n t fs r ls ps) = [] :: (seeK (kidsF fs) ++ (seeK (kidsP ps) ++ seeK (kidsL ls 0)))) := by
        show _ = _
        rw [allV_eq, if_neg (show ¬(V.mk k n t fs r ls ps).k = 0 from h0)]
        unfold kidsV
        rw [seeK_app, seeK_app]
        rfl
      clear HS0 h0
      go_upto_region 2 with fail
      clear x0 tk
      have hbd : Below W0.heap.size W0 W0.drew := (Below.refl _ _).drew
      have hxl : xs.length ≤ 100000000 := by have := HAL.out; omega
      refine wp_region_noPanic ?_
      refine wp_region_K (WkC g b (.slice av xs.length cv) (.slice ap pt.length cp)) 11 (by kernel_rfl) (HBX.out _ (Grew.ofBelow hbd)) (fun hC0 => ?_)
      refine wpAnyK_take (i := 0) (oi := ⟨some 16, _, _, _, _, _⟩) (v := ?_) [9, 10, 11] rfl (by kernel_rfl) (by kernel_rfl) (by kernel_rfl) (by kernel_rfl) (fun _ _ _ h => h) (Or.inl ⟨by rfl, ?_⟩) (by assumption) ?_
      rotate_left
      focus
        intro wq hSq
        have e0 := hSq.1.cell 0 (v := .pointer (some ⟨g, 0, none⟩)) rfl
        clear hSq
        go_simp
        try (with_reducible rfl)
      try simp only [Act.put, List.setIfInBounds_toArray, List.set_cons_zero, List.set_cons_succ]
      refine wpAnyK_take (i := 1) (oi := ⟨some 17, _, _, _, _, _⟩) (v := ?_) [2, 3, 4, 8, 11] rfl (by kernel_rfl) (by kernel_rfl) (by kernel_rfl) (by kernel_rfl) (fun _ _ _ h => h) (Or.inl ⟨by rfl, ?_⟩) (by assumption) ?_
      rotate_left
      focus
        intro wq hSq
        have e0 := hSq.1.cell 0 (v := .pointer (some ⟨g, 0, none⟩)) rfl
        clear hSq
        go_simp
        try (with_reducible rfl)
      try simp only [Act.put, List.setIfInBounds_toArray, List.set_cons_zero, List.set_cons_succ]
      refine wpAnyK_skip (i := 2) (oi := ⟨some 18, _, _, _, _, _⟩) (v := ?_) rfl (by kernel_rfl) (by kernel_rfl) (by kernel_rfl) (by decide) (fun _ _ _ h => h) (Or.inl ⟨by rfl, ?_⟩) (fun _ => by assumption) ?_
      rotate_left
      focus (intro wq hSq; clear hSq; go_simp; try (with_reducible rfl))
      try simp only [Act.put, List.setIfInBounds_toArray, List.set_cons_zero, List.set_cons_succ]
      refine wpAnyK_skip (i := 3) (oi := ⟨some 19, _, _, _, _, _⟩) (v := ?_) rfl (by kernel_rfl) (by kernel_rfl) (by kernel_rfl) (by decide) (fun _ _ _ h => h) (Or.inl ⟨by rfl, ?_⟩) (fun _ => by assumption) ?_
      rotate_left
      focus (intro wq hSq; clear hSq; go_simp; try (with_reducible rfl))
      try simp only [Act.put, List.setIfInBounds_toArray, List.set_cons_zero, List.set_cons_succ]
      refine wpAnyK_take (i := 4) (oi := ⟨some 20, _, _, _, _, _⟩) (v := ?_) [8, 11] rfl (by kernel_rfl) (by kernel_rfl) (by kernel_rfl) (by kernel_rfl) (fun _ _ _ h => h) (Or.inl ⟨by rfl, ?_⟩) (by assumption) ?_
      rotate_left
      focus
        intro wq hSq
        have e0 := hSq.2.2.cell 0 (v := .slice av xs.length cv) rfl
        clear hSq
        go_simp
        try (with_reducible rfl)
      try simp only [Act.put, List.setIfInBounds_toArray, List.set_cons_zero, List.set_cons_succ]
      refine wpAnyK_take (i := 5) (oi := ⟨some 21, _, _, _, _, _⟩) (v := ?_) [6, 7, 8, 11] rfl (by kernel_rfl) (by kernel_rfl) (by kernel_rfl) (by kernel_rfl) (fun _ _ _ h => h) (Or.inl ⟨by rfl, ?_⟩) (by assumption) ?_
      rotate_left
      focus
        intro wq hSq
        have e0 := hSq.2.1.cell 0 (v := .slice ap pt.length cp) rfl
        clear hSq
        go_simp
        try (with_reducible rfl)
      try simp only [Act.put, List.setIfInBounds_toArray, List.set_cons_zero, List.set_cons_succ]
      refine wpAnyK_ready (rs := [6]) (by kernel_rfl) (by simp) ?_
      refine AllReadyK.cons (o := _) rfl (fun K1 hK => ?_) AllReadyK.nil
      go_simp
      go_at_call 67
      refine (HCL.out _ hbd).mono ?_
      rintro e w3 ⟨v3, rfl, how3, hb3⟩
      have hd3 := hbd.trans (hb3.mono hbd.size)
      obtain ⟨a3, c3, rfl, -, -⟩ := RowS.shape (size := 10) how3.row sC_len
      go_wp2_with fail
      refine hK.out _ _ (HBX.out _ (Grew.ofBelow hd3)) ?_
      clear hK K1
      try simp only [Act.put, List.setIfInBounds_toArray, List.set_cons_zero, List.set_cons_succ]
      refine wpAnyK_ready (rs := [7]) (by kernel_rfl) (by simp) ?_
      refine AllReadyK.cons (o := _) rfl (fun K1 hK => ?_) AllReadyK.nil
      go_simp
      refine hK.out _ _ (HBX.out _ (Grew.ofBelow (below_alX hd3 _))) ?_
      clear hK K1
      try simp only [Act.put, List.setIfInBounds_toArray, List.set_cons_zero, List.set_cons_succ]
      refine wpAnyK_ready (rs := [8]) (by kernel_rfl) (by simp) ?_
      refine AllReadyK.cons (o := _) rfl (fun K1 hK => ?_) AllReadyK.nil
      have how := HOW.out _ hd3
      refine step_pushS prC_len prC_one Tryz.underlying56 infoPth rfl (by decide) how.1 ((pt, (a3, c3)) : PR) hxl how.2 rfl _ _ rfl (by rfl) _ _ _ (by rfl) (by rfl) ?_
      intro v9 w9 ho9 hg9 hn9
      have hG9 := HGT.out w3 w9 hd3 hg9
      have hB9 := HBX.out w9 hG9
      have e9 := hB9.2.2.cell 0 (v := .slice av xs.length cv) rfl
      have f9 := hB9.2.2.free 0
      refine hK.out _ _ hB9 ?_
      clear hK K1
      try simp only [Act.put, List.setIfInBounds_toArray]
      refine wpAnyK_skip (i := 9) (oi := ⟨some 25, _, _, _, _, _⟩) (v := ?_) rfl (by kernel_rfl) (by kernel_rfl) (by kernel_rfl) (by decide) (fun _ _ _ h => h) (Or.inl ⟨by rfl, ?_⟩) (fun _ => by assumption) ?_
      rotate_left
      focus (intro wq hSq; clear hSq; go_simp; try (with_reducible rfl))
      try simp only [Act.put]
      refine wpAnyK_skip (i := 10) (oi := ⟨some 26, _, _, _, _, _⟩) (v := ?_) rfl (by kernel_rfl) (by kernel_rfl) (by kernel_rfl) (by decide) (fun _ _ _ h => h) (Or.inl ⟨by rfl, ?_⟩) (fun _ => by assumption) ?_
      rotate_left
      focus (intro wq hSq; clear hSq; go_simp; try (with_reducible rfl))
      try simp only [Act.put]
      have HI := Lib.hid (HPU.out w3 w9 a3 c3 _ v9 hd3 how3 hbd.size ho9 hg9 hn9)
      obtain ⟨a9, c9, rfl, -, -⟩ := RowS.shape (size := 1) (OwnS.row ho9) prC_len
      clear how ho9 hg9 hn9 hG9 hB9 how3 hb3 hd3 hbd hC0
      refine wpAnyK_ready (rs := [11]) (by kernel_rfl) (by simp) ?_
      refine AllReadyK.last (o := _) rfl (by kernel_rfl) (fun K1 hK => ?_) AllReadyK.nil
      go_simp
      refine hK.out _ _ ?_
      clear hK K1
      refine wpAnyK_done (by kernel_rfl) ?_ _
      refine NoPanic.normal ?_
      obtain ⟨w10, hw10⟩ : ∃ w10, w10 = w9.setCell ⟨g, 0, none⟩ (.slice a9 (xs.length + 1) c9) := ⟨_, rfl⟩
      have hl : (xs ++ [((pt, (a3, c3)) : PR)]).length = xs.length + 1 := by simp
      rw [hl, ← hw10] at HI
      try rw [hl]
      rw [← hw10]
      clear hw10 e9 f9
      have HI0 : Hid (WalkI S0 g (([[]] ++ seeK ((kidsF fs).take 0)).map (fun q => pt.map Prod.fst ++ q)) xs T0 W0 w10) := HI.out.conv (by simp [seeK])
      obtain ⟨zs, aw, cw, hmz, hWz, hGz, hnz⟩ := HI.out
      have x3 := (HX.out w10 hGz).2.1.cell 3 (v := .slice fa fs.length fc) rfl
      clear HI hmz hWz hGz hnz HBX HGT HPU HOW HCL hxl
      go_wp2_with fail
      go_loopw [31] (fun i wr => ∃ (m : Nat), m ≤ fs.length ∧ i = .int .i64 m ∧ Hid (WalkI S0 g (([[]] ++ seeK ((kidsF fs).take m)).map (fun q => pt.map Prod.fst ++ q)) xs T0 W0 wr)) (fun i _ => fs.length - (intOf i).toNat)
      case atStart => exact ⟨0, Nat.zero_le _, rfl, HI0.out⟩
      case round =>
        clear HI0 x3
        obtain ⟨m, hm, rfl, HI⟩ := hrel
        by_cases h1 : m < fs.length
        · obtain ⟨⟨num, ⟨k', n', t', fs', r', ls', ps'⟩⟩, hq⟩ : ∃ x, fs[m]? = some x := ⟨_, List.getElem?_eq_getElem h1⟩
          obtain ⟨zs, aw, cw, hmz, hWz, hGz, hnz⟩ := HI.out
          obtain ⟨bf, of', fa', la', pa', fc', lc', pc', rfl, hnum, hrx, y0, y1, y2, y3, y4, y5, y6, y7⟩ := (HR.out wr hGz).fieldAt hq
          obtain ⟨hx3, hx4, hx5⟩ := HX.out wr hGz
          have hpz := HPT.out wr hGz _ _ _ hnz
          have hks : (kidsF fs)[m]? = some (⟨1, num, 0, V0⟩, .mk k' n' t' fs' r' ls' ps') := kidsF_at hq
          have hst := seeK_step hks
          have hwx : pt.length + 1 + wV (.mk k' n' t' fs' r' ls' ps') ≤ 1000000 := by
            have h1 := kid_w (v := V.mk k n t fs r ls ps) (x := (⟨1, num, 0, V0⟩, .mk k' n' t' fs' r' ls' ps')) (List.mem_append.2 (.inl (List.mem_of_getElem? hks)))
            have h2 := HWV.out
            simp only at h1
            omega
          have hxl : (xs ++ zs).length + (allV (.mk k' n' t' fs' r' ls' ps')).length ≤ 100000000 := by
            have h3 := congrArg List.length hmz
            have h4 := seeK_take_len (kidsF fs) (m + 1)
            have h5 := HAL.out
            rw [HZ.out] at h5
            rw [hst] at h4
            unfold mapX at h3
            simp only [List.length_map, List.length_append, List.length_cons, List.length_nil] at h3 h4 h5 ⊢
            omega
          have hih : WalkC (.mk k' n' t' fs' r' ls' ps') := ihf (num, .mk k' n' t' fs' r' ls' ps') (List.mem_of_getElem? hq)
          obtain ⟨W2, hW2⟩ : ∃ W2, W2 = wr.alloc (.cells #[.int .i64 num, .int .i64 k', .int .u64 (n' : Int), .string (strB t'), .slice fa' fs'.length fc', .string (strB r'), .slice la' ls'.length lc', .slice pa' ps'.length pc'] 88) := ⟨_, rfl⟩
          obtain ⟨gb, hgb⟩ : ∃ gb, gb = wr.heap.size := ⟨_, rfl⟩
          have hb2 : Below wr.heap.size wr W2 := by rw [hW2]; exact (Below.refl _ _).alloc (Nat.le_refl _) _
          have hcb : CellsAt W2 gb 88 #[.int .i64 num, .int .i64 k', .int .u64 (n' : Int), .string (strB t'), .slice fa' fs'.length fc', .string (strB r'), .slice la' ls'.length lc', .slice pa' ps'.length pc'] := by rw [hW2, hgb]; exact CellsAt.new wr _ _
          have HC := Lib.hid (inner_any hih HS.out (hx3.stays hb2) (hx5.stays hb2) (hWz.below hb2) (hpz.stays hb2) (show i64 1 from ⟨by decide, by decide⟩) hnum (rep_none) (hrx.stays hb2) hwx hxl)
          have HON : Hid (∀ w3, WalkI S0 g ((allV (.mk k' n' t' fs' r' ls' ps')).map (fun q => pt.map Prod.fst ++ (⟨1, num, 0, V0⟩ : PS) :: q)) (xs ++ zs) (Value.slice aw (xs ++ zs).length cw).ownBlock.toList W2 w3 → WalkI S0 g (([[]] ++ seeK ((kidsF fs).take (m + 1))).map (fun q => pt.map Prod.fst ++ q)) xs T0 W0 w3) := fun w3 h => by
            refine (WalkI.add hmz hGz hnz hb2 h).conv ?_
            rw [hst]
            simp
          have HCB := Lib.hid hcb
          have HGB := Lib.hid hgb
          have HW2 := Lib.hid hW2
          clear hq hks hwx hih hW2 hgb hb2 hcb hrx hmz hWz hGz hnz hx3 hx4 hx5 hpz hst hxl HI
          go_upto_region 7 with fail
          rw [← HW2.out, ← HGB.out]
          have hcb := HCB.out
          have z0 := hcb.cell 0 (v := .int .i64 num) rfl
          have z1 := hcb.cell 1 (v := .int .i64 k') rfl
          have z2 := hcb.cell 2 (v := .int .u64 (n' : Int)) rfl
          have z3 := hcb.cell 3 (v := .string (strB t')) rfl
          have z4 := hcb.cell 4 (v := .slice fa' fs'.length fc') rfl
          have z5 := hcb.cell 5 (v := .string (strB r')) rfl
          have z6 := hcb.cell 6 (v := .slice la' ls'.length lc') rfl
          have z7 := hcb.cell 7 (v := .slice pa' ps'.length pc') rfl
          clear hcb HW2 HCB HGB y0 y1 y2 y3 y4 y5 y6 y7
          go_wp2_with (go_at_call 68; refine HC.out.mono ?_; rintro e w3 ⟨rfl, hI⟩; have HI3 := Lib.hid (HON.out w3 hI); clear hI HC HON z0 z1 z2 z3 z4 z5 z6 z7)
          go_roundw
          case rel => exact ⟨m + 1, h1, by go_num, HI3.out⟩
          case measure => simp only [intOf]; omega
        · obtain rfl : m = fs.length := by omega
          have HI1 : Hid (WalkI S0 g (([[]] ++ seeK (kidsF fs) ++ seeK ((kidsP ps).take 0)).map (fun q => pt.map Prod.fst ++ q)) xs T0 W0 wr) := by
            refine WalkI.conv HI.out ?_
            rw [List.take_of_length_le (Nat.le_of_eq (kidsF_len fs))]
            simp [seeK]
          obtain ⟨zs, aw, cw, hmz, hWz, hGz, hnz⟩ := HI.out
          have x6 := (HX.out wr hGz).2.1.cell 6 (v := .slice pa ps.length pc) rfl
          clear HI hmz hWz hGz hnz
          go_wp2_with fail
          go_loopw [46] (fun i wr => ∃ (m : Nat), m ≤ ps.length ∧ i = .int .i64 m ∧ Hid (WalkI S0 g (([[]] ++ seeK (kidsF fs) ++ seeK ((kidsP ps).take m)).map (fun q => pt.map Prod.fst ++ q)) xs T0 W0 wr)) (fun i _ => ps.length - (intOf i).toNat)
          case atStart => exact ⟨0, Nat.zero_le _, rfl, HI1.out⟩
          case round =>
            clear HI1 x6
            obtain ⟨m, hm, rfl, HI⟩ := hrel
            by_cases h1 : m < ps.length
            · obtain ⟨⟨⟨k', n', t', fs', r', ls', ps'⟩, ⟨k2, n2, t2, fs2, r2, ls2, ps2⟩⟩, hq⟩ : ∃ x, ps[m]? = some x := ⟨_, List.getElem?_eq_getElem h1⟩
              obtain ⟨zs, aw, cw, hmz, hWz, hGz, hnz⟩ := HI.out
              obtain ⟨bf, of', fa', la', pa', fc', lc', pc', fa2, la2, pa2, fc2, lc2, pc2, rfl, hrk, hrx, y0, y1, y2, y3, y4, y5, y6, y7, y8, y9, y10, y11, y12, y13⟩ := (HR.out wr hGz).pairAt hq
              obtain ⟨hx3, hx4, hx5⟩ := HX.out wr hGz
              have hpz := HPT.out wr hGz _ _ _ hnz
              have hks : (kidsP ps)[m]? = some (⟨2, 0, 0, .mk k' n' t' fs' r' ls' ps'⟩, .mk k2 n2 t2 fs2 r2 ls2 ps2) := kidsP_at hq
              have hst := seeK_step hks
              have hwx : pt.length + 1 + wV (.mk k2 n2 t2 fs2 r2 ls2 ps2) ≤ 1000000 := by
                have h1 := kid_w (v := V.mk k n t fs r ls ps) (x := (⟨2, 0, 0, .mk k' n' t' fs' r' ls' ps'⟩, .mk k2 n2 t2 fs2 r2 ls2 ps2)) (List.mem_append.2 (.inr (List.mem_append.2 (.inl (List.mem_of_getElem? hks)))))
                have h2 := HWV.out
                simp only at h1
                omega
              have hxl : (xs ++ zs).length + (allV (.mk k2 n2 t2 fs2 r2 ls2 ps2)).length ≤ 100000000 := by
                have h3 := congrArg List.length hmz
                have h4 := seeK_take_len (kidsP ps) (m + 1)
                have h5 := HAL.out
                rw [HZ.out] at h5
                rw [hst] at h4
                unfold mapX at h3
                simp only [List.length_map, List.length_append, List.length_cons, List.length_nil] at h3 h4 h5 ⊢
                omega
              have hih : WalkC (.mk k2 n2 t2 fs2 r2 ls2 ps2) := (ihp (.mk k' n' t' fs' r' ls' ps', .mk k2 n2 t2 fs2 r2 ls2 ps2) (List.mem_of_getElem? hq)).2
              obtain ⟨W2, hW2⟩ : ∃ W2, W2 = wr.alloc (.cells #[.int .i64 k', .int .u64 (n' : Int), .string (strB t'), .slice fa' fs'.length fc', .string (strB r'), .slice la' ls'.length lc', .slice pa' ps'.length pc', .int .i64 k2, .int .u64 (n2 : Int), .string (strB t2), .slice fa2 fs2.length fc2, .string (strB r2), .slice la2 ls2.length lc2, .slice pa2 ps2.length pc2] 92) := ⟨_, rfl⟩
              obtain ⟨gb, hgb⟩ : ∃ gb, gb = wr.heap.size := ⟨_, rfl⟩
              have hb2 : Below wr.heap.size wr W2 := by rw [hW2]; exact (Below.refl _ _).alloc (Nat.le_refl _) _
              have hcb : CellsAt W2 gb 92 #[.int .i64 k', .int .u64 (n' : Int), .string (strB t'), .slice fa' fs'.length fc', .string (strB r'), .slice la' ls'.length lc', .slice pa' ps'.length pc', .int .i64 k2, .int .u64 (n2 : Int), .string (strB t2), .slice fa2 fs2.length fc2, .string (strB r2), .slice la2 ls2.length lc2, .slice pa2 ps2.length pc2] := by rw [hW2, hgb]; exact CellsAt.new wr _ _
              have HC := Lib.hid (inner_any hih HS.out (hx3.stays hb2) (hx5.stays hb2) (hWz.below hb2) (hpz.stays hb2) (show i64 2 from ⟨by decide, by decide⟩) (show i64 0 from ⟨by decide, by decide⟩) (hrk.stays hb2) (hrx.stays hb2) hwx hxl)
              have HON : Hid (∀ w3, WalkI S0 g ((allV (.mk k2 n2 t2 fs2 r2 ls2 ps2)).map (fun q => pt.map Prod.fst ++ (⟨2, 0, 0, .mk k' n' t' fs' r' ls' ps'⟩ : PS) :: q)) (xs ++ zs) (Value.slice aw (xs ++ zs).length cw).ownBlock.toList W2 w3 → WalkI S0 g (([[]] ++ seeK (kidsF fs) ++ seeK ((kidsP ps).take (m + 1))).map (fun q => pt.map Prod.fst ++ q)) xs T0 W0 w3) := fun w3 h => by
                refine (WalkI.add hmz hGz hnz hb2 h).conv ?_
                rw [hst]
                simp
              have HCB := Lib.hid hcb
              have HGB := Lib.hid hgb
              have HW2 := Lib.hid hW2
              clear hq hks hwx hih hW2 hgb hb2 hcb hrx hmz hWz hGz hnz hx3 hx4 hx5 hpz hst hxl HI hrk
              go_upto_region 12 with fail
              rw [← HW2.out, ← HGB.out]
              have hcb := HCB.out
              have z0 := hcb.cell 0 (v := .int .i64 k') rfl
              have z1 := hcb.cell 1 (v := .int .u64 (n' : Int)) rfl
              have z2 := hcb.cell 2 (v := .string (strB t')) rfl
              have z3 := hcb.cell 3 (v := .slice fa' fs'.length fc') rfl
              have z4 := hcb.cell 4 (v := .string (strB r')) rfl
              have z5 := hcb.cell 5 (v := .slice la' ls'.length lc') rfl
              have z6 := hcb.cell 6 (v := .slice pa' ps'.length pc') rfl
              have z7 := hcb.cell 7 (v := .int .i64 k2) rfl
              have z8 := hcb.cell 8 (v := .int .u64 (n2 : Int)) rfl
              have z9 := hcb.cell 9 (v := .string (strB t2)) rfl
              have z10 := hcb.cell 10 (v := .slice fa2 fs2.length fc2) rfl
              have z11 := hcb.cell 11 (v := .string (strB r2)) rfl
              have z12 := hcb.cell 12 (v := .slice la2 ls2.length lc2) rfl
              have z13 := hcb.cell 13 (v := .slice pa2 ps2.length pc2) rfl
              clear hcb HW2 HCB HGB y0 y1 y2 y3 y4 y5 y6 y7 y8 y9 y10 y11 y12 y13
              go_wp2_with (go_at_call 68; refine HC.out.mono ?_; rintro e w3 ⟨rfl, hI⟩; have HI3 := Lib.hid (HON.out w3 hI); clear hI HC HON z0 z1 z2 z3 z4 z5 z6 z7 z8 z9 z10 z11 z12 z13)
              go_roundw
              case rel => exact ⟨m + 1, h1, by go_num, HI3.out⟩
              case measure => simp only [intOf]; omega
            · obtain rfl : m = ps.length := by omega
              have HI2 : Hid (WalkI S0 g (([[]] ++ seeK (kidsF fs) ++ seeK (kidsP ps) ++ seeK ((kidsL ls 0).take 0)).map (fun q => pt.map Prod.fst ++ q)) xs T0 W0 wr) := by
                refine WalkI.conv HI.out ?_
                rw [List.take_of_length_le (Nat.le_of_eq (kidsP_len ps))]
                simp [seeK]
              obtain ⟨zs, aw, cw, hmz, hWz, hGz, hnz⟩ := HI.out
              have x5 := (HX.out wr hGz).2.1.cell 5 (v := .slice la ls.length lc) rfl
              clear HI hmz hWz hGz hnz
              go_wp2_with fail
              go_loopw [61] (fun i wr => ∃ (m : Nat), m ≤ ls.length ∧ i = .int .i64 m ∧ Hid (WalkI S0 g (([[]] ++ seeK (kidsF fs) ++ seeK (kidsP ps) ++ seeK ((kidsL ls 0).take m)).map (fun q => pt.map Prod.fst ++ q)) xs T0 W0 wr)) (fun i _ => ls.length - (intOf i).toNat)
              case atStart => exact ⟨0, Nat.zero_le _, rfl, HI2.out⟩
              case round =>
                clear HI2 x5
                obtain ⟨m, hm, rfl, HI⟩ := hrel
                by_cases h1 : m < ls.length
                · obtain ⟨⟨k', n', t', fs', r', ls', ps'⟩, hq⟩ : ∃ x, ls[m]? = some x := ⟨_, List.getElem?_eq_getElem h1⟩
                  obtain ⟨zs, aw, cw, hmz, hWz, hGz, hnz⟩ := HI.out
                  obtain ⟨bf, of', fa', la', pa', fc', lc', pc', rfl, hrx, y0, y1, y2, y3, y4, y5, y6⟩ := (HR.out wr hGz).partAt hq
                  obtain ⟨hx3, hx4, hx5⟩ := HX.out wr hGz
                  have hpz := HPT.out wr hGz _ _ _ hnz
                  have hks : (kidsL ls 0)[m]? = some (⟨3, (m : Int), 0, V0⟩, .mk k' n' t' fs' r' ls' ps') := kidsL_at0 hq
                  have hst := seeK_step hks
                  have hwx : pt.length + 1 + wV (.mk k' n' t' fs' r' ls' ps') ≤ 1000000 := by
                    have h1 := kid_w (v := V.mk k n t fs r ls ps) (x := (⟨3, (m : Int), 0, V0⟩, .mk k' n' t' fs' r' ls' ps')) (List.mem_append.2 (.inr (List.mem_append.2 (.inr (List.mem_of_getElem? hks)))))
                    have h2 := HWV.out
                    simp only at h1
                    omega
                  have hxl : (xs ++ zs).length + (allV (.mk k' n' t' fs' r' ls' ps')).length ≤ 100000000 := by
                    have h3 := congrArg List.length hmz
                    have h4 := seeK_take_len (kidsL ls 0) (m + 1)
                    have h5 := HAL.out
                    rw [HZ.out] at h5
                    rw [hst] at h4
                    unfold mapX at h3
                    simp only [List.length_map, List.length_append, List.length_cons, List.length_nil] at h3 h4 h5 ⊢
                    omega
                  have hih : WalkC (.mk k' n' t' fs' r' ls' ps') := ihl (.mk k' n' t' fs' r' ls' ps') (List.mem_of_getElem? hq)
                  obtain ⟨W2, hW2⟩ : ∃ W2, W2 = wr.alloc (.cells #[.int .i64 k', .int .u64 (n' : Int), .string (strB t'), .slice fa' fs'.length fc', .string (strB r'), .slice la' ls'.length lc', .slice pa' ps'.length pc'] 38) := ⟨_, rfl⟩
                  obtain ⟨gb, hgb⟩ : ∃ gb, gb = wr.heap.size := ⟨_, rfl⟩
                  have hb2 : Below wr.heap.size wr W2 := by rw [hW2]; exact (Below.refl _ _).alloc (Nat.le_refl _) _
                  have hcb : CellsAt W2 gb 38 #[.int .i64 k', .int .u64 (n' : Int), .string (strB t'), .slice fa' fs'.length fc', .string (strB r'), .slice la' ls'.length lc', .slice pa' ps'.length pc'] := by rw [hW2, hgb]; exact CellsAt.new wr _ _
                  have HC := Lib.hid (inner_any hih HS.out (hx3.stays hb2) (hx5.stays hb2) (hWz.below hb2) (hpz.stays hb2) (show i64 3 from ⟨by decide, by decide⟩) (show i64 (m : Int) from ⟨by omega, by omega⟩) (rep_none) (hrx.stays hb2) hwx hxl)
                  have HON : Hid (∀ w3, WalkI S0 g ((allV (.mk k' n' t' fs' r' ls' ps')).map (fun q => pt.map Prod.fst ++ (⟨3, (m : Int), 0, V0⟩ : PS) :: q)) (xs ++ zs) (Value.slice aw (xs ++ zs).length cw).ownBlock.toList W2 w3 → WalkI S0 g (([[]] ++ seeK (kidsF fs) ++ seeK (kidsP ps) ++ seeK ((kidsL ls 0).take (m + 1))).map (fun q => pt.map Prod.fst ++ q)) xs T0 W0 w3) := fun w3 h => by
                    refine (WalkI.add hmz hGz hnz hb2 h).conv ?_
                    rw [hst]
                    simp
                  have HCB := Lib.hid hcb
                  have HGB := Lib.hid hgb
                  have HW2 := Lib.hid hW2
                  clear hq hks hwx hih hW2 hgb hb2 hcb hrx hmz hWz hGz hnz hx3 hx4 hx5 hpz hst hxl HI
                  go_upto_region 17 with fail
                  rw [← HW2.out, ← HGB.out]
                  have hcb := HCB.out
                  have z0 := hcb.cell 0 (v := .int .i64 k') rfl
                  have z1 := hcb.cell 1 (v := .int .u64 (n' : Int)) rfl
                  have z2 := hcb.cell 2 (v := .string (strB t')) rfl
                  have z3 := hcb.cell 3 (v := .slice fa' fs'.length fc') rfl
                  have z4 := hcb.cell 4 (v := .string (strB r')) rfl
                  have z5 := hcb.cell 5 (v := .slice la' ls'.length lc') rfl
                  have z6 := hcb.cell 6 (v := .slice pa' ps'.length pc') rfl
                  clear hcb HW2 HCB HGB y0 y1 y2 y3 y4 y5 y6
                  go_wp2_with (go_at_call 68; refine HC.out.mono ?_; rintro e w3 ⟨rfl, hI⟩; have HI3 := Lib.hid (HON.out w3 hI); clear hI HC HON z0 z1 z2 z3 z4 z5 z6)
                  go_roundw
                  case rel => exact ⟨m + 1, h1, by go_num, HI3.out⟩
                  case measure => simp only [intOf]; omega
                · obtain rfl : m = ls.length := by omega
                  have HE : Hid (WalkI S0 g ((allV (.mk k n t fs r ls ps)).map (fun q => pt.map Prod.fst ++ q)) xs T0 w wr) := by
                    refine (HI.out.since HB.out).conv ?_
                    rw [HZ.out, List.take_of_length_le (Nat.le_of_eq (kidsL_len ls 0))]
                    simp only [List.append_assoc, List.cons_append, List.nil_append]
                  clear HI
                  go_wp2_with fail
                  go_end0
                  exact ⟨rfl, HE.out⟩
end Go.Proofs.YtcjflglpkpkflaaGreatDoor
namespace Go.Proofs.YtcjflglpkpkflaaGreatDoor
open Go Go.RowKit
set_option linter.unusedVariables false
/-- what the walk of a whole value leaves -/
def AllW (S : Nat → Prop) (v : V) (b : Nat) (w W1 : World) (e : Ending) (w3 : World) : Prop :=
  e = .returned (.tuple #[]) ∧ ∃ (ys : List PR) (av : Option Addr) (cv : Nat), mapX ys = allV v ∧ CellsAt w3 (b + 1) 99 #[.slice av ys.length cv] ∧ OfX 23 S w.heap.size w3 (.slice av ys.length cv) ys ∧ Below w.heap.size w w3
theorem AllW.of {S : Nat → Prop} {v : V} {b : Nat} {w W1 : World} {e : Ending} {w3 : World} (hb : b = w.heap.size) (hb1 : Below w.heap.size w W1)
    (h : e = .returned (.tuple #[]) ∧ WalkI (fun k => S k ∧ k < w.heap.size) (b + 1) ((allV v).map (fun q => (([] : List SQ).map Prod.fst) ++ q)) [] (Value.slice none ([] : List PR).length 0).ownBlock.toList W1 w3) : AllW S v b w W1 e w3 := by
  obtain ⟨rfl, ys, av, cv, hm, hW, hG, hn⟩ := h
  rw [List.nil_append] at hW
  refine ⟨rfl, ys, av, cv, ?_, hW.1, ⟨hW.2.1.mono (by omega), fun x hx => (hW.2.2 x hx).mono (fun k hk => ?_)⟩, ?_⟩
  · rw [hm]; simp
  · rcases hk with hk | hk
    · exact .inl hk.1
    · exact .inr ⟨by have := hk.1; omega, hk.2⟩
  · refine hG.below hb1 (fun i hi => ?_) hb1.size
    simp [Value.ownBlock] at hi
    omega
set_option maxRecDepth 100000 in
set_option maxHeartbeats 4000000 in
theorem pall_any {k : Int} {n : Nat} {t r : List UInt8} {fs : List (Int × V)} {ls : List V} {ps : List (V × V)} {fa la pa : Option Addr} {fc lc pc : Nat} {S : Nat → Prop} {w : World} (hr : Rep S w (.mk k n t fs r ls ps) ⟨fa, fc, la, lc, pa, pc⟩) (hw : wV (.mk k n t fs r ls ps) ≤ 1000000) :
    Calls Tryz.prog 20 #[.agg #[.int .i64 k, .int .u64 (n : Int), .string (strB t), .slice fa fs.length fc, .string (strB r), .slice la ls.length lc, .slice pa ps.length pc]] w (AllX 23 S (.mk k n t fs r ls ps) w) := by
  obtain ⟨W1, hW1⟩ : ∃ W1, W1 = (w.alloc (.cells #[.int .i64 k, .int .u64 (n : Int), .string (strB t), .slice fa fs.length fc, .string (strB r), .slice la ls.length lc, .slice pa ps.length pc] 38)).alloc (.cells #[.slice none 0 0] 99) := ⟨_, rfl⟩
  obtain ⟨b, hb⟩ : ∃ b, b = w.heap.size := ⟨_, rfl⟩
  have hb1 : Below w.heap.size w W1 := by rw [hW1]; exact ((Below.refl _ _).alloc (Nat.le_refl _) _).alloc (by simp) _
  have hcv : CellsAt W1 b 38 #[.int .i64 k, .int .u64 (n : Int), .string (strB t), .slice fa fs.length fc, .string (strB r), .slice la ls.length lc, .slice pa ps.length pc] := by rw [hW1, hb]; exact (CellsAt.new w _ _).stays ((Below.refl _ _).alloc (Nat.le_refl _) _)
  have hcg : CellsAt W1 (b + 1) 99 #[.slice none 0 0] := by
    have := CellsAt.new (w.alloc (.cells #[.int .i64 k, .int .u64 (n : Int), .string (strB t), .slice fa fs.length fc, .string (strB r), .slice la ls.length lc, .slice pa ps.length pc] 38)) #[.slice none 0 0] 99
    rw [hW1, hb]; simpa using this
  have HC : Hid (Calls Tryz.prog 45 #[.pointer (some ⟨b + 1, 0, none⟩), .agg #[.int .i64 k, .int .u64 (n : Int), .string (strB t), .slice fa fs.length fc, .string (strB r), .slice la ls.length lc, .slice pa ps.length pc], .slice none 0 0] W1 (AllW S (.mk k n t fs r ls ps) b w W1)) := by
    have h1 := allV_len (.mk k n t fs r ls ps)
    have hC := WalkC.lit (walk_any (.mk k n t fs r ls ps)) (S0 := fun k => S k ∧ k < w.heap.size) (g := b + 1) (w := W1) (xs := []) (av := none) (cv := 0) (pt := []) (ap := none) (cp := 0) (fun k hk => by have := hk.2; omega) (hr.lt.stays hb1) (by simpa using hw) (by simp; omega) ⟨hcg, OfX.nil _ _⟩ ⟨⟨RowS.nil _, fun q hq => by cases hq⟩, fun h => absurd rfl h⟩
    exact hC.mono (fun e w3 h => AllW.of hb hb1 h)
  have HV := Lib.hid hcv
  have HW := Lib.hid hW1
  have HG := Lib.hid hb
  clear hr hw hb1 hcv hcg hW1 hb
  go_enter Tryz.func20, Tryz.ntmps20
  go_upto_region 2 with fail
  rw [← HW.out, ← HG.out]
  clear HW HG
  have hcv := HV.out
  have x0 := hcv.cell 0 (v := .int .i64 k) rfl
  have x1 := hcv.cell 1 (v := .int .u64 (n : Int)) rfl
  have x2 := hcv.cell 2 (v := .string (strB t)) rfl
  have x3 := hcv.cell 3 (v := .slice fa fs.length fc) rfl
  have x4 := hcv.cell 4 (v := .string (strB r)) rfl
  have x5 := hcv.cell 5 (v := .slice la ls.length lc) rfl
  have x6 := hcv.cell 6 (v := .slice pa ps.length pc) rfl
  clear hcv HV
  go_wp2_with fail
  refine HC.out.mono ?_
  rintro e w3 ⟨rfl, ys, av, cv, hm, hcg, hO, hbe⟩
  have e0 := hcg.cell 0 (v := .slice av ys.length cv) rfl
  have HM := Lib.hid hm
  have HO := Lib.hid hO
  have HBE := Lib.hid hbe
  clear hm hO hbe hcg x0 x1 x2 x3 x4 x5 x6
  go_wp2_with fail
  go_ret
  exact ⟨ys, av, cv, rfl, HM.out, HO.out, HBE.out⟩
end Go.Proofs.YtcjflglpkpkflaaGreatDoor
namespace Go.Proofs.YtcjflglpkpkflaaGreatDoor
open Go Go.RowKit
set_option linter.unusedVariables false
theorem infoRS : (Tryz.prog.info? 84).map (fun i => (i.zero, i.size, i.bytes)) = some (some (.agg #[.int .i64 0, .int .i64 0, .int .i64 0, .int .i64 0, .int .u64 0, .string ⟨#[]⟩, .slice none 0 0, .string ⟨#[]⟩, .slice none 0 0, .slice none 0 0]), 10, 144) := by kernel_rfl
theorem likeQ : RepLike RQ := ⟨fun h hS => ⟨h.1, h.2.mono hS⟩, fun h => ⟨h.1, h.2.lt⟩, fun h hg hT => ⟨h.1, h.2.grew hg hT⟩⟩
/-- what Of answers of a path: the same steps, in blocks made since -/
def OfQ (p : List SQ) (w : World) (e : Ending) (w' : World) : Prop := ∃ (a : Option Addr) (c : Nat) (q : List SQ), e = .returned (.slice a q.length c) ∧ q.map Prod.fst = p.map Prod.fst ∧ OfR 84 10 sC RQ w.heap.size w' (.slice a q.length c) q ∧ Below w.heap.size w w'
section
variable {S : Nat → Prop} {w : World} {a : Option Addr} {c : Nat} {p : List SQ}
set_option maxRecDepth 100000 in
set_option maxHeartbeats 8000000 in
theorem ofpath_any (hr : PathR S w (.slice a p.length c) p) (hl : p.length ≤ 1000000) (hw : ∀ q ∈ p, wV q.1.v ≤ 1000000) : Calls Tryz.prog 17 #[.slice a p.length c] w (OfQ p w) := by
  have HR : Hid (∀ W, Below w.heap.size w W → PathR S W (.slice a p.length c) p) := fun W hb => hr.stays hb
  have HWV := Lib.hid hw
  clear hr hw
  go_enter Tryz.func17, Tryz.ntmps17
  go_wp2_with fail
  have HO0 : Hid (OfR 84 10 sC RQ w.heap.size (w.alloc (.cells #[] 84)) (.slice (some ⟨w.heap.size, 0, none⟩) 0 0) []) := ⟨World.ownsRow_made (base := w.heap.size) (e := 84) (size := 10) w #[] 0 (Nat.le_refl _) (Nat.zero_le _) rfl, fun q hq => by cases hq⟩
  have HB0 : Hid (Below w.heap.size w (w.alloc (.cells #[] 84))) := (Below.refl _ _).alloc (Nat.le_refl _) _
  go_loopw [3, 9] (fun v i wr => ∃ (m : Nat) (q : List SQ) (av : Option Addr) (cv : Nat), m ≤ p.length ∧ i = .int .i64 m ∧ v = .slice av m cv ∧ q.length = m ∧ Hid (q.map Prod.fst = (p.take m).map Prod.fst) ∧ Hid (OfR 84 10 sC RQ w.heap.size wr (.slice av m cv) q) ∧ Hid (Below w.heap.size w wr)) (fun _ i _ => p.length - (intOf i).toNat)
  case atStart => exact ⟨0, [], _, _, Nat.zero_le _, rfl, rfl, rfl, rfl, HO0.out, HB0.out⟩
  case round =>
    clear HO0 HB0
    obtain ⟨m, q, av, cv, hm, rfl, rfl, hqm, HM, HO, HBE⟩ := hrel
    by_cases h1 : m < p.length
    · obtain ⟨⟨⟨K, N, T, ⟨k', n', t', fs', r', ls', ps'⟩⟩, ⟨fa', fc', la', lc', pa', pc'⟩⟩, hq⟩ : ∃ x, p[m]? = some x := ⟨_, List.getElem?_eq_getElem h1⟩
      obtain ⟨bq, oq, rfl, hrx, x0, x1, x2, c0, c1, c2, c3, c4, c5, c6⟩ := (HR.out wr HBE.out).at hq
      obtain ⟨W1, hW1⟩ : ∃ W, W = wr.alloc (.cells #[.int .i64 K, .int .i64 N, .int .i64 T, .int .i64 k', .int .u64 (n' : Int), .string (strB t'), .slice fa' fs'.length fc', .string (strB r'), .slice la' ls'.length lc', .slice pa' ps'.length pc'] 62) := ⟨_, rfl⟩
      obtain ⟨g, hg⟩ : ∃ g, g = wr.heap.size := ⟨_, rfl⟩
      have hbA : Below wr.heap.size wr W1 := by rw [hW1]; exact (Below.refl _ _).alloc (Nat.le_refl _) _
      have hcx : CellsAt W1 g 62 #[.int .i64 K, .int .i64 N, .int .i64 T, .int .i64 k', .int .u64 (n' : Int), .string (strB t'), .slice fa' fs'.length fc', .string (strB r'), .slice la' ls'.length lc', .slice pa' ps'.length pc'] := by rw [hW1, hg]; exact CellsAt.new wr _ _
      have hwq := HWV.out _ (List.mem_of_getElem? hq)
      have HOF : Hid (∀ W, Below W1.heap.size W1 W → Calls _ _ _ W _) := fun W h => OfC.lit (of_any _) (hrx.2.stays (hbA.trans (h.mono hbA.size))) hwq
      have HO1 := Lib.hid (HO.out.below likeQ hbA)
      have hgw : w.heap.size ≤ W1.heap.size := Nat.le_trans HBE.out.size hbA.size
      have HGW := Lib.hid hgw
      have HB1 := Lib.hid (HBE.out.trans (hbA.mono HBE.out.size))
      have HS : Hid (∀ W, Below W1.heap.size W1 W → CellsAt W g 62 #[.int .i64 K, .int .i64 N, .int .i64 T, .int .i64 k', .int .u64 (n' : Int), .string (strB t'), .slice fa' fs'.length fc', .string (strB r'), .slice la' ls'.length lc', .slice pa' ps'.length pc'] ∧ OfR 84 10 sC RQ w.heap.size W (.slice av m cv) q ∧ w.heap.size ≤ W.heap.size) := fun W h => ⟨hcx.stays h, HO1.out.below likeQ h, Nat.le_trans hgw h.size⟩
      have HSC : Hid (∀ W, CellsAt W g 62 #[.int .i64 K, .int .i64 N, .int .i64 T, .int .i64 k', .int .u64 (n' : Int), .string (strB t'), .slice fa' fs'.length fc', .string (strB r'), .slice la' ls'.length lc', .slice pa' ps'.length pc'] → W.cell? ⟨g, 0, none⟩ = some (.int .i64 K) ∧ W.cell? ⟨g, 1, none⟩ = some (.int .i64 N) ∧ W.cell? ⟨g, 2, none⟩ = some (.int .i64 T) ∧ W.cell? ⟨g, 3, none⟩ = some (.int .i64 k') ∧ W.cell? ⟨g, 4, none⟩ = some (.int .u64 (n' : Int)) ∧ W.cell? ⟨g, 5, none⟩ = some (.string (strB t')) ∧ W.cell? ⟨g, 6, none⟩ = some (.slice fa' fs'.length fc') ∧ W.cell? ⟨g, 7, none⟩ = some (.string (strB r')) ∧ W.cell? ⟨g, 8, none⟩ = some (.slice la' ls'.length lc') ∧ W.cell? ⟨g, 9, none⟩ = some (.slice pa' ps'.length pc')) := fun W h1 => ⟨h1.cell 0 rfl, h1.cell 1 rfl, h1.cell 2 rfl, h1.cell 3 rfl, h1.cell 4 rfl, h1.cell 5 rfl, h1.cell 6 rfl, h1.cell 7 rfl, h1.cell 8 rfl, h1.cell 9 rfl⟩
      have HLT : Hid (∀ k, (Value.slice av m cv).ownBlock = some k → k < g) := fun k hk => by rw [hg]; exact (HO.out.1.lt k hk).2
      have HI64 := Lib.hid hrx.1
      have HQ := Lib.hid hq
      have HWW := Lib.hid hW1
      have HGG := Lib.hid hg
      clear hbA hcx hwq hrx hq hW1 hg hgw
      go_wp2_with fail
      have hW1 := HWW.out
      have hg := HGG.out
      rw [← hW1, ← hg]
      clear hW1 hg HWW HGG x0 x1 x2 c0 c1 c2 c3 c4 c5 c6
      have hd0 : Below W1.heap.size W1 W1 := Below.refl _ _
      have hd1 : Below W1.heap.size W1 W1.drew := hd0.drew
      go_region_held3 (fun W => W.cell? ⟨g, 0, none⟩ = some (.int .i64 K) ∧ W.cell? ⟨g, 1, none⟩ = some (.int .i64 N) ∧ W.cell? ⟨g, 2, none⟩ = some (.int .i64 T) ∧ W.cell? ⟨g, 3, none⟩ = some (.int .i64 k') ∧ W.cell? ⟨g, 4, none⟩ = some (.int .u64 (n' : Int)) ∧ W.cell? ⟨g, 5, none⟩ = some (.string (strB t')) ∧ W.cell? ⟨g, 6, none⟩ = some (.slice fa' fs'.length fc') ∧ W.cell? ⟨g, 7, none⟩ = some (.string (strB r')) ∧ W.cell? ⟨g, 8, none⟩ = some (.slice la' ls'.length lc') ∧ W.cell? ⟨g, 9, none⟩ = some (.slice pa' ps'.length pc'))
        (first | exact HSC.out _ (HS.out _ (by assumption)).1 | exact HSC.out _ (HS.out _ (Below.alloc (by assumption) (Below.size (by assumption)) _)).1 | exact HSC.out _ (by assumption))
        (first
          | (go_at_call 16; (with_reducible refine (HOF.out _ (by assumption)).mono ?_); rintro e w6 ⟨fa6, la6, pa6, fc6, lc6, pc6, rfl, hr6, hb6⟩; have hb7 := hd1.trans (hb6.mono hd1.size); obtain ⟨hcg6, ⟨how6, -⟩, hs6⟩ := HS.out w6 hb7)
          | (refine step_pushS sC_len sC_one Tryz.underlying51 infoRS rfl (by decide) how6 (⟨K, N, T, .mk k' n' t' fs' r' ls' ps'⟩, ⟨fa6, fc6, la6, lc6, pa6, pc6⟩) (by omega) hs6 rfl _ _ rfl (by rfl) _ _ _ (by rfl) (by rfl) ?_; intro v7 w7 o7 g7 n7; have hcg7 := hcg6.grown g7 (fun e => by have := HLT.out _ e; omega)))
      have hP := OfR.push likeQ (HS.out W1.drew hd1).2.1 hb6 (HS.out W1.drew hd1).2.2 (x := ((⟨K, N, T, .mk k' n' t' fs' r' ls' ps'⟩, ⟨fa6, fc6, la6, lc6, pa6, pc6⟩) : SQ)) ⟨HI64.out, hr6⟩ o7 g7 n7
      have hB7 : Below w.heap.size w w7 := OwnS.below how6 (HB1.out.trans (hb7.mono HGW.out)) g7 hs6
      obtain ⟨a7, c7, hv7, -, -⟩ := hP.row.shape sC_len
      subst hv7
      have hl7 : (q ++ [((⟨K, N, T, .mk k' n' t' fs' r' ls' ps'⟩, ⟨fa6, fc6, la6, lc6, pa6, pc6⟩) : SQ)]).length = m + 1 := by rw [List.length_append, hqm]; rfl
      rw [hl7] at hP ⊢
      have HP := Lib.hid hP
      have HB7 := Lib.hid hB7
      have HM7 : Hid ((q ++ [((⟨K, N, T, .mk k' n' t' fs' r' ls' ps'⟩, ⟨fa6, fc6, la6, lc6, pa6, pc6⟩) : SQ)]).map Prod.fst = (p.take (m + 1)).map Prod.fst) := by
        show _ = _
        rw [List.map_append, HM.out, List.take_add_one, HQ.out, Option.toList_some, List.map_append]; rfl
      try (rename_i hHH; clear hHH)
      clear hP hB7 HOF HO1 HGW HB1 HS HSC HLT HI64 HQ hd0 hd1 hr6 hb6 hb7 hcg6 how6 hs6 o7 g7 n7 hcg7 HM HO
      go_wp2_with fail
      go_roundw
      case rel => exact ⟨m + 1, _, a7, c7, h1, by go_num, rfl, hl7, HM7.out, HP.out, HB7.out⟩
      case measure => simp only [intOf]; omega
    · obtain rfl : m = p.length := by omega
      have HM2 : Hid (q.map Prod.fst = p.map Prod.fst) := by show _ = _; rw [HM.out, List.take_length]
      clear HM HR HWV
      go_wp2_with fail
      go_ret
      exact ⟨av, cv, q, by rw [hqm]; rfl, HM2.out, by rw [hqm]; exact HO.out, HBE.out⟩
end
end Go.Proofs.YtcjflglpkpkflaaGreatDoor
namespace Go.Proofs.YtcjflglpkpkflaaGreatDoor
open Go Go.RowKit
set_option linter.unusedVariables false
theorem key_w {v : V} (h : rightV v = true) (hk : v.k = 0 ∨ v.k = 1 ∨ (v.k = 2 ∧ v.t.length ≤ 4096)) : wV v ≤ 5000 := by
  obtain ⟨⟨h1, h2, h3, h4, h5, h6⟩, -, -, -⟩ := (rightV_iff v).1 h
  have e1 : v.fs = [] ∧ v.r = [] := h4 (by omega)
  have e2 : v.ls = [] := by
    by_cases e : v.ls = []
    · exact e
    · have := h5.2 e; omega
  have e3 : v.ps = [] := by
    by_cases e : v.ps = []
    · exact e
    · have := h6.2 e; omega
  have e4 : v.t.length ≤ 4096 := by
    by_cases e : v.k = 2
    · omega
    · rw [h3 e]; simp
  rw [wV_eq, e1.1, e1.2, e2, e3]
  simp only [wF, wL, wP, List.length_nil]
  omega
theorem step_w {s : PS} (h : stepB s = true) : wV s.v ≤ 1000000 := by
  have hno : noB s.v = true → wV s.v ≤ 1000000 := fun e => by
    unfold noB at e
    rw [Bool.and_eq_true, beq_iff_eq] at e
    have := key_w e.2 (.inl e.1)
    omega
  unfold stepB at h
  split at h
  · simp only [Bool.and_eq_true] at h; exact hno h.2
  · split at h
    · simp only [Bool.and_eq_true] at h; exact hno h.2
    · split at h
      · simp only [Bool.and_eq_true] at h; exact hno h.2
      · split at h
        · simp only [Bool.and_eq_true] at h
          have h2 := h.2
          unfold keyB at h2
          simp only [Bool.and_eq_true, Bool.or_eq_true, beq_iff_eq, decide_eq_true_eq] at h2
          have := key_w h2.1 (.inr h2.2)
          omega
        · cases h
theorem OfR.pathZ {B : Nat} {w : World} {v : Value} {q : List SQ} (h : OfR 84 10 sC RQ B w v q) : PathR (fun k => B ≤ k ∧ v.ownBlock ≠ some k) w v q := ⟨OfR.row h, h.2⟩
set_option maxRecDepth 100000 in
set_option maxHeartbeats 32000000 in
theorem walkPathAll (w : World) (va : V) (aa : A3) (hra : Rep (fun _ => True) w va aa) {aF : Addr} (hE : ErrsN w) (hF : ErrAt w 0 aF) (hP : PowU w) :
    Calls Tryz.prog 5 #[vG (va, aa)] w fun e w' => e = .returned (.bool true) ∧ Below w.heap.size w w' := by
  obtain ⟨k, n, t, fs, r, ls, ps⟩ := va
  obtain ⟨fa, fc, la, lc, pa, pc⟩ := aa
  rw [vG_lit]
  obtain ⟨W0, hW0⟩ : ∃ W0, W0 = w.alloc (.cells #[.int .i64 k, .int .u64 (n : Int), .string (strB t), .slice fa fs.length fc, .string (strB r), .slice la ls.length lc, .slice pa ps.length pc] 38) := ⟨_, rfl⟩
  obtain ⟨g, hg⟩ : ∃ g, g = w.heap.size := ⟨_, rfl⟩
  have hb0 : Below w.heap.size w W0 := by rw [hW0]; exact (Below.refl _ _).alloc (Nat.le_refl _) _
  have hcx : CellsAt W0 g 38 #[.int .i64 k, .int .u64 (n : Int), .string (strB t), .slice fa fs.length fc, .string (strB r), .slice la ls.length lc, .slice pa ps.length pc] := by rw [hW0, hg]; exact CellsAt.new w _ _
  have HF : Hid (∀ W, Below W0.heap.size W0 W → Below w.heap.size w W) := fun W hb => hb0.trans (hb.mono hb0.size)
  have HX : Hid (∀ W, Below W0.heap.size W0 W → CellsAt W g 38 #[.int .i64 k, .int .u64 (n : Int), .string (strB t), .slice fa fs.length fc, .string (strB r), .slice la ls.length lc, .slice pa ps.length pc]) := fun W hb => hcx.stays hb
  have HAL := Lib.hid (alive17 (hE.stays hb0) (hF.stays hb0) (hP.stays hb0))
  have HA : Hid (∀ W, Below W0.heap.size W0 W → Rep (fun _ => True) W (.mk k n t fs r ls ps) ⟨fa, fc, la, lc, pa, pc⟩) := fun W hb => hra.stays (HF.out W hb)
  have HW := Lib.hid hW0
  have HG := Lib.hid hg
  clear hE hF hP hra hcx hW0 hg hb0
  go_enter Tryz.func5, Tryz.ntmps5
  go_wp2_with fail
  have hW0 := HW.out
  have hg := HG.out
  rw [← hW0, ← hg]
  clear hW0 hg HW HG
  refine HAL.out.mono ?_
  rintro e w1 ⟨rfl, hb1⟩
  clear HAL
  obtain ⟨x0, x1, x2, x3, x4, x5, x6⟩ := box7 (HX.out w1 hb1)
  go_wp2_with fail
  refine (Great_any (by omega) (by omega) (HA.out w1 hb1)).mono ?_
  rintro e w2 ⟨rfl, hb2⟩
  replace hb2 := hb1.trans (hb2.mono hb1.size)
  clear hb1 x0 x1 x2 x3 x4 x5 x6
  by_cases hga : greatV (.mk k n t fs r ls ps) 100 30 < 0
  · have HF2 := Lib.hid (HF.out w2 hb2)
    go_wp2_with fail
    go_ret
    exact ⟨rfl, HF2.out⟩
  have HWA := Lib.hid (great_w2 hga)
  have HGA : Hid (¬ greatV (.mk k n t fs r ls ps) 100 30 < 0) := hga
  have e1 : decide (greatV (.mk k n t fs r ls ps) 100 30 < 0) = false := decide_eq_false hga
  generalize decide (greatV (.mk k n t fs r ls ps) 100 30 < 0) = b1 at e1 ⊢
  subst e1
  clear hga
  obtain ⟨x0, x1, x2, x3, x4, x5, x6⟩ := box7 (HX.out w2 hb2)
  have HB2 := Lib.hid hb2
  clear hb2
  go_wp2_with fail
  refine (right_lit (HA.out w2 HB2.out)).mono ?_
  rintro e w4 ⟨rfl, hb4⟩
  replace hb4 := HB2.out.trans (hb4.mono HB2.out.size)
  clear HB2 x0 x1 x2 x3 x4 x5 x6
  cases hRA : rightV (.mk k n t fs r ls ps) with
  | false =>
    have HF4 := Lib.hid (HF.out w4 hb4)
    clear hRA hb4
    go_wp2_with fail
    go_ret
    exact ⟨rfl, HF4.out⟩
  | true =>
  have hw6 : wV (.mk k n t fs r ls ps) ≤ 1000000 := by have := HWA.out; omega
  have HLAW : Hid (∀ (i : Nat) (p : List PS), (allV (.mk k n t fs r ls ps))[i]? = some p → _) := fun i p hi => all_law hRA (by have := HGA.out; omega) (by have := HWA.out; omega) hi
  have HAN : Hid ((allV (.mk k n t fs r ls ps)).length ≤ 1000000) := by show _ ≤ _; have := allV_len (.mk k n t fs r ls ps); omega
  have HPG : Hid (∀ W, Below W0.heap.size W0 W → ∀ {S2 : Nat → Prop} {ap : Option Addr} {cp : Nat} {p : List SQ}, PathR S2 W (.slice ap p.length cp) p → Calls Tryz.prog 14 #[.agg #[.int .i64 k, .int .u64 (n : Int), .string (strB t), .slice fa fs.length fc, .string (strB r), .slice la ls.length lc, .slice pa ps.length pc], .slice ap p.length cp] W (GetP (fun _ => True) (getP (.mk k n t fs r ls ps) (p.map Prod.fst)) W)) := fun W hb S2 ap cp p hp => pget_any (HA.out W hb) hp hRA hw6
  obtain ⟨x0, x1, x2, x3, x4, x5, x6⟩ := box7 (HX.out w4 hb4)
  have HB4 := Lib.hid hb4
  have HW6 := Lib.hid hw6
  clear hw6 hRA hb4 HWA HGA
  go_wp2_with fail
  refine (pall_any (HA.out w4 HB4.out) HW6.out).mono ?_
  rintro e w5 ⟨xs, av, cv, rfl, hmx, hox, hb5⟩
  have hB5 := HB4.out.trans (hb5.mono HB4.out.size)
  have HMX := Lib.hid hmx
  have HOX := Lib.hid hox
  have HB5 := Lib.hid hB5
  clear hmx hox hb5 hB5 x0 x1 x2 x3 x4 x5 x6
  obtain ⟨x0, x1, x2, x3, x4, x5, x6⟩ := box7 (HX.out w5 HB5.out)
  go_wp2_with fail
  refine (OfC.lit (of_any _) (HA.out w5 HB5.out) HW6.out).mono ?_
  rintro e w6 ⟨fa7, la7, pa7, fc7, lc7, pc7, rfl, hr7, hb6⟩
  have HOX6 := Lib.hid (HOX.out.below hb6)
  have HB6 := Lib.hid (HB5.out.trans (hb6.mono HB5.out.size))
  have HR7 := Lib.hid hr7
  clear hr7 hb6 HOX x0 x1 x2 x3 x4 x5 x6
  go_wp2_with fail
  refine (RAllC.lit (rall_any _) HR7.out HW6.out).mono ?_
  rintro e w7 ⟨ys, ay, cy, rfl, hmy, hoy, hb7⟩
  have hlx : xs.length = (allV (.mk k n t fs r ls ps)).length := by rw [← HMX.out]; unfold mapX; rw [List.length_map]
  have hly : ys.length = (allV (.mk k n t fs r ls ps)).length := by rw [← hmy]; unfold mapX; rw [List.length_map]
  have hne : ((xs.length : Int) != (ys.length : Int)) = false := by rw [hlx, hly]; simp
  have hxl : xs.length ≤ 1000000 := by have := HAN.out; omega
  have HLL : Hid (ys.length = xs.length) := by show _ = _; omega
  have HMY := Lib.hid hmy
  have HB7 := Lib.hid (HB6.out.trans (hb7.mono HB6.out.size))
  have HOS : Hid (∀ W, Below w7.heap.size w7 W → OfX 23 (fun _ => True) w4.heap.size W (.slice av xs.length cv) xs ∧ OfX 51 (fun k => w5.heap.size ≤ k) w6.heap.size W (.slice ay ys.length cy) ys ∧ Below W0.heap.size W0 W) := fun W h =>
    ⟨(HOX6.out.below hb7).below h, hoy.below h, HB7.out.trans (h.mono HB7.out.size)⟩
  clear hmy hoy hb7 hlx hly HR7 HB6 HB5 HB4 HOX6 HAN HB7
  go_wp2_with fail
  go_loopw [30] (fun i wr => ∃ m : Nat, m ≤ xs.length ∧ i = .int .i64 m ∧ Hid (Below w7.heap.size w7 wr)) (fun i _ => xs.length - (intOf i).toNat)
  case atStart => exact ⟨0, Nat.zero_le _, rfl, Below.refl _ _⟩
  case round =>
    clear hne
    obtain ⟨m, hm, rfl, HI⟩ := hrel
    by_cases h1 : m < xs.length
    · obtain ⟨⟨p, ⟨ap, cp⟩⟩, hpx⟩ : ∃ x, xs[m]? = some x := ⟨_, List.getElem?_eq_getElem h1⟩
      obtain ⟨⟨q, ⟨aq, cq⟩⟩, hqy⟩ : ∃ x, ys[m]? = some x := ⟨_, List.getElem?_eq_getElem (by rw [HLL.out]; exact h1)⟩
      obtain ⟨⟨p0, ⟨a0, c0⟩⟩, hp0⟩ : ∃ x, xs[0]? = some x := ⟨_, List.getElem?_eq_getElem (by omega)⟩
      have hma : (allV (.mk k n t fs r ls ps))[m]? = some (p.map Prod.fst) := by rw [← HMX.out]; unfold mapX; rw [List.getElem?_map, hpx]; rfl
      have hmq : some (q.map Prod.fst) = some (p.map Prod.fst) := by rw [← hma, ← HMY.out]; unfold mapX; rw [List.getElem?_map, hqy]; rfl
      have hqp : q.map Prod.fst = p.map Prod.fst := Option.some.inj hmq
      have hm0 : (allV (.mk k n t fs r ls ps))[0]? = some (p0.map Prod.fst) := by rw [← HMX.out]; unfold mapX; rw [List.getElem?_map, hp0]; rfl
      obtain ⟨hg1, hg2, hg3, hg4, hg5, hg6⟩ := HLAW.out m _ hma
      have hox := HOS.out wr HI.out
      obtain ⟨b, o, rfl, hcp, hpp⟩ := hox.1.at hpx
      obtain ⟨b', o', rfl, hcq, hpq⟩ := hox.2.1.at hqy
      obtain ⟨b2, o2, he2, hc0, hpp0⟩ := hox.1.at hp0
      cases he2
      have hpB : pathQ p = true := by rw [pathQ_map]; exact hg3
      have hkw : ∀ x ∈ p, wV x.1.v ≤ 1000000 := fun x hx => step_w (by
        unfold pathQ at hpB
        exact List.all_eq_true.1 hpB x hx)
      have hpl : p.length ≤ 1000000 := by
        rw [List.length_map] at hg4
        exact Nat.le_trans hg4 HW6.out
      have HPP : Hid (∀ W, Below wr.heap.size wr W → PathR _ W (.slice ap p.length cp) p) := fun W h => hpp.1.stays h
      have HPQ : Hid (∀ W, Below wr.heap.size wr W → PathR _ W (.slice aq q.length cq) q) := fun W h => hpq.1.stays h
      have HP0 : Hid (∀ W, Below wr.heap.size wr W → PathR _ W (.slice a0 p0.length c0) p0) := fun W h => hpp0.1.stays h
      have HOf : Hid (∀ W, Below wr.heap.size wr W → Calls Tryz.prog 17 #[.slice ap p.length cp] W fun e w' => ∃ (a15 : Option Addr) (c15 n15 : Nat), e = .returned (.slice a15 n15 c15) ∧ Below W.heap.size W w' ∧
          ∀ W', Below w'.heap.size w' W' → Calls Tryz.prog 22 #[.slice a15 n15 c15, .slice aq q.length cq] W' fun e w'' => e = .returned (.bool true) ∧ Below W'.heap.size W' w'') := fun W h => by
        refine (ofpath_any (HPP.out W h) hpl hkw).mono ?_
        rintro e w9 ⟨a9, c9, q9, rfl, hm9, hO9, hb9⟩
        refine ⟨a9, c9, q9.length, rfl, hb9, fun W' h' => ?_⟩
        have hC := rsame17_any ((OfR.pathZ hO9).stays h') (HPQ.out W' ((h.trans (hb9.mono h.size)).trans (h'.mono (Nat.le_trans h.size hb9.size))))
        have hs : sameQ q9 q = true := by unfold sameQ; rw [hm9, hqp]; exact sameP_self _
        rw [hs] at hC
        exact hC
      have HRi : Hid (∀ W, Below wr.heap.size wr W → Calls Tryz.prog 8 #[.slice ap p.length cp] W fun e w' => e = .returned (.bool true) ∧ Below W.heap.size W w') := fun W h => by
        have := pright_any (HPP.out W h)
        rw [hpB] at this
        exact this
      have HB0 : Hid (∀ W, Below wr.heap.size wr W → Calls Tryz.prog 23 #[.slice a0 p0.length c0, .slice ap p.length cp] W fun e w' => e = .returned (.bool true) ∧ Below W.heap.size W w') := fun W h => by
        have hC := begins_any (HP0.out W h) (HPP.out W h)
        have h6 := hg6 _ hm0
        rw [List.length_map, List.length_map, ← List.map_take] at h6
        have hs : (decide (p0.length ≤ p.length) && sameQ p0 (p.take p0.length)) = true := h6
        rw [hs] at hC
        exact hC
      have HSm : Hid (∀ W, Below wr.heap.size wr W → Calls Tryz.prog 11 #[.slice ap p.length cp, .slice ap p.length cp] W fun e w' => e = .returned (.bool true) ∧ Below W.heap.size W w') := fun W h => by
        have hC := psame_any (HPP.out W h) (HPP.out W h)
        have hs : sameQ p p = true := by unfold sameQ; exact sameP_self _
        rw [hs] at hC
        exact hC
      have HBq : Hid (∀ (j : Nat) (p1 : List SQ) (a1 : Option Addr) (c1 : Nat), m = j + 1 → xs[j]? = some (p1, (a1, c1)) → ∀ W, Below wr.heap.size wr W → Calls Tryz.prog 23 #[.slice ap p.length cp, .slice a1 p1.length c1] W fun e w' => e = .returned (.bool false) ∧ Below W.heap.size W w') := fun j p1 a1 c1 hj hx1 W h => by
        have hm1 : (allV (.mk k n t fs r ls ps))[j]? = some (p1.map Prod.fst) := by rw [← HMX.out]; unfold mapX; rw [List.getElem?_map, hx1]; rfl
        obtain ⟨b3, o3, he3, hc3, hpp3⟩ := hox.1.at hx1
        have hC := begins_any (HPP.out W h) (hpp3.1.stays h)
        have h6 := hg5 j _ hj hm1
        rw [List.length_map, List.length_map, ← List.map_take] at h6
        have hs : (decide (p.length ≤ p1.length) && sameQ p (p1.take p.length)) = false := h6
        rw [hs] at hC
        exact hC
      have HPx := Lib.hid hp0
      have hGet := HPG.out wr hox.2.2 hpp.1
      generalize getP (.mk k n t fs r ls ps) (p.map Prod.fst) = X at hGet hg1 hg2
      obtain ⟨⟨k8, n8, t8, fs8, r8, ls8, ps8⟩, bb⟩ := X
      simp only at hg1 hg2
      subst hg1
      have hk8 : (k8 == 0) = false := by simpa [V.k] using hg2
      have HGe := Lib.hid hGet
      have HCP := Lib.hid hcp
      have hbw := hox.2.2
      obtain ⟨x0, x1, x2, x3, x4, x5, x6⟩ := box7 (HX.out wr hbw)
      have HHS : Hid (∀ W, Below wr.heap.size wr W → W.cell? ⟨b', o' + m, none⟩ = some (.slice aq q.length cq) ∧ W.cell? ⟨b, o, none⟩ = some (.slice a0 p0.length c0)) := fun W h => by
        have hox2 := HOS.out W (HI.out.trans (h.mono HI.out.size))
        obtain ⟨_, _, he, hc, _⟩ := hox2.2.1.at hqy
        cases he
        obtain ⟨_, _, he, hc0, _⟩ := hox2.1.at hp0
        cases he
        exact ⟨hc, hc0⟩
      have HHP : Hid (∀ (j : Nat) (p1 : List SQ) (a1 : Option Addr) (c1 : Nat), xs[j]? = some (p1, (a1, c1)) → ∀ W, Below wr.heap.size wr W → W.cell? ⟨b, o + j, none⟩ = some (.slice a1 p1.length c1)) := fun j p1 a1 c1 hj W h => by
        have hox2 := HOS.out W (HI.out.trans (h.mono HI.out.size))
        obtain ⟨_, _, he, hc, _⟩ := hox2.1.at hj
        cases he
        exact hc
      have HF8 : Hid (∀ W, Below wr.heap.size wr W → Below w7.heap.size w7 W) := fun W h => HI.out.trans (h.mono HI.out.size)
      clear hpx hqy hp0 hma hmq hqp hm0 hg2 hg3 hg4 hg5 hg6 hox hpp hpq hpp0 hpB hkw hpl hGet hcq hc0 hbw HPP HPQ HP0 HI HPG HLAW
      go_wp2_with fail
      refine HGe.out.mono ?_
      intro e w8 hv
      obtain ⟨fa8, la8, pa8, fc8, lc8, pc8, rfl, hr8, hb8⟩ := hv.lit
      have HB8 := Lib.hid hb8
      clear hv hr8 hb8 HGe x0 x1 x2 x3 x4 x5 x6
      have hoA : (#[.int .i64 k8, .int .u64 (n8 : Int), .string (strB t8), .slice fa8 fs8.length fc8, .string (strB r8), .slice la8 ls8.length lc8, .slice pa8 ps8.length pc8] : Array Value).all (·.oneCell') = true := by simp [Value.oneCell']
      have hsA : (#[.int .i64 k8, .int .u64 (n8 : Int), .string (strB t8), .slice fa8 fs8.length fc8, .string (strB r8), .slice la8 ls8.length lc8, .slice pa8 ps8.length pc8] : Array Value).size = 7 := rfl
      go_upto_region 13 with (refine wpList_storeW rfl 38 _ _ rfl (w8.heap.size) (by rfl) (#[.int .i64 k8, .int .u64 (n8 : Int), .string (strB t8), .slice fa8 fs8.length fc8, .string (strB r8), .slice la8 ls8.length lc8, .slice pa8 ps8.length pc8] : Array Value) (by rfl) 38 _ (CellsAt.new w8 noneA 38) rfl (by rw [hsA]; exact sizeVL) hoA ?_; intro wa hc6 hg6; have hb6 : Below w8.heap.size w8 wa := (Grew.ofGrown hg6).below ((Below.refl _ _).alloc (Nat.le_refl _) _) (fun i hi => by rw [show i = w8.heap.size from by simpa using hi]; exact Nat.le_refl _) (by simp); have HBa := Lib.hid (HB8.out.trans (hb6.mono HB8.out.size)); have HCa := Lib.hid hc6; clear hc6 hg6 hb6 hoA hsA)
      have HFa : Hid (∀ W, Below wa.heap.size wa W → Below wr.heap.size wr W) := fun W h => HBa.out.trans (h.mono HBa.out.size)
      have HF7 : Hid (∀ W, Below wa.heap.size wa W → Below w7.heap.size w7 W) := fun W h => HF8.out W (HFa.out W h)
      replace HOf : Hid (∀ W, Below wa.heap.size wa W → Calls _ _ _ W _) := fun W h => HOf.out W (HFa.out W h)
      replace HRi : Hid (∀ W, Below wa.heap.size wa W → Calls _ _ _ W _) := fun W h => HRi.out W (HFa.out W h)
      replace HB0 : Hid (∀ W, Below wa.heap.size wa W → Calls _ _ _ W _) := fun W h => HB0.out W (HFa.out W h)
      replace HSm : Hid (∀ W, Below wa.heap.size wa W → Calls _ _ _ W _) := fun W h => HSm.out W (HFa.out W h)
      have hm0 : (m : Int) = 0 ∨ 0 < m := by omega
      have ht1 : Below wa.heap.size wa wa.drew := (Below.refl _ _).drew
      have hxp : (0 : Int) < (xs.length : Int) := by omega
      rcases Nat.eq_zero_or_pos m with hz | hz
      · subst hz
        have hy0 : (0 : Int) < (ys.length : Int) := by have := HLL.out; omega
        have hy1 : 0 < ys.length := by have := HLL.out; omega
        have HSa : Hid (∀ W, Below wa.heap.size wa W → W.cell? ⟨w8.heap.size, 0, none⟩ = some (.int .i64 k8) ∧ W.cell? ⟨b', o', none⟩ = some (.slice aq q.length cq) ∧ W.cell? ⟨b, o, none⟩ = some (.slice a0 p0.length c0)) := fun W h => ⟨(HCa.out.stays h).cell 0 rfl, HHS.out W (HFa.out W h)⟩
        refine wp_region_noPanic ?_
        refine wp_region_held_drew (S := fun W => W.cell? ⟨w8.heap.size, 0, none⟩ = some (.int .i64 k8) ∧ W.cell? ⟨b', o', none⟩ = some (.slice aq q.length cq) ∧ W.cell? ⟨b, o, none⟩ = some (.slice a0 p0.length c0)) (by kernel_rfl) ?_ (fun hH0 => ?_)
        focus ((try dsimp only); exact HSa.out _ ht1)
        refine wpAnyH_take (i := 0) (oi := ⟨some 41, _, _, _, _, _⟩) (v := ?_) rfl (by kernel_rfl) (by kernel_rfl) (by kernel_rfl) (fun _ _ _ h => h) (Or.inl ⟨by rfl, ?_⟩) (by assumption) ?_
        rotate_left
        focus (intro wq hSq; (try dsimp only at hSq); go_simp; try (with_reducible rfl))
        try simp only [Act.put, List.setIfInBounds_toArray, List.set_cons_zero, List.set_cons_succ]
        refine wpAnyH_take (i := 2) (oi := ⟨some 43, _, _, _, _, _⟩) (v := ?_) rfl (by kernel_rfl) (by kernel_rfl) (by kernel_rfl) (fun _ _ _ h => h) (Or.inl ⟨by rfl, ?_⟩) (by assumption) ?_
        rotate_left
        focus (intro wq hSq; (try dsimp only at hSq); go_simp; try (with_reducible rfl))
        try simp only [Act.put, List.setIfInBounds_toArray, List.set_cons_zero, List.set_cons_succ]
        refine wpAnyH_take (i := 3) (oi := ⟨some 44, _, _, _, _, _⟩) (v := ?_) rfl (by kernel_rfl) (by kernel_rfl) (by kernel_rfl) (fun _ _ _ h => h) (Or.inl ⟨by rfl, ?_⟩) (by assumption) ?_
        rotate_left
        focus (intro wq hSq; (try dsimp only at hSq); go_simp; try (with_reducible rfl))
        try simp only [Act.put, List.setIfInBounds_toArray, List.set_cons_zero, List.set_cons_succ]
        refine wpAnyH_take (i := 4) (oi := ⟨some 45, _, _, _, _, _⟩) (v := ?_) rfl (by kernel_rfl) (by kernel_rfl) (by kernel_rfl) (fun _ _ _ h => h) (Or.inl ⟨by rfl, ?_⟩) (by assumption) ?_
        rotate_left
        focus (intro wq hSq; (try dsimp only at hSq); go_simp; try (with_reducible rfl))
        try simp only [Act.put, List.setIfInBounds_toArray, List.set_cons_zero, List.set_cons_succ]
        refine wpAnyH_take (i := 5) (oi := ⟨some 46, _, _, _, _, _⟩) (v := ?_) rfl (by kernel_rfl) (by kernel_rfl) (by kernel_rfl) (fun _ _ _ h => h) (Or.inl ⟨by rfl, ?_⟩) (by assumption) ?_
        rotate_left
        focus (intro wq hSq; (try dsimp only at hSq); go_simp; try (with_reducible rfl))
        try simp only [Act.put, List.setIfInBounds_toArray, List.set_cons_zero, List.set_cons_succ]
        refine wpAnyH_ready (rs := [1]) (by kernel_rfl) (by simp) ?_
        refine AllReadyH.cons (o := _) rfl (fun K hK => ?_) AllReadyH.nil
        go_simp
        go_at_call 17
        refine (HOf.out _ ht1).mono ?_
        rintro e ht2w ⟨a15, c15, n15, rfl, ht2b, hC15⟩
        have ht2 : Below wa.heap.size wa ht2w := below_call ht2b ht1
        go_wp2_with fail
        refine hK.out _ _ ?_ (fun hH1 => ?_)
        focus ((try dsimp only); exact HSa.out _ ht2)
        clear hK K hH0
        try simp only [Act.put, List.setIfInBounds_toArray, List.set_cons_zero, List.set_cons_succ]
        refine wpAnyH_ready (rs := [6]) (by kernel_rfl) (by simp) ?_
        refine AllReadyH.cons (o := _) rfl (fun K hK => ?_) AllReadyH.nil
        go_simp
        go_at_call 22
        refine (hC15 _ (Below.refl _ _)).mono ?_
        rintro e ht3w ⟨rfl, ht3b⟩
        have ht3 : Below wa.heap.size wa ht3w := below_call ht3b ht2
        go_wp2_with fail
        refine hK.out _ _ ?_ (fun hH2 => ?_)
        focus ((try dsimp only); exact HSa.out _ ht3)
        clear hK K hH1
        try simp only [Act.put, List.setIfInBounds_toArray, List.set_cons_zero, List.set_cons_succ]
        refine wpAnyH_take (i := 7) (oi := ⟨some 48, _, _, _, _, _⟩) (v := ?_) rfl (by kernel_rfl) (by kernel_rfl) (by kernel_rfl) (fun _ _ _ h => h) (Or.inl ⟨by rfl, ?_⟩) (by assumption) ?_
        rotate_left
        focus (intro wq hSq; (try dsimp only at hSq); go_simp; try (with_reducible rfl))
        try simp only [Act.put, List.setIfInBounds_toArray, List.set_cons_zero, List.set_cons_succ]
        refine wpAnyH_take (i := 8) (oi := ⟨some 49, _, _, _, _, _⟩) (v := ?_) rfl (by kernel_rfl) (by kernel_rfl) (by kernel_rfl) (fun _ _ _ h => h) (Or.inl ⟨by rfl, ?_⟩) (by assumption) ?_
        rotate_left
        focus (intro wq hSq; (try dsimp only at hSq); go_simp; try (with_reducible rfl))
        try simp only [Act.put, List.setIfInBounds_toArray, List.set_cons_zero, List.set_cons_succ]
        refine wpAnyH_take (i := 9) (oi := ⟨some 50, _, _, _, _, _⟩) (v := ?_) rfl (by kernel_rfl) (by kernel_rfl) (by kernel_rfl) (fun _ _ _ h => h) (Or.inl ⟨by rfl, ?_⟩) (by assumption) ?_
        rotate_left
        focus (intro wq hSq; (try dsimp only at hSq); go_simp; try (with_reducible rfl))
        try simp only [Act.put, List.setIfInBounds_toArray, List.set_cons_zero, List.set_cons_succ]
        refine wpAnyH_take (i := 10) (oi := ⟨some 51, _, _, _, _, _⟩) (v := ?_) rfl (by kernel_rfl) (by kernel_rfl) (by kernel_rfl) (fun _ _ _ h => h) (Or.inl ⟨by rfl, ?_⟩) (by assumption) ?_
        rotate_left
        focus (intro wq hSq; (try dsimp only at hSq); go_simp; try (with_reducible rfl))
        try simp only [Act.put, List.setIfInBounds_toArray, List.set_cons_zero, List.set_cons_succ]
        refine wpAnyH_take (i := 11) (oi := ⟨some 52, _, _, _, _, _⟩) (v := ?_) rfl (by kernel_rfl) (by kernel_rfl) (by kernel_rfl) (fun _ _ _ h => h) (Or.inl ⟨by rfl, ?_⟩) (by assumption) ?_
        rotate_left
        focus (intro wq hSq; (try dsimp only at hSq); go_simp; try (with_reducible rfl))
        try simp only [Act.put, List.setIfInBounds_toArray, List.set_cons_zero, List.set_cons_succ]
        refine wpAnyH_take (i := 12) (oi := ⟨some 53, _, _, _, _, _⟩) (v := ?_) rfl (by kernel_rfl) (by kernel_rfl) (by kernel_rfl) (fun _ _ _ h => h) (Or.inl ⟨by rfl, ?_⟩) (by assumption) ?_
        rotate_left
        focus (intro wq hSq; (try dsimp only at hSq); go_simp; try (with_reducible rfl))
        try simp only [Act.put, List.setIfInBounds_toArray, List.set_cons_zero, List.set_cons_succ]
        refine wpAnyH_take (i := 13) (oi := ⟨some 54, _, _, _, _, _⟩) (v := ?_) rfl (by kernel_rfl) (by kernel_rfl) (by kernel_rfl) (fun _ _ _ h => h) (Or.inl ⟨by rfl, ?_⟩) (by assumption) ?_
        rotate_left
        focus (intro wq hSq; (try dsimp only at hSq); go_simp; try (with_reducible rfl))
        try simp only [Act.put, List.setIfInBounds_toArray, List.set_cons_zero, List.set_cons_succ]
        refine wpAnyH_take (i := 14) (oi := ⟨some 55, _, _, _, _, _⟩) (v := ?_) rfl (by kernel_rfl) (by kernel_rfl) (by kernel_rfl) (fun _ _ _ h => h) (Or.inl ⟨by rfl, ?_⟩) (by assumption) ?_
        rotate_left
        focus (intro wq hSq; (try dsimp only at hSq); go_simp; try (with_reducible rfl))
        try simp only [Act.put, List.setIfInBounds_toArray, List.set_cons_zero, List.set_cons_succ]
        refine wpAnyH_take (i := 15) (oi := ⟨some 56, _, _, _, _, _⟩) (v := ?_) rfl (by kernel_rfl) (by kernel_rfl) (by kernel_rfl) (fun _ _ _ h => h) (Or.inl ⟨by rfl, ?_⟩) (by assumption) ?_
        rotate_left
        focus (intro wq hSq; (try dsimp only at hSq); go_simp; try (with_reducible rfl))
        try simp only [Act.put, List.setIfInBounds_toArray, List.set_cons_zero, List.set_cons_succ]
        refine wpAnyH_take (i := 16) (oi := ⟨some 57, _, _, _, _, _⟩) (v := ?_) rfl (by kernel_rfl) (by kernel_rfl) (by kernel_rfl) (fun _ _ _ h => h) (Or.inl ⟨by rfl, ?_⟩) (by assumption) ?_
        rotate_left
        focus (intro wq hSq; (try dsimp only at hSq); go_simp; try (with_reducible rfl))
        try simp only [Act.put, List.setIfInBounds_toArray, List.set_cons_zero, List.set_cons_succ]
        refine wpAnyH_take (i := 17) (oi := ⟨some 58, _, _, _, _, _⟩) (v := ?_) rfl (by kernel_rfl) (by kernel_rfl) (by kernel_rfl) (fun _ _ _ h => h) (Or.inl ⟨by rfl, ?_⟩) (by assumption) ?_
        rotate_left
        focus (intro wq hSq; (try dsimp only at hSq); go_simp; try (with_reducible rfl))
        try simp only [Act.put, List.setIfInBounds_toArray, List.set_cons_zero, List.set_cons_succ]
        refine wpAnyH_take (i := 18) (oi := ⟨some 59, _, _, _, _, _⟩) (v := ?_) rfl (by kernel_rfl) (by kernel_rfl) (by kernel_rfl) (fun _ _ _ h => h) (Or.inl ⟨by rfl, ?_⟩) (by assumption) ?_
        rotate_left
        focus (intro wq hSq; (try dsimp only at hSq); go_simp; try (with_reducible rfl))
        try simp only [Act.put, List.setIfInBounds_toArray, List.set_cons_zero, List.set_cons_succ]
        refine wpAnyH_ready (rs := [19]) (by kernel_rfl) (by simp) ?_
        refine AllReadyH.cons (o := _) rfl (fun K hK => ?_) AllReadyH.nil
        go_simp
        go_at_call 8
        refine (HRi.out _ ht3).mono ?_
        rintro e ht4w ⟨rfl, ht4b⟩
        have ht4 : Below wa.heap.size wa ht4w := below_call ht4b ht3
        go_wp2_with fail
        refine hK.out _ _ ?_ (fun hH3 => ?_)
        focus ((try dsimp only); exact HSa.out _ ht4)
        clear hK K hH2
        try simp only [Act.put, List.setIfInBounds_toArray, List.set_cons_zero, List.set_cons_succ]
        refine wpAnyH_take (i := 20) (oi := ⟨some 61, _, _, _, _, _⟩) (v := ?_) rfl (by kernel_rfl) (by kernel_rfl) (by kernel_rfl) (fun _ _ _ h => h) (Or.inl ⟨by rfl, ?_⟩) (by assumption) ?_
        rotate_left
        focus (intro wq hSq; (try dsimp only at hSq); go_simp; try (with_reducible rfl))
        try simp only [Act.put, List.setIfInBounds_toArray, List.set_cons_zero, List.set_cons_succ]
        refine wpAnyH_take (i := 21) (oi := ⟨some 62, _, _, _, _, _⟩) (v := ?_) rfl (by kernel_rfl) (by kernel_rfl) (by kernel_rfl) (fun _ _ _ h => h) (Or.inl ⟨by rfl, ?_⟩) (by assumption) ?_
        rotate_left
        focus (intro wq hSq; (try dsimp only at hSq); go_simp; try (with_reducible rfl))
        try simp only [Act.put, List.setIfInBounds_toArray, List.set_cons_zero, List.set_cons_succ]
        refine wpAnyH_take (i := 22) (oi := ⟨some 63, _, _, _, _, _⟩) (v := ?_) rfl (by kernel_rfl) (by kernel_rfl) (by kernel_rfl) (fun _ _ _ h => h) (Or.inl ⟨by rfl, ?_⟩) (by assumption) ?_
        rotate_left
        focus (intro wq hSq; (try dsimp only at hSq); go_simp; try (with_reducible rfl))
        try simp only [Act.put, List.setIfInBounds_toArray, List.set_cons_zero, List.set_cons_succ]
        refine wpAnyH_take (i := 23) (oi := ⟨some 64, _, _, _, _, _⟩) (v := ?_) rfl (by kernel_rfl) (by kernel_rfl) (by kernel_rfl) (fun _ _ _ h => h) (Or.inl ⟨by rfl, ?_⟩) (by assumption) ?_
        rotate_left
        focus (intro wq hSq; (try dsimp only at hSq); go_simp; try (with_reducible rfl))
        try simp only [Act.put, List.setIfInBounds_toArray, List.set_cons_zero, List.set_cons_succ]
        refine wpAnyH_take (i := 24) (oi := ⟨some 65, _, _, _, _, _⟩) (v := ?_) rfl (by kernel_rfl) (by kernel_rfl) (by kernel_rfl) (fun _ _ _ h => h) (Or.inl ⟨by rfl, ?_⟩) (by assumption) ?_
        rotate_left
        focus (intro wq hSq; (try dsimp only at hSq); go_simp; try (with_reducible rfl))
        try simp only [Act.put, List.setIfInBounds_toArray, List.set_cons_zero, List.set_cons_succ]
        refine wpAnyH_take (i := 25) (oi := ⟨some 66, _, _, _, _, _⟩) (v := ?_) rfl (by kernel_rfl) (by kernel_rfl) (by kernel_rfl) (fun _ _ _ h => h) (Or.inl ⟨by rfl, ?_⟩) (by assumption) ?_
        rotate_left
        focus (intro wq hSq; (try dsimp only at hSq); go_simp; try (with_reducible rfl))
        try simp only [Act.put, List.setIfInBounds_toArray, List.set_cons_zero, List.set_cons_succ]
        refine wpAnyH_take (i := 26) (oi := ⟨some 67, _, _, _, _, _⟩) (v := undef) rfl (by kernel_rfl) (by kernel_rfl) (by kernel_rfl) (fun _ _ _ h => h) (Or.inr ⟨by rfl, rfl⟩) (by assumption) ?_
        try simp only [Act.put, List.setIfInBounds_toArray, List.set_cons_zero, List.set_cons_succ]
        refine wpAnyH_take (i := 27) (oi := ⟨some 68, _, _, _, _, _⟩) (v := undef) rfl (by kernel_rfl) (by kernel_rfl) (by kernel_rfl) (fun _ _ _ h => h) (Or.inr ⟨by rfl, rfl⟩) (by assumption) ?_
        try simp only [Act.put, List.setIfInBounds_toArray, List.set_cons_zero, List.set_cons_succ]
        refine wpAnyH_take (i := 28) (oi := ⟨some 69, _, _, _, _, _⟩) (v := undef) rfl (by kernel_rfl) (by kernel_rfl) (by kernel_rfl) (fun _ _ _ h => h) (Or.inr ⟨by rfl, rfl⟩) (by assumption) ?_
        try simp only [Act.put, List.setIfInBounds_toArray, List.set_cons_zero, List.set_cons_succ]
        refine wpAnyH_take (i := 29) (oi := ⟨some 70, _, _, _, _, _⟩) (v := undef) rfl (by kernel_rfl) (by kernel_rfl) (by kernel_rfl) (fun _ _ _ h => h) (Or.inr ⟨by rfl, rfl⟩) (by assumption) ?_
        try simp only [Act.put, List.setIfInBounds_toArray, List.set_cons_zero, List.set_cons_succ]
        refine wpAnyH_take (i := 30) (oi := ⟨some 71, _, _, _, _, _⟩) (v := undef) rfl (by kernel_rfl) (by kernel_rfl) (by kernel_rfl) (fun _ _ _ h => h) (Or.inr ⟨by rfl, rfl⟩) (by assumption) ?_
        try simp only [Act.put, List.setIfInBounds_toArray, List.set_cons_zero, List.set_cons_succ]
        refine wpAnyH_take (i := 31) (oi := ⟨some 72, _, _, _, _, _⟩) (v := undef) rfl (by kernel_rfl) (by kernel_rfl) (by kernel_rfl) (fun _ _ _ h => h) (Or.inr ⟨by rfl, rfl⟩) (by assumption) ?_
        try simp only [Act.put, List.setIfInBounds_toArray, List.set_cons_zero, List.set_cons_succ]
        refine wpAnyH_take (i := 32) (oi := ⟨some 73, _, _, _, _, _⟩) (v := undef) rfl (by kernel_rfl) (by kernel_rfl) (by kernel_rfl) (fun _ _ _ h => h) (Or.inr ⟨by rfl, rfl⟩) (by assumption) ?_
        try simp only [Act.put, List.setIfInBounds_toArray, List.set_cons_zero, List.set_cons_succ]
        refine wpAnyH_take (i := 33) (oi := ⟨some 74, _, _, _, _, _⟩) (v := ?_) rfl (by kernel_rfl) (by kernel_rfl) (by kernel_rfl) (fun _ _ _ h => h) (Or.inl ⟨by rfl, ?_⟩) (by assumption) ?_
        rotate_left
        focus (intro wq hSq; (try dsimp only at hSq); go_simp; try (with_reducible rfl))
        try simp only [Act.put, List.setIfInBounds_toArray, List.set_cons_zero, List.set_cons_succ]
        refine wpAnyH_take (i := 34) (oi := ⟨some 75, _, _, _, _, _⟩) (v := ?_) rfl (by kernel_rfl) (by kernel_rfl) (by kernel_rfl) (fun _ _ _ h => h) (Or.inl ⟨by rfl, ?_⟩) (by assumption) ?_
        rotate_left
        focus (intro wq hSq; (try dsimp only at hSq); go_simp; try (with_reducible rfl))
        try simp only [Act.put, List.setIfInBounds_toArray, List.set_cons_zero, List.set_cons_succ]
        refine wpAnyH_take (i := 35) (oi := ⟨some 76, _, _, _, _, _⟩) (v := ?_) rfl (by kernel_rfl) (by kernel_rfl) (by kernel_rfl) (fun _ _ _ h => h) (Or.inl ⟨by rfl, ?_⟩) (by assumption) ?_
        rotate_left
        focus (intro wq hSq; (try dsimp only at hSq); go_simp; try (with_reducible rfl))
        try simp only [Act.put, List.setIfInBounds_toArray, List.set_cons_zero, List.set_cons_succ]
        refine wpAnyH_take (i := 36) (oi := ⟨some 77, _, _, _, _, _⟩) (v := ?_) rfl (by kernel_rfl) (by kernel_rfl) (by kernel_rfl) (fun _ _ _ h => h) (Or.inl ⟨by rfl, ?_⟩) (by assumption) ?_
        rotate_left
        focus (intro wq hSq; (try dsimp only at hSq); go_simp; try (with_reducible rfl))
        try simp only [Act.put, List.setIfInBounds_toArray, List.set_cons_zero, List.set_cons_succ]
        refine wpAnyH_take (i := 37) (oi := ⟨some 78, _, _, _, _, _⟩) (v := ?_) rfl (by kernel_rfl) (by kernel_rfl) (by kernel_rfl) (fun _ _ _ h => h) (Or.inl ⟨by rfl, ?_⟩) (by assumption) ?_
        rotate_left
        focus (intro wq hSq; (try dsimp only at hSq); go_simp; try (with_reducible rfl))
        try simp only [Act.put, List.setIfInBounds_toArray, List.set_cons_zero, List.set_cons_succ]
        refine wpAnyH_take (i := 38) (oi := ⟨some 79, _, _, _, _, _⟩) (v := ?_) rfl (by kernel_rfl) (by kernel_rfl) (by kernel_rfl) (fun _ _ _ h => h) (Or.inl ⟨by rfl, ?_⟩) (by assumption) ?_
        rotate_left
        focus (intro wq hSq; (try dsimp only at hSq); go_simp; try (with_reducible rfl))
        try simp only [Act.put, List.setIfInBounds_toArray, List.set_cons_zero, List.set_cons_succ]
        refine wpAnyH_take (i := 39) (oi := ⟨some 80, _, _, _, _, _⟩) (v := ?_) rfl (by kernel_rfl) (by kernel_rfl) (by kernel_rfl) (fun _ _ _ h => h) (Or.inl ⟨by rfl, ?_⟩) (by assumption) ?_
        rotate_left
        focus (intro wq hSq; (try dsimp only at hSq); go_simp; try (with_reducible rfl))
        try simp only [Act.put, List.setIfInBounds_toArray, List.set_cons_zero, List.set_cons_succ]
        refine wpAnyH_ready (rs := [40]) (by kernel_rfl) (by simp) ?_
        refine AllReadyH.cons (o := _) rfl (fun K hK => ?_) AllReadyH.nil
        go_simp
        go_at_call 23
        refine (HB0.out _ ht4).mono ?_
        rintro e ht6w ⟨rfl, ht6b⟩
        have ht6 : Below wa.heap.size wa ht6w := below_call ht6b ht4
        go_wp2_with fail
        refine hK.out _ _ ?_ (fun hH4 => ?_)
        focus ((try dsimp only); exact HSa.out _ ht6)
        clear hK K hH3
        try simp only [Act.put, List.setIfInBounds_toArray, List.set_cons_zero, List.set_cons_succ]
        refine wpAnyH_take (i := 41) (oi := ⟨some 82, _, _, _, _, _⟩) (v := ?_) rfl (by kernel_rfl) (by kernel_rfl) (by kernel_rfl) (fun _ _ _ h => h) (Or.inl ⟨by rfl, ?_⟩) (by assumption) ?_
        rotate_left
        focus (intro wq hSq; (try dsimp only at hSq); go_simp; try (with_reducible rfl))
        try simp only [Act.put, List.setIfInBounds_toArray, List.set_cons_zero, List.set_cons_succ]
        refine wpAnyH_take (i := 42) (oi := ⟨some 83, _, _, _, _, _⟩) (v := ?_) rfl (by kernel_rfl) (by kernel_rfl) (by kernel_rfl) (fun _ _ _ h => h) (Or.inl ⟨by rfl, ?_⟩) (by assumption) ?_
        rotate_left
        focus (intro wq hSq; (try dsimp only at hSq); go_simp; try (with_reducible rfl))
        try simp only [Act.put, List.setIfInBounds_toArray, List.set_cons_zero, List.set_cons_succ]
        refine wpAnyH_take (i := 43) (oi := ⟨some 84, _, _, _, _, _⟩) (v := ?_) rfl (by kernel_rfl) (by kernel_rfl) (by kernel_rfl) (fun _ _ _ h => h) (Or.inl ⟨by rfl, ?_⟩) (by assumption) ?_
        rotate_left
        focus (intro wq hSq; (try dsimp only at hSq); go_simp; try (with_reducible rfl))
        try simp only [Act.put, List.setIfInBounds_toArray, List.set_cons_zero, List.set_cons_succ]
        refine wpAnyH_take (i := 44) (oi := ⟨some 85, _, _, _, _, _⟩) (v := ?_) rfl (by kernel_rfl) (by kernel_rfl) (by kernel_rfl) (fun _ _ _ h => h) (Or.inl ⟨by rfl, ?_⟩) (by assumption) ?_
        rotate_left
        focus (intro wq hSq; (try dsimp only at hSq); go_simp; try (with_reducible rfl))
        try simp only [Act.put, List.setIfInBounds_toArray, List.set_cons_zero, List.set_cons_succ]
        refine wpAnyH_take (i := 45) (oi := ⟨some 86, _, _, _, _, _⟩) (v := ?_) rfl (by kernel_rfl) (by kernel_rfl) (by kernel_rfl) (fun _ _ _ h => h) (Or.inl ⟨by rfl, ?_⟩) (by assumption) ?_
        rotate_left
        focus (intro wq hSq; (try dsimp only at hSq); go_simp; try (with_reducible rfl))
        try simp only [Act.put, List.setIfInBounds_toArray, List.set_cons_zero, List.set_cons_succ]
        refine wpAnyH_ready (rs := [46]) (by kernel_rfl) (by simp) ?_
        refine AllReadyH.cons (o := _) rfl (fun K hK => ?_) AllReadyH.nil
        go_simp
        go_at_call 11
        refine (HSm.out _ ht6).mono ?_
        rintro e ht7w ⟨rfl, ht7b⟩
        have ht7 : Below wa.heap.size wa ht7w := below_call ht7b ht6
        go_wp2_with fail
        refine hK.out _ _ ?_ (fun hH5 => ?_)
        focus ((try dsimp only); exact HSa.out _ ht7)
        clear hK K hH4
        try simp only [Act.put, List.setIfInBounds_toArray, List.set_cons_zero, List.set_cons_succ]
        refine wpAnyH_take (i := 47) (oi := ⟨some 88, _, _, _, _, _⟩) (v := ?_) rfl (by kernel_rfl) (by kernel_rfl) (by kernel_rfl) (fun _ _ _ h => h) (Or.inl ⟨by rfl, ?_⟩) (by assumption) ?_
        rotate_left
        focus (intro wq hSq; (try dsimp only at hSq); go_simp; try (with_reducible rfl))
        try simp only [Act.put, List.setIfInBounds_toArray, List.set_cons_zero, List.set_cons_succ]
        refine wpAnyH_take (i := 48) (oi := ⟨some 89, _, _, _, _, _⟩) (v := ?_) rfl (by kernel_rfl) (by kernel_rfl) (by kernel_rfl) (fun _ _ _ h => h) (Or.inl ⟨by rfl, ?_⟩) (by assumption) ?_
        rotate_left
        focus (intro wq hSq; (try dsimp only at hSq); go_simp; try (with_reducible rfl))
        try simp only [Act.put, List.setIfInBounds_toArray, List.set_cons_zero, List.set_cons_succ]
        refine wpAnyH_done (by kernel_rfl) ?_ _
        refine NoPanic.normal ?_
        clear hH5
        have HFZ := Lib.hid (HF7.out _ ht7)
        clear hC15 ht1 ht2 ht3 ht4 ht6 ht7 ht2b ht3b ht4b ht6b ht7b HSa HOf HRi HB0 HSm
        go_wp2_with fail
        go_roundw
        case rel => exact ⟨0 + 1, h1, by go_num, HFZ.out⟩
        case measure => simp only [intOf]; omega
      · obtain ⟨j, rfl⟩ : ∃ j, m = j + 1 := ⟨m - 1, by omega⟩
        obtain ⟨⟨p1, ⟨a1, c1⟩⟩, hp1⟩ : ∃ x, xs[j]? = some x := ⟨_, List.getElem?_eq_getElem (by omega)⟩
        have HBp : Hid (∀ W, Below wa.heap.size wa W → Calls _ _ _ W _) := fun W h => HBq.out j p1 a1 c1 rfl hp1 W (HFa.out W h)
        have hj1 : (0 : Int) ≤ (j : Int) + 1 := by omega
        have hj2 : (j : Int) + 1 < (ys.length : Int) := by have := HLL.out; omega
        have hj3 : (0 : Int) < (j : Int) + 1 := by omega
        have hj4 : (j : Int) < (xs.length : Int) := by omega
        have hj5 : (0 : Int) ≤ (j : Int) := by omega
        have hj6 : j < xs.length := by omega
        have hj9 : 0 < xs.length := by omega
        have hj7 : IntKind.i64.wrap (j : Int) = (j : Int) := IntWalk.i64_in _ (by omega)
        have hj8 : ((j : Int)).toNat = j := by simp
        have HSa : Hid (∀ W, Below wa.heap.size wa W → W.cell? ⟨w8.heap.size, 0, none⟩ = some (.int .i64 k8) ∧ W.cell? ⟨b', o' + (j + 1), none⟩ = some (.slice aq q.length cq) ∧ W.cell? ⟨b, o, none⟩ = some (.slice a0 p0.length c0) ∧ W.cell? ⟨b, o + j, none⟩ = some (.slice a1 p1.length c1)) := fun W h => ⟨(HCa.out.stays h).cell 0 rfl, (HHS.out W (HFa.out W h)).1, (HHS.out W (HFa.out W h)).2, HHP.out j p1 a1 c1 hp1 W (HFa.out W h)⟩
        refine wp_region_noPanic ?_
        refine wp_region_held_drew (S := fun W => W.cell? ⟨w8.heap.size, 0, none⟩ = some (.int .i64 k8) ∧ W.cell? ⟨b', o' + (j + 1), none⟩ = some (.slice aq q.length cq) ∧ W.cell? ⟨b, o, none⟩ = some (.slice a0 p0.length c0) ∧ W.cell? ⟨b, o + j, none⟩ = some (.slice a1 p1.length c1)) (by kernel_rfl) ?_ (fun hH0 => ?_)
        focus ((try dsimp only); exact HSa.out _ ht1)
        refine wpAnyH_take (i := 0) (oi := ⟨some 41, _, _, _, _, _⟩) (v := ?_) rfl (by kernel_rfl) (by kernel_rfl) (by kernel_rfl) (fun _ _ _ h => h) (Or.inl ⟨by rfl, ?_⟩) (by assumption) ?_
        rotate_left
        focus (intro wq hSq; (try dsimp only at hSq); go_simp; try (with_reducible rfl))
        try simp only [Act.put, List.setIfInBounds_toArray, List.set_cons_zero, List.set_cons_succ]
        refine wpAnyH_take (i := 2) (oi := ⟨some 43, _, _, _, _, _⟩) (v := ?_) rfl (by kernel_rfl) (by kernel_rfl) (by kernel_rfl) (fun _ _ _ h => h) (Or.inl ⟨by rfl, ?_⟩) (by assumption) ?_
        rotate_left
        focus (intro wq hSq; (try dsimp only at hSq); go_simp; try (with_reducible rfl))
        try simp only [Act.put, List.setIfInBounds_toArray, List.set_cons_zero, List.set_cons_succ]
        refine wpAnyH_take (i := 3) (oi := ⟨some 44, _, _, _, _, _⟩) (v := ?_) rfl (by kernel_rfl) (by kernel_rfl) (by kernel_rfl) (fun _ _ _ h => h) (Or.inl ⟨by rfl, ?_⟩) (by assumption) ?_
        rotate_left
        focus (intro wq hSq; (try dsimp only at hSq); go_simp; try (with_reducible rfl))
        try simp only [Act.put, List.setIfInBounds_toArray, List.set_cons_zero, List.set_cons_succ]
        refine wpAnyH_take (i := 4) (oi := ⟨some 45, _, _, _, _, _⟩) (v := ?_) rfl (by kernel_rfl) (by kernel_rfl) (by kernel_rfl) (fun _ _ _ h => h) (Or.inl ⟨by rfl, ?_⟩) (by assumption) ?_
        rotate_left
        focus (intro wq hSq; (try dsimp only at hSq); go_simp; try (with_reducible rfl))
        try simp only [Act.put, List.setIfInBounds_toArray, List.set_cons_zero, List.set_cons_succ]
        refine wpAnyH_take (i := 5) (oi := ⟨some 46, _, _, _, _, _⟩) (v := ?_) rfl (by kernel_rfl) (by kernel_rfl) (by kernel_rfl) (fun _ _ _ h => h) (Or.inl ⟨by rfl, ?_⟩) (by assumption) ?_
        rotate_left
        focus (intro wq hSq; (try dsimp only at hSq); go_simp; try (with_reducible rfl))
        try simp only [Act.put, List.setIfInBounds_toArray, List.set_cons_zero, List.set_cons_succ]
        refine wpAnyH_ready (rs := [1]) (by kernel_rfl) (by simp) ?_
        refine AllReadyH.cons (o := _) rfl (fun K hK => ?_) AllReadyH.nil
        go_simp
        go_at_call 17
        refine (HOf.out _ ht1).mono ?_
        rintro e ht2w ⟨a15, c15, n15, rfl, ht2b, hC15⟩
        have ht2 : Below wa.heap.size wa ht2w := below_call ht2b ht1
        go_wp2_with fail
        refine hK.out _ _ ?_ (fun hH1 => ?_)
        focus ((try dsimp only); exact HSa.out _ ht2)
        clear hK K hH0
        try simp only [Act.put, List.setIfInBounds_toArray, List.set_cons_zero, List.set_cons_succ]
        refine wpAnyH_ready (rs := [6]) (by kernel_rfl) (by simp) ?_
        refine AllReadyH.cons (o := _) rfl (fun K hK => ?_) AllReadyH.nil
        go_simp
        go_at_call 22
        refine (hC15 _ (Below.refl _ _)).mono ?_
        rintro e ht3w ⟨rfl, ht3b⟩
        have ht3 : Below wa.heap.size wa ht3w := below_call ht3b ht2
        go_wp2_with fail
        refine hK.out _ _ ?_ (fun hH2 => ?_)
        focus ((try dsimp only); exact HSa.out _ ht3)
        clear hK K hH1
        try simp only [Act.put, List.setIfInBounds_toArray, List.set_cons_zero, List.set_cons_succ]
        refine wpAnyH_take (i := 7) (oi := ⟨some 48, _, _, _, _, _⟩) (v := ?_) rfl (by kernel_rfl) (by kernel_rfl) (by kernel_rfl) (fun _ _ _ h => h) (Or.inl ⟨by rfl, ?_⟩) (by assumption) ?_
        rotate_left
        focus (intro wq hSq; (try dsimp only at hSq); go_simp; try (with_reducible rfl))
        try simp only [Act.put, List.setIfInBounds_toArray, List.set_cons_zero, List.set_cons_succ]
        refine wpAnyH_take (i := 8) (oi := ⟨some 49, _, _, _, _, _⟩) (v := ?_) rfl (by kernel_rfl) (by kernel_rfl) (by kernel_rfl) (fun _ _ _ h => h) (Or.inl ⟨by rfl, ?_⟩) (by assumption) ?_
        rotate_left
        focus (intro wq hSq; (try dsimp only at hSq); go_simp; try (with_reducible rfl))
        try simp only [Act.put, List.setIfInBounds_toArray, List.set_cons_zero, List.set_cons_succ]
        refine wpAnyH_take (i := 9) (oi := ⟨some 50, _, _, _, _, _⟩) (v := ?_) rfl (by kernel_rfl) (by kernel_rfl) (by kernel_rfl) (fun _ _ _ h => h) (Or.inl ⟨by rfl, ?_⟩) (by assumption) ?_
        rotate_left
        focus (intro wq hSq; (try dsimp only at hSq); go_simp; try (with_reducible rfl))
        try simp only [Act.put, List.setIfInBounds_toArray, List.set_cons_zero, List.set_cons_succ]
        refine wpAnyH_take (i := 10) (oi := ⟨some 51, _, _, _, _, _⟩) (v := ?_) rfl (by kernel_rfl) (by kernel_rfl) (by kernel_rfl) (fun _ _ _ h => h) (Or.inl ⟨by rfl, ?_⟩) (by assumption) ?_
        rotate_left
        focus (intro wq hSq; (try dsimp only at hSq); go_simp; try (with_reducible rfl))
        try simp only [Act.put, List.setIfInBounds_toArray, List.set_cons_zero, List.set_cons_succ]
        refine wpAnyH_take (i := 11) (oi := ⟨some 52, _, _, _, _, _⟩) (v := ?_) rfl (by kernel_rfl) (by kernel_rfl) (by kernel_rfl) (fun _ _ _ h => h) (Or.inl ⟨by rfl, ?_⟩) (by assumption) ?_
        rotate_left
        focus (intro wq hSq; (try dsimp only at hSq); go_simp; try (with_reducible rfl))
        try simp only [Act.put, List.setIfInBounds_toArray, List.set_cons_zero, List.set_cons_succ]
        refine wpAnyH_take (i := 12) (oi := ⟨some 53, _, _, _, _, _⟩) (v := ?_) rfl (by kernel_rfl) (by kernel_rfl) (by kernel_rfl) (fun _ _ _ h => h) (Or.inl ⟨by rfl, ?_⟩) (by assumption) ?_
        rotate_left
        focus (intro wq hSq; (try dsimp only at hSq); go_simp; try (with_reducible rfl))
        try simp only [Act.put, List.setIfInBounds_toArray, List.set_cons_zero, List.set_cons_succ]
        refine wpAnyH_take (i := 13) (oi := ⟨some 54, _, _, _, _, _⟩) (v := ?_) rfl (by kernel_rfl) (by kernel_rfl) (by kernel_rfl) (fun _ _ _ h => h) (Or.inl ⟨by rfl, ?_⟩) (by assumption) ?_
        rotate_left
        focus (intro wq hSq; (try dsimp only at hSq); go_simp; try (with_reducible rfl))
        try simp only [Act.put, List.setIfInBounds_toArray, List.set_cons_zero, List.set_cons_succ]
        refine wpAnyH_take (i := 14) (oi := ⟨some 55, _, _, _, _, _⟩) (v := ?_) rfl (by kernel_rfl) (by kernel_rfl) (by kernel_rfl) (fun _ _ _ h => h) (Or.inl ⟨by rfl, ?_⟩) (by assumption) ?_
        rotate_left
        focus (intro wq hSq; (try dsimp only at hSq); go_simp; try (with_reducible rfl))
        try simp only [Act.put, List.setIfInBounds_toArray, List.set_cons_zero, List.set_cons_succ]
        refine wpAnyH_take (i := 15) (oi := ⟨some 56, _, _, _, _, _⟩) (v := ?_) rfl (by kernel_rfl) (by kernel_rfl) (by kernel_rfl) (fun _ _ _ h => h) (Or.inl ⟨by rfl, ?_⟩) (by assumption) ?_
        rotate_left
        focus (intro wq hSq; (try dsimp only at hSq); go_simp; try (with_reducible rfl))
        try simp only [Act.put, List.setIfInBounds_toArray, List.set_cons_zero, List.set_cons_succ]
        refine wpAnyH_take (i := 16) (oi := ⟨some 57, _, _, _, _, _⟩) (v := ?_) rfl (by kernel_rfl) (by kernel_rfl) (by kernel_rfl) (fun _ _ _ h => h) (Or.inl ⟨by rfl, ?_⟩) (by assumption) ?_
        rotate_left
        focus (intro wq hSq; (try dsimp only at hSq); go_simp; try (with_reducible rfl))
        try simp only [Act.put, List.setIfInBounds_toArray, List.set_cons_zero, List.set_cons_succ]
        refine wpAnyH_take (i := 17) (oi := ⟨some 58, _, _, _, _, _⟩) (v := ?_) rfl (by kernel_rfl) (by kernel_rfl) (by kernel_rfl) (fun _ _ _ h => h) (Or.inl ⟨by rfl, ?_⟩) (by assumption) ?_
        rotate_left
        focus (intro wq hSq; (try dsimp only at hSq); go_simp; try (with_reducible rfl))
        try simp only [Act.put, List.setIfInBounds_toArray, List.set_cons_zero, List.set_cons_succ]
        refine wpAnyH_take (i := 18) (oi := ⟨some 59, _, _, _, _, _⟩) (v := ?_) rfl (by kernel_rfl) (by kernel_rfl) (by kernel_rfl) (fun _ _ _ h => h) (Or.inl ⟨by rfl, ?_⟩) (by assumption) ?_
        rotate_left
        focus (intro wq hSq; (try dsimp only at hSq); go_simp; try (with_reducible rfl))
        try simp only [Act.put, List.setIfInBounds_toArray, List.set_cons_zero, List.set_cons_succ]
        refine wpAnyH_ready (rs := [19]) (by kernel_rfl) (by simp) ?_
        refine AllReadyH.cons (o := _) rfl (fun K hK => ?_) AllReadyH.nil
        go_simp
        go_at_call 8
        refine (HRi.out _ ht3).mono ?_
        rintro e ht4w ⟨rfl, ht4b⟩
        have ht4 : Below wa.heap.size wa ht4w := below_call ht4b ht3
        go_wp2_with fail
        refine hK.out _ _ ?_ (fun hH3 => ?_)
        focus ((try dsimp only); exact HSa.out _ ht4)
        clear hK K hH2
        try simp only [Act.put, List.setIfInBounds_toArray, List.set_cons_zero, List.set_cons_succ]
        refine wpAnyH_take (i := 20) (oi := ⟨some 61, _, _, _, _, _⟩) (v := ?_) rfl (by kernel_rfl) (by kernel_rfl) (by kernel_rfl) (fun _ _ _ h => h) (Or.inl ⟨by rfl, ?_⟩) (by assumption) ?_
        rotate_left
        focus (intro wq hSq; (try dsimp only at hSq); go_simp; try (with_reducible rfl))
        try simp only [Act.put, List.setIfInBounds_toArray, List.set_cons_zero, List.set_cons_succ]
        refine wpAnyH_take (i := 21) (oi := ⟨some 62, _, _, _, _, _⟩) (v := ?_) rfl (by kernel_rfl) (by kernel_rfl) (by kernel_rfl) (fun _ _ _ h => h) (Or.inl ⟨by rfl, ?_⟩) (by assumption) ?_
        rotate_left
        focus (intro wq hSq; (try dsimp only at hSq); go_simp; try (with_reducible rfl))
        try simp only [Act.put, List.setIfInBounds_toArray, List.set_cons_zero, List.set_cons_succ]
        refine wpAnyH_take (i := 22) (oi := ⟨some 63, _, _, _, _, _⟩) (v := ?_) rfl (by kernel_rfl) (by kernel_rfl) (by kernel_rfl) (fun _ _ _ h => h) (Or.inl ⟨by rfl, ?_⟩) (by assumption) ?_
        rotate_left
        focus (intro wq hSq; (try dsimp only at hSq); go_simp; try (with_reducible rfl))
        try simp only [Act.put, List.setIfInBounds_toArray, List.set_cons_zero, List.set_cons_succ]
        refine wpAnyH_take (i := 23) (oi := ⟨some 64, _, _, _, _, _⟩) (v := ?_) rfl (by kernel_rfl) (by kernel_rfl) (by kernel_rfl) (fun _ _ _ h => h) (Or.inl ⟨by rfl, ?_⟩) (by assumption) ?_
        rotate_left
        focus (intro wq hSq; (try dsimp only at hSq); go_simp; try (with_reducible rfl))
        try simp only [Act.put, List.setIfInBounds_toArray, List.set_cons_zero, List.set_cons_succ]
        refine wpAnyH_take (i := 24) (oi := ⟨some 65, _, _, _, _, _⟩) (v := ?_) rfl (by kernel_rfl) (by kernel_rfl) (by kernel_rfl) (fun _ _ _ h => h) (Or.inl ⟨by rfl, ?_⟩) (by assumption) ?_
        rotate_left
        focus (intro wq hSq; (try dsimp only at hSq); go_simp; try (with_reducible rfl))
        try simp only [Act.put, List.setIfInBounds_toArray, List.set_cons_zero, List.set_cons_succ]
        refine wpAnyH_take (i := 25) (oi := ⟨some 66, _, _, _, _, _⟩) (v := ?_) rfl (by kernel_rfl) (by kernel_rfl) (by kernel_rfl) (fun _ _ _ h => h) (Or.inl ⟨by rfl, ?_⟩) (by assumption) ?_
        rotate_left
        focus (intro wq hSq; (try dsimp only at hSq); go_simp; try (with_reducible rfl))
        try simp only [Act.put, List.setIfInBounds_toArray, List.set_cons_zero, List.set_cons_succ]
        refine wpAnyH_take (i := 26) (oi := ⟨some 67, _, _, _, _, _⟩) (v := ?_) rfl (by kernel_rfl) (by kernel_rfl) (by kernel_rfl) (fun _ _ _ h => h) (Or.inl ⟨by rfl, ?_⟩) (by assumption) ?_
        rotate_left
        focus (intro wq hSq; (try dsimp only at hSq); go_simp; try (with_reducible rfl))
        try simp only [Act.put, List.setIfInBounds_toArray, List.set_cons_zero, List.set_cons_succ]
        refine wpAnyH_take (i := 27) (oi := ⟨some 68, _, _, _, _, _⟩) (v := ?_) rfl (by kernel_rfl) (by kernel_rfl) (by kernel_rfl) (fun _ _ _ h => h) (Or.inl ⟨by rfl, ?_⟩) (by assumption) ?_
        rotate_left
        focus (intro wq hSq; (try dsimp only at hSq); go_simp; try (with_reducible rfl))
        try simp only [Act.put, List.setIfInBounds_toArray, List.set_cons_zero, List.set_cons_succ]
        refine wpAnyH_take (i := 28) (oi := ⟨some 69, _, _, _, _, _⟩) (v := ?_) rfl (by kernel_rfl) (by kernel_rfl) (by kernel_rfl) (fun _ _ _ h => h) (Or.inl ⟨by rfl, ?_⟩) (by assumption) ?_
        rotate_left
        focus (intro wq hSq; (try dsimp only at hSq); go_simp; try (with_reducible rfl))
        try simp only [Act.put, List.setIfInBounds_toArray, List.set_cons_zero, List.set_cons_succ]
        refine wpAnyH_take (i := 29) (oi := ⟨some 70, _, _, _, _, _⟩) (v := ?_) rfl (by kernel_rfl) (by kernel_rfl) (by kernel_rfl) (fun _ _ _ h => h) (Or.inl ⟨by rfl, ?_⟩) (by assumption) ?_
        rotate_left
        focus (intro wq hSq; (try dsimp only at hSq); go_simp; try (with_reducible rfl))
        try simp only [Act.put, List.setIfInBounds_toArray, List.set_cons_zero, List.set_cons_succ]
        refine wpAnyH_take (i := 30) (oi := ⟨some 71, _, _, _, _, _⟩) (v := ?_) rfl (by kernel_rfl) (by kernel_rfl) (by kernel_rfl) (fun _ _ _ h => h) (Or.inl ⟨by rfl, ?_⟩) (by assumption) ?_
        rotate_left
        focus (intro wq hSq; (try dsimp only at hSq); go_simp; try (with_reducible rfl))
        try simp only [Act.put, List.setIfInBounds_toArray, List.set_cons_zero, List.set_cons_succ]
        refine wpAnyH_take (i := 31) (oi := ⟨some 72, _, _, _, _, _⟩) (v := ?_) rfl (by kernel_rfl) (by kernel_rfl) (by kernel_rfl) (fun _ _ _ h => h) (Or.inl ⟨by rfl, ?_⟩) (by assumption) ?_
        rotate_left
        focus (intro wq hSq; (try dsimp only at hSq); go_simp; try (with_reducible rfl))
        try simp only [Act.put, List.setIfInBounds_toArray, List.set_cons_zero, List.set_cons_succ]
        refine wpAnyH_ready (rs := [32]) (by kernel_rfl) (by simp) ?_
        refine AllReadyH.cons (o := _) rfl (fun K hK => ?_) AllReadyH.nil
        go_simp
        go_at_call 23
        refine (HBp.out _ ht4).mono ?_
        rintro e ht5w ⟨rfl, ht5b⟩
        have ht5 : Below wa.heap.size wa ht5w := below_call ht5b ht4
        go_wp2_with fail
        refine hK.out _ _ ?_ (fun hH4 => ?_)
        focus ((try dsimp only); exact HSa.out _ ht5)
        clear hK K hH3
        try simp only [Act.put, List.setIfInBounds_toArray, List.set_cons_zero, List.set_cons_succ]
        refine wpAnyH_take (i := 33) (oi := ⟨some 74, _, _, _, _, _⟩) (v := ?_) rfl (by kernel_rfl) (by kernel_rfl) (by kernel_rfl) (fun _ _ _ h => h) (Or.inl ⟨by rfl, ?_⟩) (by assumption) ?_
        rotate_left
        focus (intro wq hSq; (try dsimp only at hSq); go_simp; try (with_reducible rfl))
        try simp only [Act.put, List.setIfInBounds_toArray, List.set_cons_zero, List.set_cons_succ]
        refine wpAnyH_take (i := 34) (oi := ⟨some 75, _, _, _, _, _⟩) (v := ?_) rfl (by kernel_rfl) (by kernel_rfl) (by kernel_rfl) (fun _ _ _ h => h) (Or.inl ⟨by rfl, ?_⟩) (by assumption) ?_
        rotate_left
        focus (intro wq hSq; (try dsimp only at hSq); go_simp; try (with_reducible rfl))
        try simp only [Act.put, List.setIfInBounds_toArray, List.set_cons_zero, List.set_cons_succ]
        refine wpAnyH_take (i := 35) (oi := ⟨some 76, _, _, _, _, _⟩) (v := ?_) rfl (by kernel_rfl) (by kernel_rfl) (by kernel_rfl) (fun _ _ _ h => h) (Or.inl ⟨by rfl, ?_⟩) (by assumption) ?_
        rotate_left
        focus (intro wq hSq; (try dsimp only at hSq); go_simp; try (with_reducible rfl))
        try simp only [Act.put, List.setIfInBounds_toArray, List.set_cons_zero, List.set_cons_succ]
        refine wpAnyH_take (i := 36) (oi := ⟨some 77, _, _, _, _, _⟩) (v := ?_) rfl (by kernel_rfl) (by kernel_rfl) (by kernel_rfl) (fun _ _ _ h => h) (Or.inl ⟨by rfl, ?_⟩) (by assumption) ?_
        rotate_left
        focus (intro wq hSq; (try dsimp only at hSq); go_simp; try (with_reducible rfl))
        try simp only [Act.put, List.setIfInBounds_toArray, List.set_cons_zero, List.set_cons_succ]
        refine wpAnyH_take (i := 37) (oi := ⟨some 78, _, _, _, _, _⟩) (v := ?_) rfl (by kernel_rfl) (by kernel_rfl) (by kernel_rfl) (fun _ _ _ h => h) (Or.inl ⟨by rfl, ?_⟩) (by assumption) ?_
        rotate_left
        focus (intro wq hSq; (try dsimp only at hSq); go_simp; try (with_reducible rfl))
        try simp only [Act.put, List.setIfInBounds_toArray, List.set_cons_zero, List.set_cons_succ]
        refine wpAnyH_take (i := 38) (oi := ⟨some 79, _, _, _, _, _⟩) (v := ?_) rfl (by kernel_rfl) (by kernel_rfl) (by kernel_rfl) (fun _ _ _ h => h) (Or.inl ⟨by rfl, ?_⟩) (by assumption) ?_
        rotate_left
        focus (intro wq hSq; (try dsimp only at hSq); go_simp; try (with_reducible rfl))
        try simp only [Act.put, List.setIfInBounds_toArray, List.set_cons_zero, List.set_cons_succ]
        refine wpAnyH_take (i := 39) (oi := ⟨some 80, _, _, _, _, _⟩) (v := ?_) rfl (by kernel_rfl) (by kernel_rfl) (by kernel_rfl) (fun _ _ _ h => h) (Or.inl ⟨by rfl, ?_⟩) (by assumption) ?_
        rotate_left
        focus (intro wq hSq; (try dsimp only at hSq); go_simp; try (with_reducible rfl))
        try simp only [Act.put, List.setIfInBounds_toArray, List.set_cons_zero, List.set_cons_succ]
        refine wpAnyH_ready (rs := [40]) (by kernel_rfl) (by simp) ?_
        refine AllReadyH.cons (o := _) rfl (fun K hK => ?_) AllReadyH.nil
        go_simp
        go_at_call 23
        refine (HB0.out _ ht5).mono ?_
        rintro e ht6w ⟨rfl, ht6b⟩
        have ht6 : Below wa.heap.size wa ht6w := below_call ht6b ht5
        go_wp2_with fail
        refine hK.out _ _ ?_ (fun hH5 => ?_)
        focus ((try dsimp only); exact HSa.out _ ht6)
        clear hK K hH4
        try simp only [Act.put, List.setIfInBounds_toArray, List.set_cons_zero, List.set_cons_succ]
        refine wpAnyH_take (i := 41) (oi := ⟨some 82, _, _, _, _, _⟩) (v := ?_) rfl (by kernel_rfl) (by kernel_rfl) (by kernel_rfl) (fun _ _ _ h => h) (Or.inl ⟨by rfl, ?_⟩) (by assumption) ?_
        rotate_left
        focus (intro wq hSq; (try dsimp only at hSq); go_simp; try (with_reducible rfl))
        try simp only [Act.put, List.setIfInBounds_toArray, List.set_cons_zero, List.set_cons_succ]
        refine wpAnyH_take (i := 42) (oi := ⟨some 83, _, _, _, _, _⟩) (v := ?_) rfl (by kernel_rfl) (by kernel_rfl) (by kernel_rfl) (fun _ _ _ h => h) (Or.inl ⟨by rfl, ?_⟩) (by assumption) ?_
        rotate_left
        focus (intro wq hSq; (try dsimp only at hSq); go_simp; try (with_reducible rfl))
        try simp only [Act.put, List.setIfInBounds_toArray, List.set_cons_zero, List.set_cons_succ]
        refine wpAnyH_take (i := 43) (oi := ⟨some 84, _, _, _, _, _⟩) (v := ?_) rfl (by kernel_rfl) (by kernel_rfl) (by kernel_rfl) (fun _ _ _ h => h) (Or.inl ⟨by rfl, ?_⟩) (by assumption) ?_
        rotate_left
        focus (intro wq hSq; (try dsimp only at hSq); go_simp; try (with_reducible rfl))
        try simp only [Act.put, List.setIfInBounds_toArray, List.set_cons_zero, List.set_cons_succ]
        refine wpAnyH_take (i := 44) (oi := ⟨some 85, _, _, _, _, _⟩) (v := ?_) rfl (by kernel_rfl) (by kernel_rfl) (by kernel_rfl) (fun _ _ _ h => h) (Or.inl ⟨by rfl, ?_⟩) (by assumption) ?_
        rotate_left
        focus (intro wq hSq; (try dsimp only at hSq); go_simp; try (with_reducible rfl))
        try simp only [Act.put, List.setIfInBounds_toArray, List.set_cons_zero, List.set_cons_succ]
        refine wpAnyH_take (i := 45) (oi := ⟨some 86, _, _, _, _, _⟩) (v := ?_) rfl (by kernel_rfl) (by kernel_rfl) (by kernel_rfl) (fun _ _ _ h => h) (Or.inl ⟨by rfl, ?_⟩) (by assumption) ?_
        rotate_left
        focus (intro wq hSq; (try dsimp only at hSq); go_simp; try (with_reducible rfl))
        try simp only [Act.put, List.setIfInBounds_toArray, List.set_cons_zero, List.set_cons_succ]
        refine wpAnyH_ready (rs := [46]) (by kernel_rfl) (by simp) ?_
        refine AllReadyH.cons (o := _) rfl (fun K hK => ?_) AllReadyH.nil
        go_simp
        go_at_call 11
        refine (HSm.out _ ht6).mono ?_
        rintro e ht7w ⟨rfl, ht7b⟩
        have ht7 : Below wa.heap.size wa ht7w := below_call ht7b ht6
        go_wp2_with fail
        refine hK.out _ _ ?_ (fun hH6 => ?_)
        focus ((try dsimp only); exact HSa.out _ ht7)
        clear hK K hH5
        try simp only [Act.put, List.setIfInBounds_toArray, List.set_cons_zero, List.set_cons_succ]
        refine wpAnyH_take (i := 47) (oi := ⟨some 88, _, _, _, _, _⟩) (v := ?_) rfl (by kernel_rfl) (by kernel_rfl) (by kernel_rfl) (fun _ _ _ h => h) (Or.inl ⟨by rfl, ?_⟩) (by assumption) ?_
        rotate_left
        focus (intro wq hSq; (try dsimp only at hSq); go_simp; try (with_reducible rfl))
        try simp only [Act.put, List.setIfInBounds_toArray, List.set_cons_zero, List.set_cons_succ]
        refine wpAnyH_take (i := 48) (oi := ⟨some 89, _, _, _, _, _⟩) (v := ?_) rfl (by kernel_rfl) (by kernel_rfl) (by kernel_rfl) (fun _ _ _ h => h) (Or.inl ⟨by rfl, ?_⟩) (by assumption) ?_
        rotate_left
        focus (intro wq hSq; (try dsimp only at hSq); go_simp; try (with_reducible rfl))
        try simp only [Act.put, List.setIfInBounds_toArray, List.set_cons_zero, List.set_cons_succ]
        refine wpAnyH_done (by kernel_rfl) ?_ _
        refine NoPanic.normal ?_
        clear hH6
        have HFZ := Lib.hid (HF7.out _ ht7)
        clear hC15 ht1 ht2 ht3 ht4 ht6 ht7 ht2b ht3b ht4b ht6b ht7b HSa HOf HRi HB0 HSm HBp ht5 ht5b
        go_wp2_with fail
        go_roundw
        case rel => exact ⟨j + 1 + 1, h1, by go_num, HFZ.out⟩
        case measure => simp only [intOf]; omega
    · obtain rfl : m = xs.length := by omega
      have HFZ := Lib.hid (HF.out wr (HOS.out wr HI.out).2.2)
      clear HOS HI HLAW HPG
      go_wp2_with fail
      go_ret
      exact ⟨rfl, HFZ.out⟩
end Go.Proofs.YtcjflglpkpkflaaGreatDoor
