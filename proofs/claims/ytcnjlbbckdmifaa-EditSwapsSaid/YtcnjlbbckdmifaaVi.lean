/- The program's Size, Depth. -/
import Derived.Test.YtcnjlbbckdmifaaVh
import Derived.Deep.RegionHeld3
import Derived.Laws.Cover1
namespace Go.Proofs.Ytcnjlbbckdmifaa
open Go Go.RowKit
set_option linter.unusedVariables false
theorem sizeP_cons (a b : V) (r : List (V × V)) : sizeP ((a, b) :: r) = sizeV a + sizeV b + sizeP r := by rw [sizeP]
theorem sizeF_cons (n : Int) (v : V) (r : List (Int × V)) : sizeF ((n, v) :: r) = sizeV v + sizeF r := by rw [sizeF]
theorem sizeL_cons (v : V) (r : List V) : sizeL (v :: r) = sizeV v + sizeL r := by rw [sizeL]
theorem depthP_cons (a b : V) (r : List (V × V)) : depthP ((a, b) :: r) = max (max (depthV a) (depthV b)) (depthP r) := by rw [depthP]
theorem depthF_cons (n : Int) (v : V) (r : List (Int × V)) : depthF ((n, v) :: r) = max (depthV v) (depthF r) := by rw [depthF]
theorem depthL_cons (v : V) (r : List V) : depthL (v :: r) = max (depthV v) (depthL r) := by rw [depthL]
theorem maxv (N G : Nat) : (if N < G then (G : Int) else (N : Int)) = ((max N G : Nat) : Int) := by split <;> omega
theorem maxw (N G G2 : Nat) : (if (if N < G then (G : Int) else (N : Int)) < (G2 : Int) then (G2 : Int) else (if N < G then (G : Int) else (N : Int))) = ((max (max N G) G2 : Nat) : Int) := by split <;> split at * <;> omega
theorem wF_get {l : List (Int × V)} {i : Nat} {p : Int × V} (h : l[i]? = some p) : wV p.2 < wF l := wF_mem l p (List.mem_of_getElem? h)
theorem wL_get {l : List V} {i : Nat} {p : V} (h : l[i]? = some p) : wV p < wL l := wL_mem l p (List.mem_of_getElem? h)
theorem wP_get {l : List (V × V)} {i : Nat} {p : V × V} (h : l[i]? = some p) : wV p.1 + wV p.2 < wP l := wP_mem l p (List.mem_of_getElem? h)
def SizeC (v : V) : Prop := ∀ (a : A3) (S : Nat → Prop) (w : World), Rep S w v a → wV v ≤ 1000000 →
    Calls Try.prog 17 #[vG (v, a)] w fun e w' => e = .returned (.int .i64 (sizeV v : Nat)) ∧ Below w.heap.size w w'
theorem SizeC.lit {k : Int} {n : Nat} {t r : List UInt8} {fs : List (Int × V)} {ls : List V} {ps : List (V × V)} (h : SizeC (.mk k n t fs r ls ps)) {S : Nat → Prop} {w : World} {fa la pa : Option Addr} {fc lc pc : Nat} (hr : Rep S w (.mk k n t fs r ls ps) ⟨fa, fc, la, lc, pa, pc⟩) (hw : wV (.mk k n t fs r ls ps) ≤ 1000000) :
    Calls Try.prog 17 #[.agg #[.int .i64 k, .int .u64 (n : Int), .string (strB t), .slice fa fs.length fc, .string (strB r), .slice la ls.length lc, .slice pa ps.length pc]] w fun e w' => e = .returned (.int .i64 (sizeV (.mk k n t fs r ls ps) : Nat)) ∧ Below w.heap.size w w' := by
  have := h _ S w hr hw
  rw [vG_lit] at this
  exact this
set_option maxRecDepth 100000 in
set_option maxHeartbeats 8000000 in
theorem size_any : ∀ (v : V), SizeC v := by
  intro v
  induction v using V.ind with
  | h v ihf ihl ihp =>
    intro a S w hr hw
    obtain ⟨k, n, t, fs, r, ls, ps⟩ := v
    obtain ⟨fa, fc, la, lc, pa, pc⟩ := a
    rw [vG_lit]
    obtain ⟨hk, hn, hfl, hll, hpl⟩ := hr.bds
    unfold maxLen at hfl hll hpl
    have HR : Hid (∀ W, Below w.heap.size w W → Rep S W (.mk k n t fs r ls ps) ⟨fa, fc, la, lc, pa, pc⟩) := fun W hb => hr.stays hb
    have IHF : Hid (∀ p ∈ fs, SizeC p.2) := ihf
    have IHL : Hid (∀ x ∈ ls, SizeC x) := ihl
    have IHP : Hid (∀ p ∈ ps, SizeC p.1 ∧ SizeC p.2) := ihp
    have hww : wF fs + wL ls + wP ps ≤ 1000000 := by rw [wV_eq] at hw; simp only [V.fs, V.ls, V.ps] at hw; omega
    have hz1 := sizeF_le fs
    have hz2 := sizeL_le ls
    have hz3 := sizeP_le ps
    have HB0 : Hid (∀ W, Below (w.heap.size + 1) (w.alloc (.cells #[.int .i64 k, .int .u64 (n : Int), .string (strB t), .slice fa fs.length fc, .string (strB r), .slice la ls.length lc, .slice pa ps.length pc] 27)) W →
        W.cell? ⟨w.heap.size, 0, none⟩ = some (.int .i64 k) ∧ W.cell? ⟨w.heap.size, 5, none⟩ = some (.slice la ls.length lc) ∧ W.cell? ⟨w.heap.size, 6, none⟩ = some (.slice pa ps.length pc) ∧ w.heap.size < W.heap.size ∧ Below w.heap.size w W) := fun W hb => by
      refine ⟨(hb.cell (p := ⟨w.heap.size, 0, none⟩) (by simp)).trans (by go_simp), (hb.cell (p := ⟨w.heap.size, 5, none⟩) (by simp)).trans (by go_simp), (hb.cell (p := ⟨w.heap.size, 6, none⟩) (by simp)).trans (by go_simp), ?_, ?_⟩
      · have := hb.size; simp at this; omega
      · exact ((Below.refl _ _).alloc (Nat.le_refl _) _).trans (hb.mono (by omega))
    clear ihf ihl ihp hr hw
    by_cases hk0 : k = 0
    · subst hk0
      have HZ : Hid (sizeV (.mk 0 n t fs r ls ps) = 0) := by show _ = _; rw [sizeV, if_pos rfl]
      go_enter Try.func17, Try.ntmps17
      go_wp2_with fail
      go_ret
      exact ⟨congrArg (fun z : Nat => Ending.returned (Value.int .i64 z)) HZ.out.symm, (Below.refl _ _).alloc (Nat.le_refl _) _⟩
    have f0 : (k == 0) = false := by simpa using hk0
    have HZ : Hid (sizeV (.mk k n t fs r ls ps) = 1 + sizeF fs + sizeL ls + sizeP ps) := by show _ = _; rw [sizeV, if_neg hk0]
    clear hk0
    go_enter Try.func17, Try.ntmps17
    go_wp2_with fail
    generalize w.alloc (.cells #[.int .i64 k, .int .u64 (n : Int), .string (strB t), .slice fa fs.length fc, .string (strB r), .slice la ls.length lc, .slice pa ps.length pc] 27) = w1 at HB0 ⊢
    obtain ⟨A0, hA0⟩ : ∃ A : Nat, A = 1 := ⟨_, rfl⟩
    have hbe : Below (w.heap.size + 1) w1 w1 := Below.refl _ _
    go_loopw [3, 16] (fun x i wr => ∃ (m N : Nat), m ≤ fs.length ∧ i = .int .i64 m ∧ x = .int .i64 (N : Nat) ∧ N ≤ 3000000 ∧ Hid (N + sizeF (fs.drop m) = A0 + sizeF (fs)) ∧ Below (w.heap.size + 1) w1 wr) (fun _ i _ => fs.length - (intOf i).toNat)
    case atStart => exact ⟨0, A0, Nat.zero_le _, rfl, by rw [hA0]; rfl, by omega, rfl, hbe⟩
    case round =>
      obtain ⟨m, N, hm, rfl, rfl, hN, HI, hbe⟩ := hrel
      have hsz := (HB0.out wr hbe).2.2.2.1
      by_cases h1 : m < fs.length
      · obtain ⟨⟨num, ⟨k', n', t', fs', r', ls', ps'⟩⟩, hq⟩ : ∃ p, fs[m]? = some p := ⟨_, List.getElem?_eq_getElem h1⟩
        obtain ⟨b, o, fa', la', pa', fc', lc', pc', rfl, hnum, hrx, c0, c1, c2, c3, c4, c5, c6, c7⟩ := (HR.out wr (HB0.out wr hbe).2.2.2.2).fieldAt hq
        have hwv := wF_get hq
        replace hwv : wV (.mk k' n' t' fs' r' ls' ps') < wF fs := hwv
        have HC : Hid (∀ W, Below wr.heap.size wr W → Calls _ _ _ W _) := fun W hb => SizeC.lit (IHF.out _ (List.mem_of_getElem? hq)) (hrx.stays hb) (by omega)
        have hsv := sizeV_le (.mk k' n' t' fs' r' ls' ps')
        have hI := HI.out
        rw [drop_fields hq, sizeF_cons] at hI
        generalize sizeV (.mk k' n' t' fs' r' ls' ps') = G at HC hsv hI
        have HI2 : Hid ((N + G) + sizeF (fs.drop (m + 1)) = A0 + sizeF (fs)) := by show _ = _; rw [← hI]; omega
        have hN2 : (N + G) ≤ 3000000 := by omega
        clear HI hrx hq hI hwv
        go_wp2_with fail
        refine (HC.out _ ((Below.refl _ _).alloc (Nat.le_refl _) _)).mono ?_
        rintro e w2 ⟨rfl, hb2⟩
        have hbe2 : Below (w.heap.size + 1) w1 w2 := (hbe.alloc (by omega) _).trans (hb2.mono (by simp; omega))
        clear HC hb2 c0 c1 c2 c3 c4 c5 c6 c7
        go_wp2_with fail
        go_roundw
        case rel => exact ⟨m + 1, _, h1, by go_num, by go_num, hN2, HI2, hbe2⟩
        case measure => simp only [intOf]; omega
      · have hI := HI.out
        rw [List.drop_of_length_le (by omega), sizeF] at hI
        obtain ⟨d0, d5, d6, -, -⟩ := HB0.out wr hbe
        obtain ⟨A1, hA1⟩ : ∃ A : Nat, A = N := ⟨_, rfl⟩
        have HA0 : Hid (A1 = A0 + sizeF (fs)) := by show _ = _; rw [hA1]; omega
        have hbA1 : A1 ≤ 1 + sizeF fs + sizeL ls + sizeP ps := by have := HA0.out; skip; omega
        rw [← hA1]
        clear hA1 HI hI
        go_wp2_with fail
        obtain ⟨wa, rfl⟩ : ∃ wx : World, wx = wr := ⟨_, rfl⟩
        go_loopw [3, 29] (fun x i wr => ∃ (m N : Nat), m ≤ ls.length ∧ i = .int .i64 m ∧ x = .int .i64 (N : Nat) ∧ N ≤ 3000000 ∧ Hid (N + sizeL (ls.drop m) = A1 + sizeL (ls)) ∧ Below (w.heap.size + 1) w1 wr) (fun _ i _ => ls.length - (intOf i).toNat)
        case atStart => exact ⟨0, A1, Nat.zero_le _, rfl, rfl, by omega, rfl, hbe⟩
        case round =>
          clear hbe hsz h1 d0 d5 d6
          obtain ⟨m, N, hm, rfl, rfl, hN, HI, hbe⟩ := hrel
          have hsz := (HB0.out wr hbe).2.2.2.1
          by_cases h1 : m < ls.length
          · obtain ⟨⟨k', n', t', fs', r', ls', ps'⟩, hq⟩ : ∃ p, ls[m]? = some p := ⟨_, List.getElem?_eq_getElem h1⟩
            obtain ⟨b, o, fa', la', pa', fc', lc', pc', rfl, hrx, c0, c1, c2, c3, c4, c5, c6⟩ := (HR.out wr (HB0.out wr hbe).2.2.2.2).partAt hq
            have hwv := wL_get hq
            replace hwv : wV (.mk k' n' t' fs' r' ls' ps') < wL ls := hwv
            have HC : Hid (∀ W, Below wr.heap.size wr W → Calls _ _ _ W _) := fun W hb => SizeC.lit (IHL.out _ (List.mem_of_getElem? hq)) (hrx.stays hb) (by omega)
            have hsv := sizeV_le (.mk k' n' t' fs' r' ls' ps')
            have hI := HI.out
            rw [drop_fields hq, sizeL_cons] at hI
            generalize sizeV (.mk k' n' t' fs' r' ls' ps') = G at HC hsv hI
            have HI2 : Hid ((N + G) + sizeL (ls.drop (m + 1)) = A1 + sizeL (ls)) := by show _ = _; rw [← hI]; omega
            have hN2 : (N + G) ≤ 3000000 := by omega
            clear HI hrx hq hI hwv
            go_wp2_with fail
            refine (HC.out _ ((Below.refl _ _).alloc (Nat.le_refl _) _)).mono ?_
            rintro e w2 ⟨rfl, hb2⟩
            have hbe2 : Below (w.heap.size + 1) w1 w2 := (hbe.alloc (by omega) _).trans (hb2.mono (by simp; omega))
            clear HC hb2 c0 c1 c2 c3 c4 c5 c6
            go_wp2_with fail
            go_roundw
            case rel => exact ⟨m + 1, _, h1, by go_num, by go_num, hN2, HI2, hbe2⟩
            case measure => simp only [intOf]; omega
          · have hI := HI.out
            rw [List.drop_of_length_le (by omega), sizeL] at hI
            obtain ⟨d0, d5, d6, -, -⟩ := HB0.out wr hbe
            obtain ⟨A2, hA2⟩ : ∃ A : Nat, A = N := ⟨_, rfl⟩
            have HA1 : Hid (A2 = A1 + sizeL (ls)) := by show _ = _; rw [hA2]; omega
            have hbA2 : A2 ≤ 1 + sizeF fs + sizeL ls + sizeP ps := by have := HA1.out; have := HA0.out; omega
            rw [← hA2]
            clear hA2 HI hI
            go_wp2_with fail
            obtain ⟨wb, rfl⟩ : ∃ wx : World, wx = wr := ⟨_, rfl⟩
            go_loopw [3, 41] (fun x i wr => ∃ (m N : Nat), m ≤ ps.length ∧ i = .int .i64 m ∧ x = .int .i64 (N : Nat) ∧ N ≤ 3000000 ∧ Hid (N + sizeP (ps.drop m) = A2 + sizeP (ps)) ∧ Below (w.heap.size + 1) w1 wr) (fun _ i _ => ps.length - (intOf i).toNat)
            case atStart => exact ⟨0, A2, Nat.zero_le _, rfl, rfl, by omega, rfl, hbe⟩
            case round =>
              clear hbe hsz h1 d0 d5 d6
              obtain ⟨m, N, hm, rfl, rfl, hN, HI, hbe⟩ := hrel
              have hsz := (HB0.out wr hbe).2.2.2.1
              by_cases h1 : m < ps.length
              · obtain ⟨⟨⟨k', n', t', fs', r', ls', ps'⟩, ⟨k2, n2, t2, fs2, r2, ls2, ps2⟩⟩, hq⟩ : ∃ p, ps[m]? = some p := ⟨_, List.getElem?_eq_getElem h1⟩
                obtain ⟨b, o, fa', la', pa', fc', lc', pc', fa2, la2, pa2, fc2, lc2, pc2, rfl, hrx, hry, c0, c1, c2, c3, c4, c5, c6, c7, c8, c9, c10, c11, c12, c13⟩ := (HR.out wr (HB0.out wr hbe).2.2.2.2).pairAt hq
                have hwv := wP_get hq
                replace hwv : wV (.mk k' n' t' fs' r' ls' ps') + wV (.mk k2 n2 t2 fs2 r2 ls2 ps2) < wP ps := hwv
                obtain ⟨W1, hW1⟩ : ∃ W1, W1 = wr.alloc (.cells #[.int .i64 k', .int .u64 (n' : Int), .string (strB t'), .slice fa' fs'.length fc', .string (strB r'), .slice la' ls'.length lc', .slice pa' ps'.length pc', .int .i64 k2, .int .u64 (n2 : Int), .string (strB t2), .slice fa2 fs2.length fc2, .string (strB r2), .slice la2 ls2.length lc2, .slice pa2 ps2.length pc2] 87) := ⟨_, rfl⟩
                have hbA : Below wr.heap.size wr W1 := by rw [hW1]; exact (Below.refl _ _).alloc (Nat.le_refl _) _
                have hcx : CellsAt W1 wr.heap.size 87 #[.int .i64 k', .int .u64 (n' : Int), .string (strB t'), .slice fa' fs'.length fc', .string (strB r'), .slice la' ls'.length lc', .slice pa' ps'.length pc', .int .i64 k2, .int .u64 (n2 : Int), .string (strB t2), .slice fa2 fs2.length fc2, .string (strB r2), .slice la2 ls2.length lc2, .slice pa2 ps2.length pc2] := by rw [hW1]; exact CellsAt.new wr _ _
                have HC : Hid (∀ W, Below W1.heap.size W1 W → Calls _ _ _ W _) := fun W hb => SizeC.lit (IHP.out _ (List.mem_of_getElem? hq)).1 (hrx.stays (hbA.trans (hb.mono hbA.size))) (by omega)
                have HD : Hid (∀ W, Below W1.heap.size W1 W → Calls _ _ _ W _) := fun W hb => SizeC.lit (IHP.out _ (List.mem_of_getElem? hq)).2 (hry.stays (hbA.trans (hb.mono hbA.size))) (by omega)
                have hsv := sizeV_le (.mk k' n' t' fs' r' ls' ps')
                have hsv2 := sizeV_le (.mk k2 n2 t2 fs2 r2 ls2 ps2)
                have hI := HI.out
                rw [drop_fields hq, sizeP_cons] at hI
                generalize sizeV (.mk k' n' t' fs' r' ls' ps') = G at HC hsv hI
                generalize sizeV (.mk k2 n2 t2 fs2 r2 ls2 ps2) = G2 at HD hsv2 hI
                have HI2 : Hid ((N + (G + G2)) + sizeP (ps.drop (m + 1)) = A2 + sizeP (ps)) := by show _ = _; rw [← hI]; omega
                have hN2 : (N + (G + G2)) ≤ 3000000 := by omega
                obtain ⟨g, hg⟩ : ∃ g, g = wr.heap.size := ⟨_, rfl⟩
                have HS : Hid (∀ W, Below W1.heap.size W1 W → Below W1.heap.size W1 W ∧ W.cell? ⟨g, 0, none⟩ = some (.int .i64 k') ∧ W.cell? ⟨g, 1, none⟩ = some (.int .u64 (n' : Int)) ∧ W.cell? ⟨g, 2, none⟩ = some (.string (strB t')) ∧ W.cell? ⟨g, 3, none⟩ = some (.slice fa' fs'.length fc') ∧ W.cell? ⟨g, 4, none⟩ = some (.string (strB r')) ∧ W.cell? ⟨g, 5, none⟩ = some (.slice la' ls'.length lc') ∧ W.cell? ⟨g, 6, none⟩ = some (.slice pa' ps'.length pc') ∧ W.cell? ⟨g, 7, none⟩ = some (.int .i64 k2) ∧ W.cell? ⟨g, 8, none⟩ = some (.int .u64 (n2 : Int)) ∧ W.cell? ⟨g, 9, none⟩ = some (.string (strB t2)) ∧ W.cell? ⟨g, 10, none⟩ = some (.slice fa2 fs2.length fc2) ∧ W.cell? ⟨g, 11, none⟩ = some (.string (strB r2)) ∧ W.cell? ⟨g, 12, none⟩ = some (.slice la2 ls2.length lc2) ∧ W.cell? ⟨g, 13, none⟩ = some (.slice pa2 ps2.length pc2)) := fun W hb => by
                  have h1 := hcx.stays hb
                  rw [← hg] at h1
                  exact ⟨hb, h1.cell 0 rfl, h1.cell 1 rfl, h1.cell 2 rfl, h1.cell 3 rfl, h1.cell 4 rfl, h1.cell 5 rfl, h1.cell 6 rfl, h1.cell 7 rfl, h1.cell 8 rfl, h1.cell 9 rfl, h1.cell 10 rfl, h1.cell 11 rfl, h1.cell 12 rfl, h1.cell 13 rfl⟩
                have hszW : w.heap.size + 1 ≤ W1.heap.size := by have := hbA.size; omega
                have HBA : Hid (Below (w.heap.size + 1) w1 W1) := hbe.trans (hbA.mono (by omega))
                have HGG : Hid (g = wr.heap.size) := hg
                have HWW : Hid (W1 = wr.alloc (.cells #[.int .i64 k', .int .u64 (n' : Int), .string (strB t'), .slice fa' fs'.length fc', .string (strB r'), .slice la' ls'.length lc', .slice pa' ps'.length pc', .int .i64 k2, .int .u64 (n2 : Int), .string (strB t2), .slice fa2 fs2.length fc2, .string (strB r2), .slice la2 ls2.length lc2, .slice pa2 ps2.length pc2] 87)) := hW1
                clear HI hrx hry hq hI hwv hW1 hbA hcx hg
                go_wp2_with fail
                have hW1 := HWW.out
                have hg := HGG.out
                rw [← hW1, ← hg]
                clear hW1 hg HWW HGG c0 c1 c2 c3 c4 c5 c6 c7 c8 c9 c10 c11 c12 c13
                have hd0 : Below W1.heap.size W1 W1 := Below.refl _ _
                have hd1 : Below W1.heap.size W1 W1.drew := hd0.drew
                have wz1 : IntKind.i64.wrap ((G : Int) + G2) = (G : Int) + G2 := IntWalk.i64_in _ (by omega)
                have wz2 : IntKind.i64.wrap ((N : Int) + ((G : Int) + G2)) = (N : Int) + ((G : Int) + G2) := IntWalk.i64_in _ (by omega)
                go_region_held3 (fun W => Below W1.heap.size W1 W ∧ W.cell? ⟨g, 0, none⟩ = some (.int .i64 k') ∧ W.cell? ⟨g, 1, none⟩ = some (.int .u64 (n' : Int)) ∧ W.cell? ⟨g, 2, none⟩ = some (.string (strB t')) ∧ W.cell? ⟨g, 3, none⟩ = some (.slice fa' fs'.length fc') ∧ W.cell? ⟨g, 4, none⟩ = some (.string (strB r')) ∧ W.cell? ⟨g, 5, none⟩ = some (.slice la' ls'.length lc') ∧ W.cell? ⟨g, 6, none⟩ = some (.slice pa' ps'.length pc') ∧ W.cell? ⟨g, 7, none⟩ = some (.int .i64 k2) ∧ W.cell? ⟨g, 8, none⟩ = some (.int .u64 (n2 : Int)) ∧ W.cell? ⟨g, 9, none⟩ = some (.string (strB t2)) ∧ W.cell? ⟨g, 10, none⟩ = some (.slice fa2 fs2.length fc2) ∧ W.cell? ⟨g, 11, none⟩ = some (.string (strB r2)) ∧ W.cell? ⟨g, 12, none⟩ = some (.slice la2 ls2.length lc2) ∧ W.cell? ⟨g, 13, none⟩ = some (.slice pa2 ps2.length pc2))
                  (exact HS.out _ (by assumption))
                  ((first
                    | (go_at_call 17; (with_reducible refine (HC.out _ (by assumption)).mono ?_); rintro e w6 ⟨rfl, hb6⟩; have hb7 := hd1.trans (hb6.mono hd1.size))
                    | (go_at_call 17; (with_reducible refine (HD.out _ (by assumption)).mono ?_); rintro e w7 ⟨rfl, hb8⟩; have hb9 := hb7.trans (hb8.mono hb7.size))))
                have hbe2 : Below (w.heap.size + 1) w1 w7 := HBA.out.trans (hb9.mono hszW)
                clear HC HD HS hb6 hb7 hb8 hb9 hd0 hd1
                go_wp2_with fail
                go_roundw
                case rel => exact ⟨m + 1, _, h1, by go_num, by simp only [Int.natCast_add], hN2, HI2, hbe2⟩
                case measure => simp only [intOf]; omega
              · have hI := HI.out
                rw [List.drop_of_length_le (by omega), sizeP] at hI
                obtain ⟨d0, d5, d6, -, -⟩ := HB0.out wr hbe
                obtain ⟨A3, hA3⟩ : ∃ A : Nat, A = N := ⟨_, rfl⟩
                have HA2 : Hid (A3 = A2 + sizeP (ps)) := by show _ = _; rw [hA3]; omega
                have hbA3 : A3 ≤ 1 + sizeF fs + sizeL ls + sizeP ps := by have := HA2.out; have := HA0.out; have := HA1.out; omega
                rw [← hA3]
                clear hA3 HI hI
                have HZZ : Hid (A3 = sizeV (.mk k n t fs r ls ps)) := by have h0 := HA0.out; have h1 := HA1.out; have h2 := HA2.out; have h3 := HZ.out; show _ = _; omega
                have HBE : Hid (Below w.heap.size w wr) := (HB0.out wr hbe).2.2.2.2
                go_wp2_with fail
                go_ret
                exact ⟨congrArg (fun z : Nat => Ending.returned (Value.int .i64 z)) HZZ.out, HBE.out⟩
def DepthC (v : V) : Prop := ∀ (a : A3) (S : Nat → Prop) (w : World), Rep S w v a → wV v ≤ 1000000 →
    Calls Try.prog 19 #[vG (v, a)] w fun e w' => e = .returned (.int .i64 (depthV v : Nat)) ∧ Below w.heap.size w w'
theorem DepthC.lit {k : Int} {n : Nat} {t r : List UInt8} {fs : List (Int × V)} {ls : List V} {ps : List (V × V)} (h : DepthC (.mk k n t fs r ls ps)) {S : Nat → Prop} {w : World} {fa la pa : Option Addr} {fc lc pc : Nat} (hr : Rep S w (.mk k n t fs r ls ps) ⟨fa, fc, la, lc, pa, pc⟩) (hw : wV (.mk k n t fs r ls ps) ≤ 1000000) :
    Calls Try.prog 19 #[.agg #[.int .i64 k, .int .u64 (n : Int), .string (strB t), .slice fa fs.length fc, .string (strB r), .slice la ls.length lc, .slice pa ps.length pc]] w fun e w' => e = .returned (.int .i64 (depthV (.mk k n t fs r ls ps) : Nat)) ∧ Below w.heap.size w w' := by
  have := h _ S w hr hw
  rw [vG_lit] at this
  exact this
set_option maxRecDepth 100000 in
set_option maxHeartbeats 8000000 in
theorem depth_any : ∀ (v : V), DepthC v := by
  intro v
  induction v using V.ind with
  | h v ihf ihl ihp =>
    intro a S w hr hw
    obtain ⟨k, n, t, fs, r, ls, ps⟩ := v
    obtain ⟨fa, fc, la, lc, pa, pc⟩ := a
    rw [vG_lit]
    obtain ⟨hk, hn, hfl, hll, hpl⟩ := hr.bds
    unfold maxLen at hfl hll hpl
    have HR : Hid (∀ W, Below w.heap.size w W → Rep S W (.mk k n t fs r ls ps) ⟨fa, fc, la, lc, pa, pc⟩) := fun W hb => hr.stays hb
    have IHF : Hid (∀ p ∈ fs, DepthC p.2) := ihf
    have IHL : Hid (∀ x ∈ ls, DepthC x) := ihl
    have IHP : Hid (∀ p ∈ ps, DepthC p.1 ∧ DepthC p.2) := ihp
    have hww : wF fs + wL ls + wP ps ≤ 1000000 := by rw [wV_eq] at hw; simp only [V.fs, V.ls, V.ps] at hw; omega
    have hz1 := depthF_le fs
    have hz2 := depthL_le ls
    have hz3 := depthP_le ps
    have HB0 : Hid (∀ W, Below (w.heap.size + 1) (w.alloc (.cells #[.int .i64 k, .int .u64 (n : Int), .string (strB t), .slice fa fs.length fc, .string (strB r), .slice la ls.length lc, .slice pa ps.length pc] 27)) W →
        W.cell? ⟨w.heap.size, 0, none⟩ = some (.int .i64 k) ∧ W.cell? ⟨w.heap.size, 5, none⟩ = some (.slice la ls.length lc) ∧ W.cell? ⟨w.heap.size, 6, none⟩ = some (.slice pa ps.length pc) ∧ w.heap.size < W.heap.size ∧ Below w.heap.size w W) := fun W hb => by
      refine ⟨(hb.cell (p := ⟨w.heap.size, 0, none⟩) (by simp)).trans (by go_simp), (hb.cell (p := ⟨w.heap.size, 5, none⟩) (by simp)).trans (by go_simp), (hb.cell (p := ⟨w.heap.size, 6, none⟩) (by simp)).trans (by go_simp), ?_, ?_⟩
      · have := hb.size; simp at this; omega
      · exact ((Below.refl _ _).alloc (Nat.le_refl _) _).trans (hb.mono (by omega))
    clear ihf ihl ihp hr hw
    have HZ : Hid (depthV (.mk k n t fs r ls ps) = max (max (depthF fs) (depthL ls)) (depthP ps) + if k = 3 then 1 else 0) := by show _ = _; rw [depthV]
    go_enter Try.func19, Try.ntmps19
    go_wp2_with fail
    generalize w.alloc (.cells #[.int .i64 k, .int .u64 (n : Int), .string (strB t), .slice fa fs.length fc, .string (strB r), .slice la ls.length lc, .slice pa ps.length pc] 27) = w1 at HB0 ⊢
    obtain ⟨A0, hA0⟩ : ∃ A : Nat, A = 0 := ⟨_, rfl⟩
    have hbe : Below (w.heap.size + 1) w1 w1 := Below.refl _ _
    go_loopw [3, 13] (fun x i wr => ∃ (m N : Nat), m ≤ fs.length ∧ i = .int .i64 m ∧ x = .int .i64 (N : Nat) ∧ N ≤ 3000000 ∧ Hid (max N (depthF (fs.drop m)) = max A0 (depthF (fs))) ∧ Below (w.heap.size + 1) w1 wr) (fun _ i _ => fs.length - (intOf i).toNat)
    case atStart => exact ⟨0, A0, Nat.zero_le _, rfl, by rw [hA0]; rfl, by omega, rfl, hbe⟩
    case round =>
      obtain ⟨m, N, hm, rfl, rfl, hN, HI, hbe⟩ := hrel
      have hsz := (HB0.out wr hbe).2.2.2.1
      by_cases h1 : m < fs.length
      · obtain ⟨⟨num, ⟨k', n', t', fs', r', ls', ps'⟩⟩, hq⟩ : ∃ p, fs[m]? = some p := ⟨_, List.getElem?_eq_getElem h1⟩
        obtain ⟨b, o, fa', la', pa', fc', lc', pc', rfl, hnum, hrx, c0, c1, c2, c3, c4, c5, c6, c7⟩ := (HR.out wr (HB0.out wr hbe).2.2.2.2).fieldAt hq
        have hwv := wF_get hq
        replace hwv : wV (.mk k' n' t' fs' r' ls' ps') < wF fs := hwv
        have HC : Hid (∀ W, Below wr.heap.size wr W → Calls _ _ _ W _) := fun W hb => DepthC.lit (IHF.out _ (List.mem_of_getElem? hq)) (hrx.stays hb) (by omega)
        have hsv := depthV_le (.mk k' n' t' fs' r' ls' ps')
        have hI := HI.out
        rw [drop_fields hq, depthF_cons] at hI
        generalize depthV (.mk k' n' t' fs' r' ls' ps') = G at HC hsv hI
        have HI2 : Hid (max (max N G) (depthF (fs.drop (m + 1))) = max A0 (depthF (fs))) := by show _ = _; rw [← hI]; omega
        have hN2 : (max N G) ≤ 3000000 := by omega
        clear HI hrx hq hI hwv
        go_wp2_with fail
        refine (HC.out _ ((Below.refl _ _).alloc (Nat.le_refl _) _)).mono ?_
        rintro e w2 ⟨rfl, hb2⟩
        have hbe2 : Below (w.heap.size + 1) w1 w2 := (hbe.alloc (by omega) _).trans (hb2.mono (by simp; omega))
        clear HC hb2 c0 c1 c2 c3 c4 c5 c6 c7
        go_wp2_with fail
        go_roundw
        case rel => exact ⟨m + 1, _, h1, by go_num, congrArg (Value.int .i64) (maxv N G), hN2, HI2, hbe2⟩
        case measure => simp only [intOf]; omega
      · have hI := HI.out
        rw [List.drop_of_length_le (by omega), depthF] at hI
        obtain ⟨d0, d5, d6, -, -⟩ := HB0.out wr hbe
        obtain ⟨A1, hA1⟩ : ∃ A : Nat, A = N := ⟨_, rfl⟩
        have HA0 : Hid (A1 = max A0 (depthF (fs))) := by show _ = _; rw [hA1]; omega
        have hbA1 : A1 ≤ depthF fs + depthL ls + depthP ps := by have := HA0.out; skip; omega
        rw [← hA1]
        clear hA1 HI hI
        go_wp2_with fail
        obtain ⟨wa, rfl⟩ : ∃ wx : World, wx = wr := ⟨_, rfl⟩
        go_loopw [3, 26] (fun x i wr => ∃ (m N : Nat), m ≤ ls.length ∧ i = .int .i64 m ∧ x = .int .i64 (N : Nat) ∧ N ≤ 3000000 ∧ Hid (max N (depthL (ls.drop m)) = max A1 (depthL (ls))) ∧ Below (w.heap.size + 1) w1 wr) (fun _ i _ => ls.length - (intOf i).toNat)
        case atStart => exact ⟨0, A1, Nat.zero_le _, rfl, rfl, by omega, rfl, hbe⟩
        case round =>
          clear hbe hsz h1 d0 d5 d6
          obtain ⟨m, N, hm, rfl, rfl, hN, HI, hbe⟩ := hrel
          have hsz := (HB0.out wr hbe).2.2.2.1
          by_cases h1 : m < ls.length
          · obtain ⟨⟨k', n', t', fs', r', ls', ps'⟩, hq⟩ : ∃ p, ls[m]? = some p := ⟨_, List.getElem?_eq_getElem h1⟩
            obtain ⟨b, o, fa', la', pa', fc', lc', pc', rfl, hrx, c0, c1, c2, c3, c4, c5, c6⟩ := (HR.out wr (HB0.out wr hbe).2.2.2.2).partAt hq
            have hwv := wL_get hq
            replace hwv : wV (.mk k' n' t' fs' r' ls' ps') < wL ls := hwv
            have HC : Hid (∀ W, Below wr.heap.size wr W → Calls _ _ _ W _) := fun W hb => DepthC.lit (IHL.out _ (List.mem_of_getElem? hq)) (hrx.stays hb) (by omega)
            have hsv := depthV_le (.mk k' n' t' fs' r' ls' ps')
            have hI := HI.out
            rw [drop_fields hq, depthL_cons] at hI
            generalize depthV (.mk k' n' t' fs' r' ls' ps') = G at HC hsv hI
            have HI2 : Hid (max (max N G) (depthL (ls.drop (m + 1))) = max A1 (depthL (ls))) := by show _ = _; rw [← hI]; omega
            have hN2 : (max N G) ≤ 3000000 := by omega
            clear HI hrx hq hI hwv
            go_wp2_with fail
            refine (HC.out _ ((Below.refl _ _).alloc (Nat.le_refl _) _)).mono ?_
            rintro e w2 ⟨rfl, hb2⟩
            have hbe2 : Below (w.heap.size + 1) w1 w2 := (hbe.alloc (by omega) _).trans (hb2.mono (by simp; omega))
            clear HC hb2 c0 c1 c2 c3 c4 c5 c6
            go_wp2_with fail
            go_roundw
            case rel => exact ⟨m + 1, _, h1, by go_num, congrArg (Value.int .i64) (maxv N G), hN2, HI2, hbe2⟩
            case measure => simp only [intOf]; omega
          · have hI := HI.out
            rw [List.drop_of_length_le (by omega), depthL] at hI
            obtain ⟨d0, d5, d6, -, -⟩ := HB0.out wr hbe
            obtain ⟨A2, hA2⟩ : ∃ A : Nat, A = N := ⟨_, rfl⟩
            have HA1 : Hid (A2 = max A1 (depthL (ls))) := by show _ = _; rw [hA2]; omega
            have hbA2 : A2 ≤ depthF fs + depthL ls + depthP ps := by have := HA1.out; have := HA0.out; omega
            rw [← hA2]
            clear hA2 HI hI
            go_wp2_with fail
            obtain ⟨wb, rfl⟩ : ∃ wx : World, wx = wr := ⟨_, rfl⟩
            go_loopw [3, 38] (fun x i wr => ∃ (m N : Nat), m ≤ ps.length ∧ i = .int .i64 m ∧ x = .int .i64 (N : Nat) ∧ N ≤ 3000000 ∧ Hid (max N (depthP (ps.drop m)) = max A2 (depthP (ps))) ∧ Below (w.heap.size + 1) w1 wr) (fun _ i _ => ps.length - (intOf i).toNat)
            case atStart => exact ⟨0, A2, Nat.zero_le _, rfl, rfl, by omega, rfl, hbe⟩
            case round =>
              clear hbe hsz h1 d0 d5 d6
              obtain ⟨m, N, hm, rfl, rfl, hN, HI, hbe⟩ := hrel
              have hsz := (HB0.out wr hbe).2.2.2.1
              by_cases h1 : m < ps.length
              · obtain ⟨⟨⟨k', n', t', fs', r', ls', ps'⟩, ⟨k2, n2, t2, fs2, r2, ls2, ps2⟩⟩, hq⟩ : ∃ p, ps[m]? = some p := ⟨_, List.getElem?_eq_getElem h1⟩
                obtain ⟨b, o, fa', la', pa', fc', lc', pc', fa2, la2, pa2, fc2, lc2, pc2, rfl, hrx, hry, c0, c1, c2, c3, c4, c5, c6, c7, c8, c9, c10, c11, c12, c13⟩ := (HR.out wr (HB0.out wr hbe).2.2.2.2).pairAt hq
                have hwv := wP_get hq
                replace hwv : wV (.mk k' n' t' fs' r' ls' ps') + wV (.mk k2 n2 t2 fs2 r2 ls2 ps2) < wP ps := hwv
                obtain ⟨W1, hW1⟩ : ∃ W1, W1 = wr.alloc (.cells #[.int .i64 k', .int .u64 (n' : Int), .string (strB t'), .slice fa' fs'.length fc', .string (strB r'), .slice la' ls'.length lc', .slice pa' ps'.length pc', .int .i64 k2, .int .u64 (n2 : Int), .string (strB t2), .slice fa2 fs2.length fc2, .string (strB r2), .slice la2 ls2.length lc2, .slice pa2 ps2.length pc2] 87) := ⟨_, rfl⟩
                have hbA : Below wr.heap.size wr W1 := by rw [hW1]; exact (Below.refl _ _).alloc (Nat.le_refl _) _
                have hcx : CellsAt W1 wr.heap.size 87 #[.int .i64 k', .int .u64 (n' : Int), .string (strB t'), .slice fa' fs'.length fc', .string (strB r'), .slice la' ls'.length lc', .slice pa' ps'.length pc', .int .i64 k2, .int .u64 (n2 : Int), .string (strB t2), .slice fa2 fs2.length fc2, .string (strB r2), .slice la2 ls2.length lc2, .slice pa2 ps2.length pc2] := by rw [hW1]; exact CellsAt.new wr _ _
                have HC : Hid (∀ W, Below W1.heap.size W1 W → Calls _ _ _ W _) := fun W hb => DepthC.lit (IHP.out _ (List.mem_of_getElem? hq)).1 (hrx.stays (hbA.trans (hb.mono hbA.size))) (by omega)
                have HD : Hid (∀ W, Below W1.heap.size W1 W → Calls _ _ _ W _) := fun W hb => DepthC.lit (IHP.out _ (List.mem_of_getElem? hq)).2 (hry.stays (hbA.trans (hb.mono hbA.size))) (by omega)
                have hsv := depthV_le (.mk k' n' t' fs' r' ls' ps')
                have hsv2 := depthV_le (.mk k2 n2 t2 fs2 r2 ls2 ps2)
                have hI := HI.out
                rw [drop_fields hq, depthP_cons] at hI
                generalize depthV (.mk k' n' t' fs' r' ls' ps') = G at HC hsv hI
                generalize depthV (.mk k2 n2 t2 fs2 r2 ls2 ps2) = G2 at HD hsv2 hI
                have HI2 : Hid (max (max (max N G) G2) (depthP (ps.drop (m + 1))) = max A2 (depthP (ps))) := by show _ = _; rw [← hI]; omega
                have hN2 : (max (max N G) G2) ≤ 3000000 := by omega
                obtain ⟨g, hg⟩ : ∃ g, g = wr.heap.size := ⟨_, rfl⟩
                have HS : Hid (∀ W, Below W1.heap.size W1 W → Below W1.heap.size W1 W ∧ W.cell? ⟨g, 0, none⟩ = some (.int .i64 k') ∧ W.cell? ⟨g, 1, none⟩ = some (.int .u64 (n' : Int)) ∧ W.cell? ⟨g, 2, none⟩ = some (.string (strB t')) ∧ W.cell? ⟨g, 3, none⟩ = some (.slice fa' fs'.length fc') ∧ W.cell? ⟨g, 4, none⟩ = some (.string (strB r')) ∧ W.cell? ⟨g, 5, none⟩ = some (.slice la' ls'.length lc') ∧ W.cell? ⟨g, 6, none⟩ = some (.slice pa' ps'.length pc') ∧ W.cell? ⟨g, 7, none⟩ = some (.int .i64 k2) ∧ W.cell? ⟨g, 8, none⟩ = some (.int .u64 (n2 : Int)) ∧ W.cell? ⟨g, 9, none⟩ = some (.string (strB t2)) ∧ W.cell? ⟨g, 10, none⟩ = some (.slice fa2 fs2.length fc2) ∧ W.cell? ⟨g, 11, none⟩ = some (.string (strB r2)) ∧ W.cell? ⟨g, 12, none⟩ = some (.slice la2 ls2.length lc2) ∧ W.cell? ⟨g, 13, none⟩ = some (.slice pa2 ps2.length pc2)) := fun W hb => by
                  have h1 := hcx.stays hb
                  rw [← hg] at h1
                  exact ⟨hb, h1.cell 0 rfl, h1.cell 1 rfl, h1.cell 2 rfl, h1.cell 3 rfl, h1.cell 4 rfl, h1.cell 5 rfl, h1.cell 6 rfl, h1.cell 7 rfl, h1.cell 8 rfl, h1.cell 9 rfl, h1.cell 10 rfl, h1.cell 11 rfl, h1.cell 12 rfl, h1.cell 13 rfl⟩
                have hszW : w.heap.size + 1 ≤ W1.heap.size := by have := hbA.size; omega
                have HBA : Hid (Below (w.heap.size + 1) w1 W1) := hbe.trans (hbA.mono (by omega))
                have HGG : Hid (g = wr.heap.size) := hg
                have HWW : Hid (W1 = wr.alloc (.cells #[.int .i64 k', .int .u64 (n' : Int), .string (strB t'), .slice fa' fs'.length fc', .string (strB r'), .slice la' ls'.length lc', .slice pa' ps'.length pc', .int .i64 k2, .int .u64 (n2 : Int), .string (strB t2), .slice fa2 fs2.length fc2, .string (strB r2), .slice la2 ls2.length lc2, .slice pa2 ps2.length pc2] 87)) := hW1
                clear HI hrx hry hq hI hwv hW1 hbA hcx hg
                go_wp2_with fail
                have hW1 := HWW.out
                have hg := HGG.out
                rw [← hW1, ← hg]
                clear hW1 hg HWW HGG c0 c1 c2 c3 c4 c5 c6 c7 c8 c9 c10 c11 c12 c13
                have hd0 : Below W1.heap.size W1 W1 := Below.refl _ _
                have hd1 : Below W1.heap.size W1 W1.drew := hd0.drew
                go_region_held3 (fun W => Below W1.heap.size W1 W ∧ W.cell? ⟨g, 0, none⟩ = some (.int .i64 k') ∧ W.cell? ⟨g, 1, none⟩ = some (.int .u64 (n' : Int)) ∧ W.cell? ⟨g, 2, none⟩ = some (.string (strB t')) ∧ W.cell? ⟨g, 3, none⟩ = some (.slice fa' fs'.length fc') ∧ W.cell? ⟨g, 4, none⟩ = some (.string (strB r')) ∧ W.cell? ⟨g, 5, none⟩ = some (.slice la' ls'.length lc') ∧ W.cell? ⟨g, 6, none⟩ = some (.slice pa' ps'.length pc') ∧ W.cell? ⟨g, 7, none⟩ = some (.int .i64 k2) ∧ W.cell? ⟨g, 8, none⟩ = some (.int .u64 (n2 : Int)) ∧ W.cell? ⟨g, 9, none⟩ = some (.string (strB t2)) ∧ W.cell? ⟨g, 10, none⟩ = some (.slice fa2 fs2.length fc2) ∧ W.cell? ⟨g, 11, none⟩ = some (.string (strB r2)) ∧ W.cell? ⟨g, 12, none⟩ = some (.slice la2 ls2.length lc2) ∧ W.cell? ⟨g, 13, none⟩ = some (.slice pa2 ps2.length pc2))
                  (exact HS.out _ (by assumption))
                  ((first
                    | (go_at_call 19; (with_reducible refine (HC.out _ (by assumption)).mono ?_); rintro e w6 ⟨rfl, hb6⟩; have hb7 := hd1.trans (hb6.mono hd1.size))
                    | (go_at_call 19; (with_reducible refine (HD.out _ (by assumption)).mono ?_); rintro e w7 ⟨rfl, hb8⟩; have hb9 := hb7.trans (hb8.mono hb7.size))))
                have hbe2 : Below (w.heap.size + 1) w1 w7 := HBA.out.trans (hb9.mono hszW)
                clear HC HD HS hb6 hb7 hb8 hb9 hd0 hd1
                go_wp2_with fail
                go_roundw
                case rel => exact ⟨m + 1, _, h1, by go_num, congrArg (Value.int .i64) (maxw N G G2), hN2, HI2, hbe2⟩
                case measure => simp only [intOf]; omega
              · have hI := HI.out
                rw [List.drop_of_length_le (by omega), depthP] at hI
                obtain ⟨d0, d5, d6, -, -⟩ := HB0.out wr hbe
                obtain ⟨A3, hA3⟩ : ∃ A : Nat, A = N := ⟨_, rfl⟩
                have HA2 : Hid (A3 = max A2 (depthP (ps))) := by show _ = _; rw [hA3]; omega
                have hbA3 : A3 ≤ depthF fs + depthL ls + depthP ps := by have := HA2.out; have := HA0.out; have := HA1.out; omega
                rw [← hA3]
                clear hA3 HI hI
                have HBE : Hid (Below w.heap.size w wr) := (HB0.out wr hbe).2.2.2.2
                have HZZ : Hid (depthV (.mk k n t fs r ls ps) = A3 + if k = 3 then 1 else 0) := by have h0 := HA0.out; have h1 := HA1.out; have h2 := HA2.out; have h3 := HZ.out; show _ = _; rw [h3]; congr 1; omega
                clear HA0 HA1 HA2 HZ
                by_cases hk3 : k = 3
                · subst hk3
                  rw [if_pos rfl] at HZZ
                  go_wp2_with fail
                  go_ret
                  exact ⟨congrArg (fun z => Ending.returned (Value.int .i64 z)) (by have := HZZ.out; omega), HBE.out⟩
                · have f3 : (k == 3) = false := by simpa using hk3
                  rw [if_neg hk3] at HZZ
                  clear hk3
                  go_wp2_with fail
                  go_ret
                  exact ⟨congrArg (fun z => Ending.returned (Value.int .i64 z)) (by have := HZZ.out; omega), HBE.out⟩
end Go.Proofs.Ytcnjlbbckdmifaa
