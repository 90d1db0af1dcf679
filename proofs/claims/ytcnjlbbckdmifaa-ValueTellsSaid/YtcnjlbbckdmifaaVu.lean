/- The reference's Size, Depth. -/
import Derived.Test.YtcnjlbbckdmifaaVt
namespace Go.Proofs.Ytcnjlbbckdmifaa
open Go Go.RowKit
set_option linter.unusedVariables false
theorem sizeL_app : ∀ a b : List V, sizeL (a ++ b) = sizeL a + sizeL b
  | [], b => by rw [List.nil_append, sizeL, Nat.zero_add]
  | x :: a, b => by rw [List.cons_append, sizeL_cons, sizeL_cons, sizeL_app a b]; omega
theorem sizeL_F : ∀ fs : List (Int × V), sizeL (fs.map Prod.snd) = sizeF fs
  | [] => by rw [List.map_nil, sizeL, sizeF]
  | (n, v) :: r => by rw [List.map_cons, sizeL_cons, sizeF_cons, sizeL_F r]
theorem sizeL_P : ∀ ps : List (V × V), sizeL (ps.flatMap fun p => [p.1, p.2]) = sizeP ps
  | [] => by rw [List.flatMap_nil, sizeL, sizeP]
  | (a, b) :: r => by rw [List.flatMap_cons, sizeL_app, sizeP_cons, sizeL_P r, sizeL_cons, sizeL_cons, sizeL]; rfl
theorem size_kids (fs : List (Int × V)) (ls : List V) (ps : List (V × V)) : sizeL (kidsV fs ls ps) = sizeF fs + sizeL ls + sizeP ps := by
  unfold kidsV
  rw [sizeL_app, sizeL_app, sizeL_F, sizeL_P]
  omega
theorem depthL_app : ∀ a b : List V, depthL (a ++ b) = max (depthL a) (depthL b)
  | [], b => by rw [List.nil_append, depthL]; omega
  | x :: a, b => by rw [List.cons_append, depthL_cons, depthL_cons, depthL_app a b]; omega
theorem depthL_F : ∀ fs : List (Int × V), depthL (fs.map Prod.snd) = depthF fs
  | [] => by rw [List.map_nil, depthL, depthF]
  | (n, v) :: r => by rw [List.map_cons, depthL_cons, depthF_cons, depthL_F r]
theorem depthL_P : ∀ ps : List (V × V), depthL (ps.flatMap fun p => [p.1, p.2]) = depthP ps
  | [] => by rw [List.flatMap_nil, depthL, depthP]
  | (a, b) :: r => by simp only [List.flatMap_cons, depthL_app, depthP_cons, depthL_P r, depthL]; omega
theorem depth_kids (fs : List (Int × V)) (ls : List V) (ps : List (V × V)) : depthL (kidsV fs ls ps) = max (max (depthF fs) (depthL ls)) (depthP ps) := by
  unfold kidsV
  rw [depthL_app, depthL_app, depthL_F, depthL_P]
  omega
theorem wL_app : ∀ a b : List V, wL (a ++ b) = wL a + wL b
  | [], b => by rw [List.nil_append, wL, Nat.zero_add]
  | x :: a, b => by simp only [List.cons_append, wL, wL_app a b]; omega
theorem wL_F : ∀ fs : List (Int × V), wL (fs.map Prod.snd) = wF fs
  | [] => by rw [List.map_nil, wL, wF]
  | (n, v) :: r => by simp only [List.map_cons, wL, wF, wL_F r]
theorem wL_P : ∀ ps : List (V × V), wL (ps.flatMap fun p => [p.1, p.2]) = wP ps + ps.length
  | [] => by rw [List.flatMap_nil, wL, wP]; rfl
  | (a, b) :: r => by simp only [List.flatMap_cons, wL_app, wL, wP, wL_P r, List.length_cons]; omega
theorem w_kids (fs : List (Int × V)) (ls : List V) (ps : List (V × V)) : wL (kidsV fs ls ps) = wF fs + wL ls + wP ps + ps.length := by
  unfold kidsV
  rw [wL_app, wL_app, wL_F, wL_P]
  omega
theorem kids_mem {P : V → Prop} {fs : List (Int × V)} {ls : List V} {ps : List (V × V)} (hf : ∀ p ∈ fs, P p.2) (hl : ∀ x ∈ ls, P x) (hp : ∀ p ∈ ps, P p.1 ∧ P p.2) : ∀ x ∈ kidsV fs ls ps, P x := fun x hx => by
  unfold kidsV at hx
  rcases List.mem_append.1 hx with hx | hx
  · rcases List.mem_append.1 hx with hx | hx
    · exact hl x hx
    · obtain ⟨p, hp', rfl⟩ := List.mem_map.1 hx
      exact hf p hp'
  · obtain ⟨p, hp', hx⟩ := List.mem_flatMap.1 hx
    obtain rfl | rfl : x = p.1 ∨ x = p.2 := by simpa using hx
    · exact (hp p hp').1
    · exact (hp p hp').2
theorem kids_w {fs : List (Int × V)} {ls : List V} {ps : List (V × V)} (h : wF fs + wL ls + wP ps ≤ 1000000) : ∀ x ∈ kidsV fs ls ps, wV x ≤ 1000000 :=
  kids_mem (fun p hp => by have := wF_mem fs p hp; omega) (fun x hx => by have := wL_mem ls x hx; omega) (fun p hp => by have := wP_mem ps p hp; constructor <;> omega)
def RSizeC (v : V) : Prop := ∀ (a : A3) (S : Nat → Prop) (w : World), Rep S w v a → wV v ≤ 1000000 →
    Calls Try.prog 18 #[vG (v, a)] w fun e w' => e = .returned (.int .i64 (sizeV v : Nat)) ∧ Below w.heap.size w w'
def RDepthC (v : V) : Prop := ∀ (a : A3) (S : Nat → Prop) (w : World), Rep S w v a → wV v ≤ 1000000 →
    Calls Try.prog 20 #[vG (v, a)] w fun e w' => e = .returned (.int .i64 (depthV v : Nat)) ∧ Below w.heap.size w w'
section
variable {k : Int} {n : Nat} {t r : List UInt8} {fs : List (Int × V)} {ls : List V} {ps : List (V × V)} {fa la pa : Option Addr} {fc lc pc : Nat} {S : Nat → Prop} {w : World}
theorem RSizeC.lit (h : RSizeC (.mk k n t fs r ls ps)) (hr : Rep S w (.mk k n t fs r ls ps) ⟨fa, fc, la, lc, pa, pc⟩) (hw : wV (.mk k n t fs r ls ps) ≤ 1000000) : Calls Try.prog 18 #[.agg #[.int .i64 k, .int .u64 (n : Int), .string (strB t), .slice fa fs.length fc, .string (strB r), .slice la ls.length lc, .slice pa ps.length pc]] w fun e w' => e = .returned (.int .i64 (sizeV (.mk k n t fs r ls ps) : Nat)) ∧ Below w.heap.size w w' := by
  have := h _ S w hr hw
  rw [vG_lit] at this
  exact this
theorem RDepthC.lit (h : RDepthC (.mk k n t fs r ls ps)) (hr : Rep S w (.mk k n t fs r ls ps) ⟨fa, fc, la, lc, pa, pc⟩) (hw : wV (.mk k n t fs r ls ps) ≤ 1000000) : Calls Try.prog 20 #[.agg #[.int .i64 k, .int .u64 (n : Int), .string (strB t), .slice fa fs.length fc, .string (strB r), .slice la ls.length lc, .slice pa ps.length pc]] w fun e w' => e = .returned (.int .i64 (depthV (.mk k n t fs r ls ps) : Nat)) ∧ Below w.heap.size w w' := by
  have := h _ S w hr hw
  rw [vG_lit] at this
  exact this
end
/-- an element of a row of values -/
theorem kidAt {W : World} {a : Option Addr} {c : Nat} {xs : List (V × A3)} (h : RowS vC W (.slice a xs.length c) xs) {i : Nat} {k' : Int} {n' : Nat} {t' r' : List UInt8} {fs' : List (Int × V)} {ls' : List V} {ps' : List (V × V)} {fa' la' pa' : Option Addr} {fc' lc' pc' : Nat} (hi : xs[i]? = some (.mk k' n' t' fs' r' ls' ps', ⟨fa', fc', la', lc', pa', pc'⟩)) :
    ∃ b o, a = some ⟨b, o, none⟩ ∧ W.cell? ⟨b, o + i * 7, none⟩ = some (.int .i64 k') ∧ W.cell? ⟨b, o + i * 7 + 1, none⟩ = some (.int .u64 (n' : Int)) ∧ W.cell? ⟨b, o + i * 7 + 2, none⟩ = some (.string (strB t')) ∧
      W.cell? ⟨b, o + i * 7 + 3, none⟩ = some (.slice fa' fs'.length fc') ∧ W.cell? ⟨b, o + i * 7 + 4, none⟩ = some (.string (strB r')) ∧ W.cell? ⟨b, o + i * 7 + 5, none⟩ = some (.slice la' ls'.length lc') ∧ W.cell? ⟨b, o + i * 7 + 6, none⟩ = some (.slice pa' ps'.length pc') := by
  obtain ⟨_, _, h1, h2, h3⟩ := RowS.shape h vC_len
  obtain ⟨b, o, ha, hc⟩ := h3 i _ hi
  simp only [Value.slice.injEq] at h1
  obtain ⟨rfl, -, -⟩ := h1
  refine ⟨b, o, ha, ?_, ?_, ?_, ?_, ?_, ?_, ?_⟩
  · simpa using hc 0 (.int .i64 k') rfl
  all_goals rw [Nat.add_assoc]; exact hc _ _ rfl
set_option maxRecDepth 100000 in
set_option maxHeartbeats 8000000 in
theorem rsize_any : ∀ (v : V), RSizeC v := by
  intro v
  induction v using V.ind with
  | h v ihf ihl ihp =>
    intro a S w hr hw
    obtain ⟨k, n, t, fs, r, ls, ps⟩ := v
    obtain ⟨fa, fc, la, lc, pa, pc⟩ := a
    rw [vG_lit]
    have hww : wF fs + wL ls + wP ps ≤ 1000000 := by rw [wV_eq] at hw; simp only [V.fs, V.ls, V.ps] at hw; omega
    have IH : Hid (∀ x ∈ kidsV fs ls ps, RSizeC x ∧ wV x ≤ 1000000) := fun x hx => ⟨kids_mem (show ∀ p ∈ fs, RSizeC p.2 from ihf) (show ∀ x ∈ ls, RSizeC x from ihl) (show ∀ p ∈ ps, RSizeC p.1 ∧ RSizeC p.2 from ihp) x hx, kids_w hww x hx⟩
    have hwk := w_kids fs ls ps
    have hpl := wP_len ps
    have hwl := sizeL_le (kidsV fs ls ps)
    have hkl := wL_len (kidsV fs ls ps)
    have hkl6 : (kidsV fs ls ps).length ≤ 2000000 := by omega
    have hsz6 : sizeL (kidsV fs ls ps) ≤ 2000000 := by omega
    obtain ⟨W0, hW0⟩ : ∃ W0, W0 = w.alloc (.cells #[.int .i64 k, .int .u64 (n : Int), .string (strB t), .slice fa fs.length fc, .string (strB r), .slice la ls.length lc, .slice pa ps.length pc] 34) := ⟨_, rfl⟩
    obtain ⟨g, hg⟩ : ∃ g, g = w.heap.size := ⟨_, rfl⟩
    have hbA : Below w.heap.size w W0 := by rw [hW0]; exact (Below.refl _ _).alloc (Nat.le_refl _) _
    have hcA : CellsAt W0 g 34 #[.int .i64 k, .int .u64 (n : Int), .string (strB t), .slice fa fs.length fc, .string (strB r), .slice la ls.length lc, .slice pa ps.length pc] := by rw [hW0, hg]; exact CellsAt.new w _ _
    have HK := Lib.hid (kids_any (hr.stays hbA) hww)
    have HBA := Lib.hid hbA
    have HX : Hid (∀ W, Below W0.heap.size W0 W → W.cell? ⟨g, 0, none⟩ = some (.int .i64 k) ∧ Below w.heap.size w W) := fun W hb => ⟨(hcA.stays hb).cell 0 rfl, hbA.trans (hb.mono hbA.size)⟩
    have HW := Lib.hid hW0
    have HG := Lib.hid hg
    clear ihf ihl ihp hw hwk hpl hwl hkl hww hr hW0 hg hbA hcA
    by_cases hk0 : k = 0
    · subst hk0
      have HZ : Hid (0 = sizeV (.mk 0 n t fs r ls ps)) := by show _ = _; rw [sizeV, if_pos rfl]
      go_enter Try.func18, Try.ntmps18
      go_wp2_with fail
      have hW0 := HW.out
      rw [← hW0]
      clear hW0
      go_ret
      exact ⟨congrArg (fun z : Nat => Ending.returned (Value.int .i64 z)) HZ.out, HBA.out⟩
    have f0 : (k == 0) = false := by simpa using hk0
    have HZ : Hid (1 + sizeL (kidsV fs ls ps) = sizeV (.mk k n t fs r ls ps)) := by show _ = _; rw [sizeV, if_neg hk0, size_kids]; omega
    clear hk0
    obtain ⟨K, hK⟩ : ∃ K, K = kidsV fs ls ps := ⟨_, rfl⟩
    rw [← hK] at IH HZ hkl6 hsz6
    have HKK := Lib.hid hK
    clear hK
    go_enter Try.func18, Try.ntmps18
    go_wp2_with fail
    have hW0 := HW.out
    have hg := HG.out
    rw [← hW0, ← hg]
    clear hW0 hg HW
    refine HK.out.mono ?_
    rintro e w1 ⟨q, d, xs, rfl, hxm, hown, hxr, hb1⟩
    rw [← HKK.out] at hxm
    have hlx : xs.length = K.length := by rw [← hxm, List.length_map]
    have HXM := Lib.hid hxm
    have HROW : Hid (∀ W, Below w1.heap.size w1 W → RowS vC W (.slice q xs.length d) xs) := fun W hb => RowS.stays hown.row hb
    have HXR := Lib.hid hxr
    have HB1 := Lib.hid hb1
    have hx6 : xs.length ≤ 2000000 := by omega
    have HLX := Lib.hid hlx
    clear hxm hown hxr hlx HK HKK hb1
    go_wp2_with fail
    go_loopw [3, 12] (fun x i wr => ∃ (m N : Nat), m ≤ xs.length ∧ i = .int .i64 m ∧ x = .int .i64 (N : Nat) ∧ N ≤ 3000000 ∧ Hid (N + sizeL (K.drop m) = 1 + sizeL (K)) ∧ Below w1.heap.size w1 wr) (fun _ i _ => xs.length - (intOf i).toNat)
    case atStart => exact ⟨0, 1, Nat.zero_le _, rfl, rfl, by omega, rfl, Below.refl _ _⟩
    case round =>
      obtain ⟨m, N, hm, rfl, rfl, hN, HI, hbe⟩ := hrel
      have hbe0 := HB1.out.trans (hbe.mono HB1.out.size)
      have HBE0 := Lib.hid hbe0
      by_cases h1 : m < xs.length
      · obtain ⟨⟨⟨k', n', t', fs', r', ls', ps'⟩, ⟨fa', fc', la', lc', pa', pc'⟩⟩, hq⟩ : ∃ p, xs[m]? = some p := ⟨_, List.getElem?_eq_getElem h1⟩
        have hqk : K[m]? = some (.mk k' n' t' fs' r' ls' ps') := by rw [← HXM.out, List.getElem?_map, hq]; rfl
        obtain ⟨b, o, rfl, c0, c1, c2, c3, c4, c5, c6⟩ := kidAt (HROW.out wr hbe) hq
        have hrx : Rep S wr (.mk k' n' t' fs' r' ls' ps') ⟨fa', fc', la', lc', pa', pc'⟩ := (HXR.out _ (List.mem_of_getElem? hq)).stays hbe0
        obtain ⟨hih, hwx⟩ := IH.out _ (List.mem_of_getElem? hqk)
        have HC : Hid (∀ W, Below wr.heap.size wr W → Calls _ _ _ W _) := fun W hb => RSizeC.lit hih (hrx.stays hb) hwx
        have hI := HI.out
        rw [drop_fields hqk, sizeL_cons] at hI
        generalize sizeV (.mk k' n' t' fs' r' ls' ps') = G at HC hI
        have HI2 : Hid ((N + G) + sizeL (K.drop (m + 1)) = 1 + sizeL (K)) := by show _ = _; rw [← hI]; omega
        have hN2 : (N + G) ≤ 3000000 := by omega
        clear HI hrx hq hqk hI hih hwx hbe0
        go_wp2_with fail
        refine (HC.out _ ((Below.refl _ _).alloc (Nat.le_refl _) _)).mono ?_
        rintro e w2 ⟨rfl, hb2⟩
        have hbe2 : Below w1.heap.size w1 w2 := (hbe.alloc hbe.size _).trans (hb2.mono (by have := hbe.size; simp; omega))
        clear HC hb2 hbe c0 c1 c2 c3 c4 c5 c6
        go_wp2_with fail
        go_roundw
        case rel => exact ⟨m + 1, _, h1, by go_num, by go_num, hN2, HI2, hbe2⟩
        case measure => simp only [intOf]; omega
      · have hI := HI.out
        rw [List.drop_of_length_le (by have := HLX.out; omega), sizeL] at hI
        have HFF := Lib.hid ((HX.out wr hbe0).2)
        have x0 := (HX.out wr hbe0).1
        have HZ2 : Hid (N = sizeV (.mk k n t fs r ls ps)) := by have := HZ.out; show _ = _; omega
        clear hI HI hbe hbe0 HZ
        go_wp2_with fail
        go_ret
        exact ⟨congrArg (fun z : Nat => Ending.returned (Value.int .i64 z)) HZ2.out, HFF.out⟩
set_option maxRecDepth 100000 in
set_option maxHeartbeats 8000000 in
theorem rdepth_any : ∀ (v : V), RDepthC v := by
  intro v
  induction v using V.ind with
  | h v ihf ihl ihp =>
    intro a S w hr hw
    obtain ⟨k, n, t, fs, r, ls, ps⟩ := v
    obtain ⟨fa, fc, la, lc, pa, pc⟩ := a
    rw [vG_lit]
    have hww : wF fs + wL ls + wP ps ≤ 1000000 := by rw [wV_eq] at hw; simp only [V.fs, V.ls, V.ps] at hw; omega
    have IH : Hid (∀ x ∈ kidsV fs ls ps, RDepthC x ∧ wV x ≤ 1000000) := fun x hx => ⟨kids_mem (show ∀ p ∈ fs, RDepthC p.2 from ihf) (show ∀ x ∈ ls, RDepthC x from ihl) (show ∀ p ∈ ps, RDepthC p.1 ∧ RDepthC p.2 from ihp) x hx, kids_w hww x hx⟩
    have hwk := w_kids fs ls ps
    have hpl := wP_len ps
    have hwl := depthL_le (kidsV fs ls ps)
    have hkl := wL_len (kidsV fs ls ps)
    have hkl6 : (kidsV fs ls ps).length ≤ 2000000 := by omega
    have hsz6 : depthL (kidsV fs ls ps) ≤ 2000000 := by omega
    obtain ⟨W0, hW0⟩ : ∃ W0, W0 = w.alloc (.cells #[.int .i64 k, .int .u64 (n : Int), .string (strB t), .slice fa fs.length fc, .string (strB r), .slice la ls.length lc, .slice pa ps.length pc] 34) := ⟨_, rfl⟩
    obtain ⟨g, hg⟩ : ∃ g, g = w.heap.size := ⟨_, rfl⟩
    have hbA : Below w.heap.size w W0 := by rw [hW0]; exact (Below.refl _ _).alloc (Nat.le_refl _) _
    have hcA : CellsAt W0 g 34 #[.int .i64 k, .int .u64 (n : Int), .string (strB t), .slice fa fs.length fc, .string (strB r), .slice la ls.length lc, .slice pa ps.length pc] := by rw [hW0, hg]; exact CellsAt.new w _ _
    have HK := Lib.hid (kids_any (hr.stays hbA) hww)
    have HBA := Lib.hid hbA
    have HX : Hid (∀ W, Below W0.heap.size W0 W → W.cell? ⟨g, 0, none⟩ = some (.int .i64 k) ∧ Below w.heap.size w W) := fun W hb => ⟨(hcA.stays hb).cell 0 rfl, hbA.trans (hb.mono hbA.size)⟩
    have HW := Lib.hid hW0
    have HG := Lib.hid hg
    clear ihf ihl ihp hw hwk hpl hwl hkl hww hr hW0 hg hbA hcA
    have HZ : Hid (depthL (kidsV fs ls ps) + (if k = 3 then 1 else 0) = depthV (.mk k n t fs r ls ps)) := by show _ = _; rw [depthV, depth_kids]
    obtain ⟨K, hK⟩ : ∃ K, K = kidsV fs ls ps := ⟨_, rfl⟩
    rw [← hK] at IH HZ hkl6 hsz6
    have HKK := Lib.hid hK
    clear hK
    go_enter Try.func20, Try.ntmps20
    go_wp2_with fail
    have hW0 := HW.out
    have hg := HG.out
    rw [← hW0, ← hg]
    clear hW0 hg HW
    refine HK.out.mono ?_
    rintro e w1 ⟨q, d, xs, rfl, hxm, hown, hxr, hb1⟩
    rw [← HKK.out] at hxm
    have hlx : xs.length = K.length := by rw [← hxm, List.length_map]
    have HXM := Lib.hid hxm
    have HROW : Hid (∀ W, Below w1.heap.size w1 W → RowS vC W (.slice q xs.length d) xs) := fun W hb => RowS.stays hown.row hb
    have HXR := Lib.hid hxr
    have HB1 := Lib.hid hb1
    have hx6 : xs.length ≤ 2000000 := by omega
    have HLX := Lib.hid hlx
    clear hxm hown hxr hlx HK HKK hb1
    go_wp2_with fail
    go_loopw [3, 10] (fun x i wr => ∃ (m N : Nat), m ≤ xs.length ∧ i = .int .i64 m ∧ x = .int .i64 (N : Nat) ∧ N ≤ 3000000 ∧ Hid (max N (depthL (K.drop m)) = max 0 (depthL (K))) ∧ Below w1.heap.size w1 wr) (fun _ i _ => xs.length - (intOf i).toNat)
    case atStart => exact ⟨0, 0, Nat.zero_le _, rfl, rfl, by omega, rfl, Below.refl _ _⟩
    case round =>
      obtain ⟨m, N, hm, rfl, rfl, hN, HI, hbe⟩ := hrel
      have hbe0 := HB1.out.trans (hbe.mono HB1.out.size)
      have HBE0 := Lib.hid hbe0
      by_cases h1 : m < xs.length
      · obtain ⟨⟨⟨k', n', t', fs', r', ls', ps'⟩, ⟨fa', fc', la', lc', pa', pc'⟩⟩, hq⟩ : ∃ p, xs[m]? = some p := ⟨_, List.getElem?_eq_getElem h1⟩
        have hqk : K[m]? = some (.mk k' n' t' fs' r' ls' ps') := by rw [← HXM.out, List.getElem?_map, hq]; rfl
        obtain ⟨b, o, rfl, c0, c1, c2, c3, c4, c5, c6⟩ := kidAt (HROW.out wr hbe) hq
        have hrx : Rep S wr (.mk k' n' t' fs' r' ls' ps') ⟨fa', fc', la', lc', pa', pc'⟩ := (HXR.out _ (List.mem_of_getElem? hq)).stays hbe0
        obtain ⟨hih, hwx⟩ := IH.out _ (List.mem_of_getElem? hqk)
        have HC : Hid (∀ W, Below wr.heap.size wr W → Calls _ _ _ W _) := fun W hb => RDepthC.lit hih (hrx.stays hb) hwx
        have hI := HI.out
        rw [drop_fields hqk, depthL_cons] at hI
        generalize depthV (.mk k' n' t' fs' r' ls' ps') = G at HC hI
        have HI2 : Hid (max (max N G) (depthL (K.drop (m + 1))) = max 0 (depthL (K))) := by show _ = _; rw [← hI]; omega
        have hN2 : (max N G) ≤ 3000000 := by omega
        clear HI hrx hq hqk hI hih hwx hbe0
        go_wp2_with fail
        refine (HC.out _ ((Below.refl _ _).alloc (Nat.le_refl _) _)).mono ?_
        rintro e w2 ⟨rfl, hb2⟩
        have hbe2 : Below w1.heap.size w1 w2 := (hbe.alloc hbe.size _).trans (hb2.mono (by have := hbe.size; simp; omega))
        clear HC hb2 hbe c0 c1 c2 c3 c4 c5 c6
        by_cases hNG : N < G
        · rw [show max N G = G by omega] at HI2 hN2
          have hng : decide ((G : Int) > N) = true := decide_eq_true (by omega)
          go_wp2_with fail
          go_roundw
          case rel => exact ⟨m + 1, G, h1, by go_num, rfl, hN2, HI2, hbe2⟩
          case measure => simp only [intOf]; omega
        · rw [show max N G = N by omega] at HI2 hN2
          have hng : decide ((G : Int) > N) = false := decide_eq_false (by omega)
          go_wp2_with fail
          go_roundw
          case rel => exact ⟨m + 1, N, h1, by go_num, rfl, hN2, HI2, hbe2⟩
          case measure => simp only [intOf]; omega
      · have hI := HI.out
        rw [List.drop_of_length_le (by have := HLX.out; omega), depthL] at hI
        have HFF := Lib.hid ((HX.out wr hbe0).2)
        have x0 := (HX.out wr hbe0).1
        by_cases hk3 : k = 3
        · subst hk3
          have HZ2 : Hid (N + 1 = depthV (.mk 3 n t fs r ls ps)) := by have := HZ.out; rw [if_pos rfl] at this; show _ = _; omega
          clear hI HI hbe hbe0 HZ
          go_wp2_with fail
          go_ret
          exact ⟨congrArg (fun z => Ending.returned (Value.int .i64 z)) (by have := HZ2.out; omega), HFF.out⟩
        · have f3 : (k == 3) = false := by simpa using hk3
          have HZ2 : Hid (N = depthV (.mk k n t fs r ls ps)) := by have := HZ.out; rw [if_neg hk3] at this; show _ = _; omega
          clear hk3 hI HI hbe hbe0 HZ
          go_wp2_with fail
          go_ret
          exact ⟨congrArg (fun z : Nat => Ending.returned (Value.int .i64 z)) HZ2.out, HFF.out⟩
end Go.Proofs.Ytcnjlbbckdmifaa
