/- The reference's kids: all values right within one. -/
import Derived.Test.YtcnjlbbckdmifaaVp
namespace Go.Proofs.Ytcnjlbbckdmifaa
open Go Go.RowKit
set_option linter.unusedVariables false
/-- all values right within one: its list, its fields' values, its pairs' keys and values -/
def kidsV (fs : List (Int × V)) (ls : List V) (ps : List (V × V)) : List V := ls ++ fs.map Prod.snd ++ ps.flatMap (fun p => [p.1, p.2])
/-- kids as they lie: their trees, and where their rows are -/
def KidP (S : Nat → Prop) (fs : List (Int × V)) (ls : List V) (ps : List (V × V)) (w : World) (e : Ending) (w' : World) : Prop := ∃ (a : Option Addr) (c : Nat) (xs : List (V × A3)), e = .returned (.slice a xs.length c) ∧ xs.map Prod.fst = kidsV fs ls ps ∧ OwnS 34 7 vC w.heap.size w' (.slice a xs.length c) xs ∧ (∀ p ∈ xs, Rep S w p.1 p.2) ∧ Below w.heap.size w w'
section
variable {k : Int} {n : Nat} {t r : List UInt8} {fs : List (Int × V)} {ls : List V} {ps : List (V × V)} {fa la pa : Option Addr} {fc lc pc : Nat} {S : Nat → Prop} {w : World}
theorem Rep.listRow (h : Rep S w (.mk k n t fs r ls ps) ⟨fa, fc, la, lc, pa, pc⟩) : ∃ ll : List (V × A3), ls = ll.map Prod.fst ∧ RowS vC w (.slice la ls.length lc) ll ∧ ∀ p ∈ ll, Rep S w p.1 p.2 := by
  cases h with
  | mk _ _ fl ll pl hk hn hf hl hp hb rf rl rp sf sl sp cf cl cp cq => exact ⟨ll, hl, rl, cl⟩
/-- two elements that lie in a block of their own -/
theorem rowS_two {w : World} {g : Nat} {T : TypeId} {us : Array Value} {x y : V × A3} (h : CellsAt w g T us) (hu : us.toList = vC x ++ vC y) : RowS vC w (.slice (some ⟨g, 0, none⟩) 2 2) [x, y] := by
  refine .inr ⟨g, 0, 2, rfl, Nat.le_refl _, by unfold maxLen; simp, h.lt, fun j u hj => ?_⟩
  rw [Nat.zero_add]
  refine h.cell j ?_
  rw [← Array.getElem?_toList, hu]
  simpa using hj
set_option maxRecDepth 100000 in
set_option maxHeartbeats 8000000 in
theorem kids_any (hr : Rep S w (.mk k n t fs r ls ps) ⟨fa, fc, la, lc, pa, pc⟩) (hw : wF fs + wL ls + wP ps ≤ 1000000) :
    Calls Try.prog 60 #[.agg #[.int .i64 k, .int .u64 (n : Int), .string (strB t), .slice fa fs.length fc, .string (strB r), .slice la ls.length lc, .slice pa ps.length pc]] w (KidP S fs ls ps w) := by
  obtain ⟨ll, hls, hrow, hll⟩ := hr.listRow
  have hl1 : ll.length = ls.length := by rw [hls, List.length_map]
  have hfl := wF_len fs
  have hlle := wL_len ls
  have hple := wP_len ps
  have hfl6 : fs.length ≤ 1000000 := by omega
  have hll6 : ls.length ≤ 1000000 := by omega
  have hpl6 : ps.length ≤ 1000000 := by omega
  have HBA : Hid (Below w.heap.size w (w.alloc (.cells #[.int .i64 k, .int .u64 (n : Int), .string (strB t), .slice fa fs.length fc, .string (strB r), .slice la ls.length lc, .slice pa ps.length pc] 34))) := (Below.refl _ _).alloc (Nat.le_refl _) _
  have HR : Hid (∀ W, Below w.heap.size w W → Rep S W (.mk k n t fs r ls ps) ⟨fa, fc, la, lc, pa, pc⟩) := fun W hb => hr.stays hb
  have HRW : Hid (∀ W, Below w.heap.size w W → RowS vC W (.slice la ls.length lc) ll) := fun W hb => hrow.stays hb
  have HR0 := Lib.hid hr
  have HLS := Lib.hid hls
  have HLL := Lib.hid hll
  have HL1 := Lib.hid hl1
  have HCX : Hid (CellsAt (w.alloc (.cells #[.int .i64 k, .int .u64 (n : Int), .string (strB t), .slice fa fs.length fc, .string (strB r), .slice la ls.length lc, .slice pa ps.length pc] 34)) w.heap.size 34 #[.int .i64 k, .int .u64 (n : Int), .string (strB t), .slice fa fs.length fc, .string (strB r), .slice la ls.length lc, .slice pa ps.length pc]) := CellsAt.new w _ _
  clear hr hls hrow hll hl1
  obtain ⟨W0, hW0⟩ : ∃ W0, W0 = w.alloc (.cells #[.int .i64 k, .int .u64 (n : Int), .string (strB t), .slice fa fs.length fc, .string (strB r), .slice la ls.length lc, .slice pa ps.length pc] 34) := ⟨_, rfl⟩
  obtain ⟨g, hg⟩ : ∃ g, g = w.heap.size := ⟨_, rfl⟩
  rw [← hW0] at HBA HCX
  rw [← hg] at HCX
  have hW0s : W0.heap.size = g + 1 := by rw [hW0, hg]; simp
  have HX : Hid (∀ W, Below (g + 1) W0 W → W.cell? ⟨g, 3, none⟩ = some (.slice fa fs.length fc) ∧ W.cell? ⟨g, 6, none⟩ = some (.slice pa ps.length pc) ∧ Below w.heap.size w W ∧ g + 1 ≤ W.heap.size) := fun W hb => by
    have hb' : Below W0.heap.size W0 W := by rw [hW0s]; exact hb
    have h := HCX.out.stays hb'
    refine ⟨h.cell 3 rfl, h.cell 6 rfl, HBA.out.trans (hb'.mono HBA.out.size), ?_⟩
    have := hb.size
    omega
  have hown : OwnS 34 7 vC (g + 1) (W0.alloc (.cells #[] 34)) (.slice (some ⟨W0.heap.size, 0, none⟩) 0 0) [] := World.ownsRow_made (base := g + 1) (e := 34) (size := 7) W0 #[] 0 (by omega) (Nat.zero_le _) rfl
  have hbb : Below (g + 1) W0 (W0.alloc (.cells #[] 34)) := (Below.refl _ _).alloc (by omega) _
  have hrowA := HRW.out _ ((HX.out _ hbb).2.2.1)
  have x5 := HCX.out.cell 5 (v := .slice la ls.length lc) rfl
  have hgl : g < W0.heap.size := by omega
  have hwa : g + 1 ≤ (W0.alloc (.cells #[] 34)).heap.size := by simp; omega
  have HW := Lib.hid hW0
  have HG := Lib.hid hg
  clear hW0 hg HCX hW0s HBA
  go_enter Try.func60, Try.ntmps60
  go_upto_region 1 with fail
  have hW0 := HW.out
  have hg := HG.out
  rw [← hW0, ← hg]
  clear hW0 hg HW
  go_wp2_with (at_builtin; go_must (refine wpList_appendS vC_len vC_one Try.underlying31 infoRV rfl (by decide) hown hrowA (by rw [List.length_nil]; have := HL1.out; omega) hwa rfl _ _ rfl (by rfl) (by rfl) ?_))
  intro v1 w1 ho1 hg1 _ _
  have hb1 := OwnS.below hown hbb hg1 hwa
  obtain ⟨q0, d0, rfl, -, -⟩ := ho1.row.shape vC_len
  clear hown hbb hrowA x5 hgl hwa hg1
  obtain ⟨x3, x6, hbw, hsg⟩ := HX.out w1 hb1
  go_wp2_with fail
  go_loopw [3, 15] (fun x i wr => ∃ (m : Nat) (q : Option Addr) (d : Nat) (xs : List (V × A3)), m ≤ fs.length ∧ i = .int .i64 m ∧ x = .slice q xs.length d ∧ Hid (xs.map Prod.fst = ls ++ (fs.take m).map Prod.snd) ∧ xs.length = ls.length + m ∧ Hid (∀ p ∈ xs, Rep S w p.1 p.2) ∧ OwnS 34 7 vC (g + 1) wr (.slice q xs.length d) xs ∧ Below (g + 1) W0 wr) (fun _ i _ => fs.length - (intOf i).toNat)
  case atStart => exact ⟨0, q0, d0, ll, Nat.zero_le _, rfl, rfl, by show _ = _; rw [List.take_zero, List.map_nil, List.append_nil]; exact HLS.out.symm, HL1.out, HLL.out, ho1, hb1⟩
  case round =>
    clear ho1 hb1 x3 x6 hbw hsg
    obtain ⟨m, q, d, xs, hm, rfl, rfl, HM, hxl, HXR, how, hbe⟩ := hrel
    obtain ⟨x3, x6, hbw, hsg⟩ := HX.out wr hbe
    by_cases h1 : m < fs.length
    · obtain ⟨⟨num, ⟨k', n', t', fs', r', ls', ps'⟩⟩, hq⟩ : ∃ p, fs[m]? = some p := ⟨_, List.getElem?_eq_getElem h1⟩
      obtain ⟨b, o, fa', la', pa', fc', lc', pc', rfl, hnum, hrx, c0, c1, c2, c3, c4, c5, c6, c7⟩ := HR0.out.fieldAt hq
      have hlb : b < w.heap.size := World.block_lt_of_cell? w _ c0
      replace c0 := later1 c0 hlb hbw
      replace c1 := later1 c1 hlb hbw
      replace c2 := later1 c2 hlb hbw
      replace c3 := later1 c3 hlb hbw
      replace c4 := later1 c4 hlb hbw
      replace c5 := later1 c5 hlb hbw
      replace c6 := later1 c6 hlb hbw
      replace c7 := later1 c7 hlb hbw
      have HM2 : Hid ((xs ++ [((.mk k' n' t' fs' r' ls' ps', ⟨fa', fc', la', lc', pa', pc'⟩) : V × A3)]).map Prod.fst = ls ++ (fs.take (m + 1)).map Prod.snd) := by show _ = _; rw [List.map_append, HM.out, take_next hq, List.map_append, List.append_assoc]; rfl
      have HXR2 : Hid (∀ p ∈ xs ++ [((.mk k' n' t' fs' r' ls' ps', ⟨fa', fc', la', lc', pa', pc'⟩) : V × A3)], Rep S w p.1 p.2) := fun p hp => by
        rcases List.mem_append.1 hp with h | h
        · exact HXR.out p h
        · obtain rfl : p = (.mk k' n' t' fs' r' ls' ps', ⟨fa', fc', la', lc', pa', pc'⟩) := by simpa using h
          exact hrx
      obtain ⟨W1, hW1⟩ : ∃ W1, W1 = wr.alloc (.cells #[.int .i64 num, .int .i64 k', .int .u64 (n' : Int), .string (strB t'), .slice fa' fs'.length fc', .string (strB r'), .slice la' ls'.length lc', .slice pa' ps'.length pc'] 85) := ⟨_, rfl⟩
      obtain ⟨h, hh⟩ : ∃ h, h = wr.heap.size := ⟨_, rfl⟩
      have howA : OwnS 34 7 vC (g + 1) W1 (.slice q xs.length d) xs := by rw [hW1]; exact OwnS.alloc how _
      have hbeA : Below (g + 1) W0 W1 := by rw [hW1]; exact hbe.alloc hsg _
      have hsA : g + 1 ≤ W1.heap.size := by rw [hW1]; simp; omega
      have hcv : CellsAt W1 h 85 #[.int .i64 num, .int .i64 k', .int .u64 (n' : Int), .string (strB t'), .slice fa' fs'.length fc', .string (strB r'), .slice la' ls'.length lc', .slice pa' ps'.length pc'] := by rw [hW1, hh]; exact CellsAt.new wr _ _
      have y0 := hcv.cell 0 (v := .int .i64 num) rfl
      have y1 := hcv.cell 1 (v := .int .i64 k') rfl
      have y2 := hcv.cell 2 (v := .int .u64 (n' : Int)) rfl
      have y3 := hcv.cell 3 (v := .string (strB t')) rfl
      have y4 := hcv.cell 4 (v := .slice fa' fs'.length fc') rfl
      have y5 := hcv.cell 5 (v := .string (strB r')) rfl
      have y6 := hcv.cell 6 (v := .slice la' ls'.length lc') rfl
      have y7 := hcv.cell 7 (v := .slice pa' ps'.length pc') rfl
      have hx6 : xs.length ≤ 100000000 := by omega
      have HW1 := Lib.hid hW1
      have HH := Lib.hid hh
      have HXL := Lib.hid hxl
      clear hxl hrx hq hlb x3 x6 hbw how hbe HM HXR hW1 hh hcv
      go_upto_region 5 with fail
      have hW1 := HW1.out
      have hh := HH.out
      rw [← hW1, ← hh]
      clear hW1 hh HW1 HH c0 c1 c2 c3 c4 c5 c6 c7
      go_wp2_with (at_builtin; go_must (refine wpList_pushS vC_len vC_one Try.underlying31 infoRV rfl (by decide) howA (.mk k' n' t' fs' r' ls' ps', ⟨fa', fc', la', lc', pa', pc'⟩) hx6 hsA rfl _ _ rfl (by rfl) _ _ _ (by rfl) (by rfl) ?_))
      intro v2 w2 ho2 hg2 _
      have hbe2 := OwnS.below howA hbeA hg2 hsA
      obtain ⟨q2, d2, rfl, -, -⟩ := ho2.row.shape vC_len
      clear howA hbeA hsA hg2 y0 y1 y2 y3 y4 y5 y6 y7
      go_wp2_with fail
      go_roundw
      case rel => exact ⟨m + 1, q2, d2, _, h1, by go_num, rfl, HM2, by rw [List.length_append, HXL.out]; rfl, HXR2, ho2, hbe2⟩
      case measure => simp only [intOf]; omega
    · obtain rfl : m = fs.length := by omega
      have HM3 : Hid (xs.map Prod.fst = ls ++ fs.map Prod.snd) := by have := HM.out; rwa [List.take_length] at this
      clear HM h1
      go_wp2_with fail
      obtain ⟨wa, rfl⟩ : ∃ wx : World, wx = wr := ⟨_, rfl⟩
      obtain ⟨q1, hq1⟩ : ∃ x, x = q := ⟨_, rfl⟩
      obtain ⟨d1, hd1⟩ : ∃ x, x = d := ⟨_, rfl⟩
      obtain ⟨ys, hys⟩ : ∃ x, x = xs := ⟨_, rfl⟩
      rw [← hq1, ← hd1, ← hys] at how
      rw [← hq1, ← hd1, ← hys]
      rw [← hys] at HM3 HXR hxl
      clear hq1 hd1 hys
      go_loopw [3, 28] (fun x i wr => ∃ (m : Nat) (q : Option Addr) (d : Nat) (xs : List (V × A3)), m ≤ ps.length ∧ i = .int .i64 m ∧ x = .slice q xs.length d ∧ Hid (xs.map Prod.fst = ls ++ fs.map Prod.snd ++ (ps.take m).flatMap (fun p => [p.1, p.2])) ∧ xs.length = ls.length + fs.length + 2 * m ∧ Hid (∀ p ∈ xs, Rep S w p.1 p.2) ∧ OwnS 34 7 vC (g + 1) wr (.slice q xs.length d) xs ∧ Below (g + 1) W0 wr) (fun _ i _ => ps.length - (intOf i).toNat)
      case atStart => exact ⟨0, q1, d1, ys, Nat.zero_le _, rfl, rfl, by show _ = _; rw [List.take_zero, List.flatMap_nil, List.append_nil]; exact HM3.out, by rw [hxl]; rfl, HXR.out, how, hbe⟩
      case round =>
        clear how hbe HM3 HXR hxl x3 x6 hbw hsg hm
        obtain ⟨m, q, d, xs, hm, rfl, rfl, HM, hxl, HXR, how, hbe⟩ := hrel
        obtain ⟨x3, x6, hbw, hsg⟩ := HX.out wr hbe
        by_cases h1 : m < ps.length
        · obtain ⟨⟨⟨k', n', t', fs', r', ls', ps'⟩, ⟨k2, n2, t2, fs2, r2, ls2, ps2⟩⟩, hq⟩ : ∃ p, ps[m]? = some p := ⟨_, List.getElem?_eq_getElem h1⟩
          obtain ⟨b, o, fa', la', pa', fc', lc', pc', fa2, la2, pa2, fc2, lc2, pc2, rfl, hrx, hry, c0, c1, c2, c3, c4, c5, c6, c7, c8, c9, c10, c11, c12, c13⟩ := HR0.out.pairAt hq
          have hlb : b < w.heap.size := World.block_lt_of_cell? w _ c0
          replace c0 := later1 c0 hlb hbw
          replace c1 := later1 c1 hlb hbw
          replace c2 := later1 c2 hlb hbw
          replace c3 := later1 c3 hlb hbw
          replace c4 := later1 c4 hlb hbw
          replace c5 := later1 c5 hlb hbw
          replace c6 := later1 c6 hlb hbw
          replace c7 := later1 c7 hlb hbw
          replace c8 := later1 c8 hlb hbw
          replace c9 := later1 c9 hlb hbw
          replace c10 := later1 c10 hlb hbw
          replace c11 := later1 c11 hlb hbw
          replace c12 := later1 c12 hlb hbw
          replace c13 := later1 c13 hlb hbw
          have HM2 : Hid ((xs ++ [((.mk k' n' t' fs' r' ls' ps', ⟨fa', fc', la', lc', pa', pc'⟩) : V × A3), ((.mk k2 n2 t2 fs2 r2 ls2 ps2, ⟨fa2, fc2, la2, lc2, pa2, pc2⟩) : V × A3)]).map Prod.fst = ls ++ fs.map Prod.snd ++ (ps.take (m + 1)).flatMap (fun p => [p.1, p.2])) := by show _ = _; rw [List.map_append, HM.out, take_next hq, List.flatMap_append, ← List.append_assoc]; rfl
          have HXR2 : Hid (∀ p ∈ xs ++ [((.mk k' n' t' fs' r' ls' ps', ⟨fa', fc', la', lc', pa', pc'⟩) : V × A3), ((.mk k2 n2 t2 fs2 r2 ls2 ps2, ⟨fa2, fc2, la2, lc2, pa2, pc2⟩) : V × A3)], Rep S w p.1 p.2) := fun p hp => by
            rcases List.mem_append.1 hp with h | h
            · exact HXR.out p h
            · obtain rfl | rfl : p = (.mk k' n' t' fs' r' ls' ps', ⟨fa', fc', la', lc', pa', pc'⟩) ∨ p = (.mk k2 n2 t2 fs2 r2 ls2 ps2, ⟨fa2, fc2, la2, lc2, pa2, pc2⟩) := by simpa using h
              · exact hrx
              · exact hry
          obtain ⟨W1, hW1⟩ : ∃ W1, W1 = wr.alloc (.cells #[.int .i64 k', .int .u64 (n' : Int), .string (strB t'), .slice fa' fs'.length fc', .string (strB r'), .slice la' ls'.length lc', .slice pa' ps'.length pc', .int .i64 k2, .int .u64 (n2 : Int), .string (strB t2), .slice fa2 fs2.length fc2, .string (strB r2), .slice la2 ls2.length lc2, .slice pa2 ps2.length pc2] 89) := ⟨_, rfl⟩
          obtain ⟨h, hh⟩ : ∃ h, h = wr.heap.size := ⟨_, rfl⟩
          have how1 : OwnS 34 7 vC (g + 1) W1 (.slice q xs.length d) xs := by rw [hW1]; exact OwnS.alloc how _
          have hbe1 : Below (g + 1) W0 W1 := by rw [hW1]; exact hbe.alloc hsg _
          have hs1 : g + 1 ≤ W1.heap.size := by rw [hW1]; simp; omega
          have hcv : CellsAt W1 h 89 #[.int .i64 k', .int .u64 (n' : Int), .string (strB t'), .slice fa' fs'.length fc', .string (strB r'), .slice la' ls'.length lc', .slice pa' ps'.length pc', .int .i64 k2, .int .u64 (n2 : Int), .string (strB t2), .slice fa2 fs2.length fc2, .string (strB r2), .slice la2 ls2.length lc2, .slice pa2 ps2.length pc2] := by rw [hW1, hh]; exact CellsAt.new wr _ _
          have howA : OwnS 34 7 vC (g + 1) (W1.alloc (.cells #[.int .i64 k', .int .u64 (n' : Int), .string (strB t'), .slice fa' fs'.length fc', .string (strB r'), .slice la' ls'.length lc', .slice pa' ps'.length pc', .int .i64 k2, .int .u64 (n2 : Int), .string (strB t2), .slice fa2 fs2.length fc2, .string (strB r2), .slice la2 ls2.length lc2, .slice pa2 ps2.length pc2] 34)) (.slice q xs.length d) xs := OwnS.alloc how1 _
          have hbeA : Below (g + 1) W0 (W1.alloc (.cells #[.int .i64 k', .int .u64 (n' : Int), .string (strB t'), .slice fa' fs'.length fc', .string (strB r'), .slice la' ls'.length lc', .slice pa' ps'.length pc', .int .i64 k2, .int .u64 (n2 : Int), .string (strB t2), .slice fa2 fs2.length fc2, .string (strB r2), .slice la2 ls2.length lc2, .slice pa2 ps2.length pc2] 34)) := hbe1.alloc hs1 _
          have hsA : g + 1 ≤ (W1.alloc (.cells #[.int .i64 k', .int .u64 (n' : Int), .string (strB t'), .slice fa' fs'.length fc', .string (strB r'), .slice la' ls'.length lc', .slice pa' ps'.length pc', .int .i64 k2, .int .u64 (n2 : Int), .string (strB t2), .slice fa2 fs2.length fc2, .string (strB r2), .slice la2 ls2.length lc2, .slice pa2 ps2.length pc2] 34)).heap.size := by simp; omega
          have hrowT : RowS vC (W1.alloc (.cells #[.int .i64 k', .int .u64 (n' : Int), .string (strB t'), .slice fa' fs'.length fc', .string (strB r'), .slice la' ls'.length lc', .slice pa' ps'.length pc', .int .i64 k2, .int .u64 (n2 : Int), .string (strB t2), .slice fa2 fs2.length fc2, .string (strB r2), .slice la2 ls2.length lc2, .slice pa2 ps2.length pc2] 34)) (.slice (some ⟨W1.heap.size, 0, none⟩) 2 2) [((.mk k' n' t' fs' r' ls' ps', ⟨fa', fc', la', lc', pa', pc'⟩) : V × A3), ((.mk k2 n2 t2 fs2 r2 ls2 ps2, ⟨fa2, fc2, la2, lc2, pa2, pc2⟩) : V × A3)] := rowS_two (CellsAt.new W1 _ _) rfl
          have hx6 : xs.length + [((.mk k' n' t' fs' r' ls' ps', ⟨fa', fc', la', lc', pa', pc'⟩) : V × A3), ((.mk k2 n2 t2 fs2 r2 ls2 ps2, ⟨fa2, fc2, la2, lc2, pa2, pc2⟩) : V × A3)].length ≤ 100000000 := by simp; omega
          have y0 := hcv.cell 0 (v := .int .i64 k') rfl
          have y1 := hcv.cell 1 (v := .int .u64 (n' : Int)) rfl
          have y2 := hcv.cell 2 (v := .string (strB t')) rfl
          have y3 := hcv.cell 3 (v := .slice fa' fs'.length fc') rfl
          have y4 := hcv.cell 4 (v := .string (strB r')) rfl
          have y5 := hcv.cell 5 (v := .slice la' ls'.length lc') rfl
          have y6 := hcv.cell 6 (v := .slice pa' ps'.length pc') rfl
          have y7 := hcv.cell 7 (v := .int .i64 k2) rfl
          have y8 := hcv.cell 8 (v := .int .u64 (n2 : Int)) rfl
          have y9 := hcv.cell 9 (v := .string (strB t2)) rfl
          have y10 := hcv.cell 10 (v := .slice fa2 fs2.length fc2) rfl
          have y11 := hcv.cell 11 (v := .string (strB r2)) rfl
          have y12 := hcv.cell 12 (v := .slice la2 ls2.length lc2) rfl
          have y13 := hcv.cell 13 (v := .slice pa2 ps2.length pc2) rfl
          have HW1 := Lib.hid hW1
          have HH := Lib.hid hh
          have HXL := Lib.hid hxl
          clear hxl hrx hry hq hlb x3 x6 hbw how hbe HM HXR hW1 hh hcv how1 hbe1 hs1
          go_upto_region 10 with fail
          have hW1 := HW1.out
          have hh := HH.out
          rw [← hW1, ← hh]
          clear hW1 hh HW1 HH c0 c1 c2 c3 c4 c5 c6 c7 c8 c9 c10 c11 c12 c13
          go_wp2_with (at_builtin; go_must (refine wpList_appendS vC_len vC_one Try.underlying31 infoRV rfl (by decide) howA hrowT hx6 hsA rfl _ _ rfl (by rfl) (by rfl) ?_))
          intro v2 w2 ho2 hg2 _ _
          have hbe2 := OwnS.below howA hbeA hg2 hsA
          obtain ⟨q2, d2, rfl, -, -⟩ := ho2.row.shape vC_len
          clear howA hbeA hsA hg2 hrowT y0 y1 y2 y3 y4 y5 y6 y7 y8 y9 y10 y11 y12 y13
          go_wp2_with fail
          go_roundw
          case rel => exact ⟨m + 1, q2, d2, _, h1, by go_num, rfl, HM2, by rw [List.length_append, HXL.out]; rfl, HXR2, ho2, hbe2⟩
          case measure => simp only [intOf]; omega
        · obtain rfl : m = ps.length := by omega
          have HM3 : Hid (xs.map Prod.fst = kidsV fs ls ps) := by have := HM.out; rwa [List.take_length] at this
          have HOW : Hid (OwnS 34 7 vC w.heap.size wr (.slice q xs.length d) xs) := OwnS.mono how (by have := HG.out; omega)
          have HBW := Lib.hid hbw
          clear HM h1 how hbe hbw x3 x6
          go_wp2_with fail
          go_ret
          exact ⟨q, d, xs, rfl, HM3.out, HOW.out, HXR.out, HBW.out⟩
end
end Go.Proofs.Ytcnjlbbckdmifaa
