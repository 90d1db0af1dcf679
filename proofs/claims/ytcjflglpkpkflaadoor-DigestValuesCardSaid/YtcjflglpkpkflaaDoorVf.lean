/- The law's great, Great. -/
import Derived.Test.YtcjflglpkpkflaaDoorVc
import Derived.Deep.CutBlock
import Derived.Deep.DeepCutAuto
namespace Go.Proofs.YtcjflglpkpkflaaDoor
open Go Go.RowKit
set_option linter.unusedVariables false
theorem drop_fields {α : Type} {l : List α} {i : Nat} {x : α} (h : l[i]? = some x) : l.drop i = x :: l.drop (i + 1) := by
  obtain ⟨hi, rfl⟩ := List.getElem?_eq_some_iff.1 h
  exact List.drop_eq_getElem_cons hi
theorem greatF_cons (n : Int) (v : V) (r : List (Int × V)) (left deep : Int) : greatF ((n, v) :: r) left deep = greatF r (if 0 ≤ left then greatV v left deep else left) deep := by rw [greatF]
theorem greatL_cons (v : V) (r : List V) (left deep : Int) : greatL (v :: r) left deep = greatL r (if 0 ≤ left then greatV v left deep else left) deep := by rw [greatL]
theorem greatP_cons (a b : V) (r : List (V × V)) (left deep : Int) : greatP ((a, b) :: r) left deep = greatP r (if 0 ≤ (if 0 ≤ left then greatV a left deep else left) then greatV b (if 0 ≤ left then greatV a left deep else left) deep else (if 0 ≤ left then greatV a left deep else left)) deep := by rw [greatP]
theorem greatF_neg : ∀ (l : List (Int × V)) (left deep : Int), left < 0 → greatF l left deep = left
  | [], left, deep, _ => by rw [greatF]
  | (n, v) :: r, left, deep, h => by rw [greatF, if_neg (by omega), greatF_neg r left deep h]
theorem greatL_neg : ∀ (l : List V) (left deep : Int), left < 0 → greatL l left deep = left
  | [], left, deep, _ => by rw [greatL]
  | v :: r, left, deep, h => by rw [greatL, if_neg (by omega), greatL_neg r left deep h]
theorem greatP_neg : ∀ (l : List (V × V)) (left deep : Int), left < 0 → greatP l left deep = left
  | [], left, deep, _ => by rw [greatP]
  | (a, b) :: r, left, deep, h => by rw [greatP, if_neg (by omega), if_neg (by omega), greatP_neg r left deep h]
/-- the explicit seven cells of a value -/
def GreatC (v : V) : Prop := ∀ (a : A3) (S : Nat → Prop) (w : World) (left deep : Int), Rep S w v a → 0 ≤ left → left ≤ 1000 → 0 ≤ deep → deep ≤ 1000 →
    Calls Tryd.prog 11 #[vG (v, a), .int .i64 left, .int .i64 deep] w fun e w' => e = .returned (.int .i64 (greatV v left deep)) ∧ Below w.heap.size w w'
theorem vG_lit (k' : Int) (n' : Nat) (t' r' : List UInt8) (fs' : List (Int × V)) (ls' : List V) (ps' : List (V × V)) (fa' la' pa' : Option Addr) (fc' lc' pc' : Nat) : vG (.mk k' n' t' fs' r' ls' ps', ⟨fa', fc', la', lc', pa', pc'⟩) = .agg #[.int .i64 k', .int .u64 (n' : Int), .string (strB t'), .slice fa' fs'.length fc', .string (strB r'), .slice la' ls'.length lc', .slice pa' ps'.length pc'] := rfl
theorem GreatC.lit {k' : Int} {n' : Nat} {t' r' : List UInt8} {fs' : List (Int × V)} {ls' : List V} {ps' : List (V × V)} (h : GreatC (.mk k' n' t' fs' r' ls' ps')) {S : Nat → Prop} {W : World} {fa' la' pa' : Option Addr} {fc' lc' pc' : Nat}
    (hr : Rep S W (.mk k' n' t' fs' r' ls' ps') ⟨fa', fc', la', lc', pa', pc'⟩) {L D : Int} (h0 : 0 ≤ L) (h1 : L ≤ 1000) (h2 : 0 ≤ D) (h3 : D ≤ 1000) :
    Calls Tryd.prog 11 #[.agg #[.int .i64 k', .int .u64 (n' : Int), .string (strB t'), .slice fa' fs'.length fc', .string (strB r'), .slice la' ls'.length lc', .slice pa' ps'.length pc'], .int .i64 L, .int .i64 D] W
      fun e w' => e = .returned (.int .i64 (greatV (.mk k' n' t' fs' r' ls' ps') L D)) ∧ Below W.heap.size W w' := by
  have := h _ S W L D hr h0 h1 h2 h3
  rw [vG_lit] at this
  exact this
/-- a block of so many cells, later -/
theorem later1 {w W : World} {g : Nat} {p : Nat} {u : Value} (h : w.cell? ⟨g, p, none⟩ = some u) (hg : g < w.heap.size) (hb : Below w.heap.size w W) : W.cell? ⟨g, p, none⟩ = some u := (hb.cell (p := ⟨g, p, none⟩) hg).trans h
set_option maxRecDepth 100000 in
set_option maxHeartbeats 8000000 in
theorem great_any : ∀ (v : V), GreatC v := by
  intro v
  induction v using V.ind with
  | h v ihf ihl ihp =>
    intro a S w left deep hr hl0 hl1 hd0 hd1
    obtain ⟨k, n, t, fs, r, ls, ps⟩ := v
    obtain ⟨fa, fc, la, lc, pa, pc⟩ := a
    change Calls _ _ #[.agg #[.int .i64 k, .int .u64 (n : Int), .string (strB t), .slice fa fs.length fc, .string (strB r), .slice la ls.length lc, .slice pa ps.length pc], _, _] _ _
    have e1 : (strB t).size = t.length := strB_size t
    have e2 : (strB r).size = r.length := strB_size r
    obtain ⟨hk, hn, hfl, hll, hpl⟩ := hr.bds
    unfold maxLen at hfl hll hpl
    have HR : Hid (∀ W, Below w.heap.size w W → Rep S W (.mk k n t fs r ls ps) ⟨fa, fc, la, lc, pa, pc⟩) := fun W hb => hr.stays hb
    have IHF : Hid (∀ p ∈ fs, GreatC p.2) := ihf
    have IHL : Hid (∀ x ∈ ls, GreatC x) := ihl
    have IHP : Hid (∀ p ∈ ps, GreatC p.1 ∧ GreatC p.2) := ihp
    clear ihf ihl ihp hr
    by_cases hd : deep = 0
    · rw [show greatV (.mk k n t fs r ls ps) left deep = -1 by rw [greatV, if_pos (.inl hd)]]
      subst hd
      go_enter Tryd.func11, Tryd.ntmps11
      go_wp2_with fail
      go_ret
      exact ⟨rfl, (Below.refl _ _).alloc (Nat.le_refl _) _⟩
    · have hd' : (deep == 0) = false := by simpa using hd
      by_cases ht : 400 < t.length
      · rw [show greatV (.mk k n t fs r ls ps) left deep = -1 by rw [greatV, if_pos (.inr (.inl ht))]]
        go_enter Tryd.func11, Tryd.ntmps11
        go_wp2_with fail
        go_ret
        exact ⟨rfl, (Below.refl _ _).alloc (Nat.le_refl _) _⟩
      · by_cases hrr : 400 < r.length
        · rw [show greatV (.mk k n t fs r ls ps) left deep = -1 by rw [greatV, if_pos (.inr (.inr hrr))]]
          go_enter Tryd.func11, Tryd.ntmps11
          go_wp2_with fail
          go_ret
          exact ⟨rfl, (Below.refl _ _).alloc (Nat.le_refl _) _⟩
        · have HG : Hid (greatV (.mk k n t fs r ls ps) left deep = greatP ps (greatL ls (greatF fs (left - 1) (deep - 1)) (deep - 1)) (deep - 1)) := by show _ = _; rw [greatV, if_neg (by omega)]
          have HB0 : Hid (∀ W, Below (w.heap.size + 1) (w.alloc (.cells #[.int .i64 k, .int .u64 (n : Int), .string (strB t), .slice fa fs.length fc, .string (strB r), .slice la ls.length lc, .slice pa ps.length pc] 27)) W →
              W.cell? ⟨w.heap.size, 5, none⟩ = some (.slice la ls.length lc) ∧ W.cell? ⟨w.heap.size, 6, none⟩ = some (.slice pa ps.length pc) ∧ w.heap.size < W.heap.size ∧ Below w.heap.size w W) := fun W hb => by
            refine ⟨(hb.cell (p := ⟨w.heap.size, 5, none⟩) (by simp)).trans (by go_simp), (hb.cell (p := ⟨w.heap.size, 6, none⟩) (by simp)).trans (by go_simp), ?_, ?_⟩
            · have := hb.size; simp at this; omega
            · exact ((Below.refl _ _).alloc (Nat.le_refl _) _).trans (hb.mono (by omega))
          go_enter Tryd.func11, Tryd.ntmps11
          go_wp2_with fail
          generalize w.alloc (.cells #[.int .i64 k, .int .u64 (n : Int), .string (strB t), .slice fa fs.length fc, .string (strB r), .slice la ls.length lc, .slice pa ps.length pc] 27) = w1 at HB0 ⊢
          have g1 := greatF_bd fs (left - 1) (deep - 1) (by omega)
          go_loopw [1, 32] (fun x i wr => ∃ (m : Nat) (L : Int), m ≤ fs.length ∧ i = .int .i64 m ∧ x = .int .i64 L ∧ -1 ≤ L ∧ L ≤ left ∧ Hid (greatF (fs.drop m) L (deep - 1) = greatF fs (left - 1) (deep - 1)) ∧ Below (w.heap.size + 1) w1 wr) (fun _ i _ => fs.length - (intOf i).toNat)
          case atStart => exact ⟨0, left - 1, Nat.zero_le _, rfl, rfl, by omega, by omega, rfl, Below.refl _ _⟩
          case round =>
            obtain ⟨m, L, hm, rfl, rfl, hL0, hL1, HL, hbe⟩ := hrel
            have hsz := (HB0.out wr hbe).2.2.1
            by_cases h1 : m < fs.length
            · obtain ⟨⟨num, ⟨k', n', t', fs', r', ls', ps'⟩⟩, hq⟩ : ∃ p, fs[m]? = some p := ⟨_, List.getElem?_eq_getElem h1⟩
              obtain ⟨b, o, fa', la', pa', fc', lc', pc', rfl, hnum, hrx, c0, c1, c2, c3, c4, c5, c6, c7⟩ := (HR.out wr (HB0.out wr hbe).2.2.2).fieldAt hq
              have HL2 : Hid (greatF (fs.drop (m + 1)) (if 0 ≤ L then greatV (.mk k' n' t' fs' r' ls' ps') L (deep - 1) else L) (deep - 1) = greatF fs (left - 1) (deep - 1)) := by show _ = _; rw [← HL.out, drop_fields hq, greatF_cons]
              by_cases h0 : 0 ≤ L
              · have HC : Hid (∀ W, Below wr.heap.size wr W → Calls Tryd.prog 11 #[.agg #[.int .i64 k', .int .u64 (n' : Int), .string (strB t'), .slice fa' fs'.length fc', .string (strB r'), .slice la' ls'.length lc', .slice pa' ps'.length pc'], .int .i64 L, .int .i64 (deep - 1)] W
                    fun e w' => e = .returned (.int .i64 (greatV (.mk k' n' t' fs' r' ls' ps') L (deep - 1))) ∧ Below W.heap.size W w') := fun W hb => GreatC.lit (IHF.out _ (List.mem_of_getElem? hq)) (hrx.stays hb) h0 (by omega) (by omega) (by omega)
                have hbd := greatV_bd (.mk k' n' t' fs' r' ls' ps') L (deep - 1) h0
                have HL3 : Hid (greatF (fs.drop (m + 1)) (greatV (.mk k' n' t' fs' r' ls' ps') L (deep - 1)) (deep - 1) = greatF fs (left - 1) (deep - 1)) := by have := HL2.out; rw [if_pos h0] at this; exact this
                generalize greatV (.mk k' n' t' fs' r' ls' ps') L (deep - 1) = G at HC hbd HL3
                clear HL HL2 hrx hq
                go_wp2_with fail
                refine (HC.out _ ((Below.refl _ _).alloc (Nat.le_refl _) _)).mono ?_
                rintro e w2 ⟨rfl, hb2⟩
                have hbe2 : Below (w.heap.size + 1) w1 w2 := (hbe.alloc (by omega) _).trans (hb2.mono (by simp; omega))
                clear HC hb2 c0 c1 c2 c3 c4 c5 c6 c7
                go_wp2_with fail
                go_roundw
                case rel => exact ⟨m + 1, G, h1, by go_num, rfl, hbd.1, by omega, HL3, hbe2⟩
                case measure => simp only [intOf]; omega
              · have HL3 : Hid (greatF (fs.drop (m + 1)) L (deep - 1) = greatF fs (left - 1) (deep - 1)) := by have := HL2.out; rw [if_neg h0] at this; exact this
                have hbe2 := hbe.alloc (o := .cells #[.int .i64 num, .int .i64 k', .int .u64 (n' : Int), .string (strB t'), .slice fa' fs'.length fc', .string (strB r'), .slice la' ls'.length lc', .slice pa' ps'.length pc'] 51) (by omega)
                clear HL HL2 hrx hq
                go_wp2_with fail
                go_roundw
                case rel => exact ⟨m + 1, L, h1, by go_num, rfl, hL0, hL1, HL3, hbe2⟩
                case measure => simp only [intOf]; omega
            · have HL2 : Hid (L = greatF fs (left - 1) (deep - 1)) := by
                have := HL.out
                rw [List.drop_of_length_le (by omega), greatF] at this
                exact this
              obtain ⟨d5, d6, _, -⟩ := HB0.out wr hbe
              clear HL
              go_wp2_with fail
              obtain ⟨F, hF⟩ : ∃ F, F = greatF fs (left - 1) (deep - 1) := ⟨_, rfl⟩
              rw [← hF] at HL2 HG g1
              obtain rfl : L = F := HL2.out
              clear HL2 hF hL0 hL1 hm
              obtain ⟨wa, rfl⟩ : ∃ wa : World, wa = wr := ⟨_, rfl⟩
              have g2 := greatL_bd ls L (deep - 1) g1.1
              go_loopw [1, 48] (fun x i wr => ∃ (m : Nat) (L' : Int), m ≤ ls.length ∧ i = .int .i64 m ∧ x = .int .i64 L' ∧ -1 ≤ L' ∧ L' ≤ left ∧ Hid (greatL (ls.drop m) L' (deep - 1) = greatL ls L (deep - 1)) ∧ Below (w.heap.size + 1) w1 wr) (fun _ i _ => ls.length - (intOf i).toNat)
              case atStart => exact ⟨0, L, Nat.zero_le _, rfl, rfl, by omega, by omega, rfl, hbe⟩
              case round =>
                clear hbe hsz d5 d6 h1
                obtain ⟨m, L', hm, rfl, rfl, hL0, hL1, HL, hbe⟩ := hrel
                have hsz := (HB0.out wr hbe).2.2.1
                by_cases h1 : m < ls.length
                · obtain ⟨⟨k', n', t', fs', r', ls', ps'⟩, hq⟩ : ∃ p, ls[m]? = some p := ⟨_, List.getElem?_eq_getElem h1⟩
                  obtain ⟨b, o, fa', la', pa', fc', lc', pc', rfl, hrx, c0, c1, c2, c3, c4, c5, c6⟩ := (HR.out wr (HB0.out wr hbe).2.2.2).partAt hq
                  have HL2 : Hid (greatL (ls.drop (m + 1)) (if 0 ≤ L' then greatV (.mk k' n' t' fs' r' ls' ps') L' (deep - 1) else L') (deep - 1) = greatL ls L (deep - 1)) := by show _ = _; rw [← HL.out, drop_fields hq, greatL_cons]
                  by_cases h0 : 0 ≤ L'
                  · have HC : Hid (∀ W, Below wr.heap.size wr W → Calls Tryd.prog 11 #[.agg #[.int .i64 k', .int .u64 (n' : Int), .string (strB t'), .slice fa' fs'.length fc', .string (strB r'), .slice la' ls'.length lc', .slice pa' ps'.length pc'], .int .i64 L', .int .i64 (deep - 1)] W
                        fun e w' => e = .returned (.int .i64 (greatV (.mk k' n' t' fs' r' ls' ps') L' (deep - 1))) ∧ Below W.heap.size W w') := fun W hb => GreatC.lit (IHL.out _ (List.mem_of_getElem? hq)) (hrx.stays hb) h0 (by omega) (by omega) (by omega)
                    have hbd := greatV_bd (.mk k' n' t' fs' r' ls' ps') L' (deep - 1) h0
                    have HL3 : Hid (greatL (ls.drop (m + 1)) (greatV (.mk k' n' t' fs' r' ls' ps') L' (deep - 1)) (deep - 1) = greatL ls L (deep - 1)) := by have := HL2.out; rw [if_pos h0] at this; exact this
                    generalize greatV (.mk k' n' t' fs' r' ls' ps') L' (deep - 1) = G at HC hbd HL3
                    clear HL HL2 hrx hq
                    go_wp2_with fail
                    refine (HC.out _ ((Below.refl _ _).alloc (Nat.le_refl _) _)).mono ?_
                    rintro e w2 ⟨rfl, hb2⟩
                    have hbe2 : Below (w.heap.size + 1) w1 w2 := (hbe.alloc (by omega) _).trans (hb2.mono (by simp; omega))
                    clear HC hb2 c0 c1 c2 c3 c4 c5 c6
                    go_wp2_with fail
                    go_roundw
                    case rel => exact ⟨m + 1, G, h1, by go_num, rfl, hbd.1, by omega, HL3, hbe2⟩
                    case measure => simp only [intOf]; omega
                  · have HL3 : Hid (greatL (ls.drop (m + 1)) L' (deep - 1) = greatL ls L (deep - 1)) := by have := HL2.out; rw [if_neg h0] at this; exact this
                    have hbe2 := hbe.alloc (o := .cells #[.int .i64 k', .int .u64 (n' : Int), .string (strB t'), .slice fa' fs'.length fc', .string (strB r'), .slice la' ls'.length lc', .slice pa' ps'.length pc'] 27) (by omega)
                    clear HL HL2 hrx hq
                    go_wp2_with fail
                    go_roundw
                    case rel => exact ⟨m + 1, L', h1, by go_num, rfl, hL0, hL1, HL3, hbe2⟩
                    case measure => simp only [intOf]; omega
                · have HL2 : Hid (L' = greatL ls L (deep - 1)) := by
                    have := HL.out
                    rw [List.drop_of_length_le (by omega), greatL] at this
                    exact this
                  obtain ⟨d5, d6, _, -⟩ := HB0.out wr hbe
                  clear HL
                  go_wp2_with fail
                  obtain ⟨F, hF⟩ : ∃ F, F = greatL ls L (deep - 1) := ⟨_, rfl⟩
                  rw [← hF] at HL2 HG g2
                  obtain rfl : L' = F := HL2.out
                  clear HL2 hF hL0 hL1 hm
                  obtain ⟨wb, rfl⟩ : ∃ wb : World, wb = wr := ⟨_, rfl⟩
                  have g3 := greatP_bd ps L' (deep - 1) g2.1
                  go_loopw [1, 63] (fun x i wr => ∃ (m : Nat) (L2 : Int), m ≤ ps.length ∧ i = .int .i64 m ∧ x = .int .i64 L2 ∧ -1 ≤ L2 ∧ L2 ≤ left ∧ Hid (greatP (ps.drop m) L2 (deep - 1) = greatP ps L' (deep - 1)) ∧ Below (w.heap.size + 1) w1 wr) (fun _ i _ => ps.length - (intOf i).toNat)
                  case atStart => exact ⟨0, L', Nat.zero_le _, rfl, rfl, by omega, by omega, rfl, hbe⟩
                  case round =>
                    clear hbe hsz d5 d6 h1
                    obtain ⟨m, L2, hm, rfl, rfl, hL0, hL1, HL, hbe⟩ := hrel
                    have hsz := (HB0.out wr hbe).2.2.1
                    by_cases h1 : m < ps.length
                    · obtain ⟨⟨⟨k', n', t', fs', r', ls', ps'⟩, ⟨k2, n2, t2, fs2, r2, ls2, ps2⟩⟩, hq⟩ : ∃ p, ps[m]? = some p := ⟨_, List.getElem?_eq_getElem h1⟩
                      obtain ⟨b, o, fa', la', pa', fc', lc', pc', fa2, la2, pa2, fc2, lc2, pc2, rfl, hrx, hry, c0, c1, c2, c3, c4, c5, c6, c7, c8, c9, c10, c11, c12, c13⟩ := (HR.out wr (HB0.out wr hbe).2.2.2).pairAt hq
                      have HL2 : Hid (greatP (ps.drop (m + 1)) (if 0 ≤ (if 0 ≤ L2 then greatV (.mk k' n' t' fs' r' ls' ps') L2 (deep - 1) else L2) then greatV (.mk k2 n2 t2 fs2 r2 ls2 ps2) (if 0 ≤ L2 then greatV (.mk k' n' t' fs' r' ls' ps') L2 (deep - 1) else L2) (deep - 1) else (if 0 ≤ L2 then greatV (.mk k' n' t' fs' r' ls' ps') L2 (deep - 1) else L2)) (deep - 1) = greatP ps L' (deep - 1)) := by show _ = _; rw [← HL.out, drop_fields hq, greatP_cons]
                      have hbeA := hbe.alloc (o := .cells #[.int .i64 k', .int .u64 (n' : Int), .string (strB t'), .slice fa' fs'.length fc', .string (strB r'), .slice la' ls'.length lc', .slice pa' ps'.length pc', .int .i64 k2, .int .u64 (n2 : Int), .string (strB t2), .slice fa2 fs2.length fc2, .string (strB r2), .slice la2 ls2.length lc2, .slice pa2 ps2.length pc2] 56) (by omega)
                      by_cases h0 : 0 ≤ L2
                      · have HC : Hid (∀ W, Below wr.heap.size wr W → Calls Tryd.prog 11 #[.agg #[.int .i64 k', .int .u64 (n' : Int), .string (strB t'), .slice fa' fs'.length fc', .string (strB r'), .slice la' ls'.length lc', .slice pa' ps'.length pc'], .int .i64 L2, .int .i64 (deep - 1)] W
                            fun e w' => e = .returned (.int .i64 (greatV (.mk k' n' t' fs' r' ls' ps') L2 (deep - 1))) ∧ Below W.heap.size W w') := fun W hb => GreatC.lit (IHP.out _ (List.mem_of_getElem? hq)).1 (hrx.stays hb) h0 (by omega) (by omega) (by omega)
                        have hbd := greatV_bd (.mk k' n' t' fs' r' ls' ps') L2 (deep - 1) h0
                        rw [if_pos h0] at HL2
                        generalize greatV (.mk k' n' t' fs' r' ls' ps') L2 (deep - 1) = G at HC hbd HL2
                        by_cases h2 : 0 ≤ G
                        · have HD : Hid (∀ W, Below wr.heap.size wr W → Calls Tryd.prog 11 #[.agg #[.int .i64 k2, .int .u64 (n2 : Int), .string (strB t2), .slice fa2 fs2.length fc2, .string (strB r2), .slice la2 ls2.length lc2, .slice pa2 ps2.length pc2], .int .i64 G, .int .i64 (deep - 1)] W
                              fun e w' => e = .returned (.int .i64 (greatV (.mk k2 n2 t2 fs2 r2 ls2 ps2) G (deep - 1))) ∧ Below W.heap.size W w') := fun W hb => GreatC.lit (IHP.out _ (List.mem_of_getElem? hq)).2 (hry.stays hb) h2 (by omega) (by omega) (by omega)
                          have hbd2 := greatV_bd (.mk k2 n2 t2 fs2 r2 ls2 ps2) G (deep - 1) h2
                          rw [if_pos h2] at HL2
                          generalize greatV (.mk k2 n2 t2 fs2 r2 ls2 ps2) G (deep - 1) = G2 at HD hbd2 HL2
                          clear HL hrx hry hq
                          go_wp2_with fail
                          refine (HC.out _ ((Below.refl _ _).alloc (Nat.le_refl _) _)).mono ?_
                          rintro e w2 ⟨rfl, hb2⟩
                          have hbe2 : Below (w.heap.size + 1) w1 w2 := hbeA.trans (hb2.mono (by simp; omega))
                          have hb3 : Below wr.heap.size wr w2 := ((Below.refl _ _).alloc (Nat.le_refl _) _).trans (hb2.mono (by simp))
                          have d7 := later1 (w := wr.alloc (.cells #[.int .i64 k', .int .u64 (n' : Int), .string (strB t'), .slice fa' fs'.length fc', .string (strB r'), .slice la' ls'.length lc', .slice pa' ps'.length pc', .int .i64 k2, .int .u64 (n2 : Int), .string (strB t2), .slice fa2 fs2.length fc2, .string (strB r2), .slice la2 ls2.length lc2, .slice pa2 ps2.length pc2] 56)) (g := wr.heap.size) (p := 7) (u := .int .i64 k2) (by go_simp) (by simp) hb2
                          have d8 := later1 (w := wr.alloc (.cells #[.int .i64 k', .int .u64 (n' : Int), .string (strB t'), .slice fa' fs'.length fc', .string (strB r'), .slice la' ls'.length lc', .slice pa' ps'.length pc', .int .i64 k2, .int .u64 (n2 : Int), .string (strB t2), .slice fa2 fs2.length fc2, .string (strB r2), .slice la2 ls2.length lc2, .slice pa2 ps2.length pc2] 56)) (g := wr.heap.size) (p := 8) (u := .int .u64 (n2 : Int)) (by go_simp) (by simp) hb2
                          have d9 := later1 (w := wr.alloc (.cells #[.int .i64 k', .int .u64 (n' : Int), .string (strB t'), .slice fa' fs'.length fc', .string (strB r'), .slice la' ls'.length lc', .slice pa' ps'.length pc', .int .i64 k2, .int .u64 (n2 : Int), .string (strB t2), .slice fa2 fs2.length fc2, .string (strB r2), .slice la2 ls2.length lc2, .slice pa2 ps2.length pc2] 56)) (g := wr.heap.size) (p := 9) (u := .string (strB t2)) (by go_simp) (by simp) hb2
                          have d10 := later1 (w := wr.alloc (.cells #[.int .i64 k', .int .u64 (n' : Int), .string (strB t'), .slice fa' fs'.length fc', .string (strB r'), .slice la' ls'.length lc', .slice pa' ps'.length pc', .int .i64 k2, .int .u64 (n2 : Int), .string (strB t2), .slice fa2 fs2.length fc2, .string (strB r2), .slice la2 ls2.length lc2, .slice pa2 ps2.length pc2] 56)) (g := wr.heap.size) (p := 10) (u := .slice fa2 fs2.length fc2) (by go_simp) (by simp) hb2
                          have d11 := later1 (w := wr.alloc (.cells #[.int .i64 k', .int .u64 (n' : Int), .string (strB t'), .slice fa' fs'.length fc', .string (strB r'), .slice la' ls'.length lc', .slice pa' ps'.length pc', .int .i64 k2, .int .u64 (n2 : Int), .string (strB t2), .slice fa2 fs2.length fc2, .string (strB r2), .slice la2 ls2.length lc2, .slice pa2 ps2.length pc2] 56)) (g := wr.heap.size) (p := 11) (u := .string (strB r2)) (by go_simp) (by simp) hb2
                          have d12 := later1 (w := wr.alloc (.cells #[.int .i64 k', .int .u64 (n' : Int), .string (strB t'), .slice fa' fs'.length fc', .string (strB r'), .slice la' ls'.length lc', .slice pa' ps'.length pc', .int .i64 k2, .int .u64 (n2 : Int), .string (strB t2), .slice fa2 fs2.length fc2, .string (strB r2), .slice la2 ls2.length lc2, .slice pa2 ps2.length pc2] 56)) (g := wr.heap.size) (p := 12) (u := .slice la2 ls2.length lc2) (by go_simp) (by simp) hb2
                          have d13 := later1 (w := wr.alloc (.cells #[.int .i64 k', .int .u64 (n' : Int), .string (strB t'), .slice fa' fs'.length fc', .string (strB r'), .slice la' ls'.length lc', .slice pa' ps'.length pc', .int .i64 k2, .int .u64 (n2 : Int), .string (strB t2), .slice fa2 fs2.length fc2, .string (strB r2), .slice la2 ls2.length lc2, .slice pa2 ps2.length pc2] 56)) (g := wr.heap.size) (p := 13) (u := .slice pa2 ps2.length pc2) (by go_simp) (by simp) hb2
                          have hsz2 := hbe2.size
                          have hsz3 := hb3.size
                          clear HC hb2 c0 c1 c2 c3 c4 c5 c6 c7 c8 c9 c10 c11 c12 c13
                          go_wp2_with fail
                          refine (HD.out _ hb3).mono ?_
                          rintro e w3 ⟨rfl, hb4⟩
                          have hbe3 : Below (w.heap.size + 1) w1 w3 := hbe2.trans (hb4.mono (by omega))
                          clear HD hb4 d7 d8 d9 d10 d11 d12 d13
                          go_wp2_with fail
                          go_roundw
                          case rel => exact ⟨m + 1, G2, h1, by go_num, rfl, hbd2.1, by omega, HL2, hbe3⟩
                          case measure => simp only [intOf]; omega
                        · rw [if_neg h2] at HL2
                          clear HL hrx hry hq
                          go_wp2_with fail
                          refine (HC.out _ ((Below.refl _ _).alloc (Nat.le_refl _) _)).mono ?_
                          rintro e w2 ⟨rfl, hb2⟩
                          have hbe2 : Below (w.heap.size + 1) w1 w2 := hbeA.trans (hb2.mono (by simp; omega))
                          clear HC hb2 c0 c1 c2 c3 c4 c5 c6 c7 c8 c9 c10 c11 c12 c13
                          go_wp2_with fail
                          go_roundw
                          case rel => exact ⟨m + 1, G, h1, by go_num, rfl, hbd.1, by omega, HL2, hbe2⟩
                          case measure => simp only [intOf]; omega
                      · rw [if_neg h0, if_neg h0] at HL2
                        clear HL hrx hry hq
                        go_wp2_with fail
                        go_roundw
                        case rel => exact ⟨m + 1, L2, h1, by go_num, rfl, hL0, hL1, HL2, hbeA⟩
                        case measure => simp only [intOf]; omega
                    · have HL2 : Hid (L2 = greatV (.mk k n t fs r ls ps) left deep) := by
                        have := HL.out
                        rw [List.drop_of_length_le (by omega), greatP] at this
                        exact this.trans HG.out.symm
                      have HBE : Hid (Below w.heap.size w wr) := (HB0.out wr hbe).2.2.2
                      clear HL
                      go_wp2_with fail
                      go_ret
                      exact ⟨congrArg (fun z => Ending.returned (Value.int .i64 z)) HL2.out, HBE.out⟩
theorem Great_any {k : Int} {n : Nat} {t r : List UInt8} {fs : List (Int × V)} {ls : List V} {ps : List (V × V)} {S : Nat → Prop} {w : World} {fa la pa : Option Addr} {fc lc pc : Nat} {most : Int} (h0 : 0 ≤ most) (h1 : most ≤ 1000)
    (hr : Rep S w (.mk k n t fs r ls ps) ⟨fa, fc, la, lc, pa, pc⟩) :
    Calls Tryd.prog 5 #[.agg #[.int .i64 k, .int .u64 (n : Int), .string (strB t), .slice fa fs.length fc, .string (strB r), .slice la ls.length lc, .slice pa ps.length pc], .int .i64 most] w
      fun e w' => e = .returned (.bool (decide (greatV (.mk k n t fs r ls ps) most 30 < 0))) ∧ Below w.heap.size w w' := by
  have HC : Hid (∀ W, Below w.heap.size w W → _) := fun W hb => GreatC.lit (great_any (.mk k n t fs r ls ps)) (hr.stays hb) h0 h1 (D := 30) (by omega) (by omega)
  clear hr
  go_enter Tryd.func5, Tryd.ntmps5
  go_wp2_with fail
  refine (HC.out _ ((Below.refl _ _).alloc (Nat.le_refl _) _)).mono ?_
  rintro e w2 ⟨rfl, hb2⟩
  have hb3 : Below w.heap.size w w2 := ((Below.refl _ _).alloc (Nat.le_refl _) _).trans (hb2.mono (by simp))
  clear HC hb2
  go_wp2_with fail
  go_ret
  exact ⟨rfl, hb3⟩
end Go.Proofs.YtcjflglpkpkflaaDoor
