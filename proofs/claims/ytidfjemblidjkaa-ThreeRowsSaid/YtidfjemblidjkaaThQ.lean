/- The walk of the reference's Rows. -/
import Derived.Test.YtidfjemblidjkaaThO
import Derived.Test.YtidfjemblidjkaaThP
import Derived.Test.YtidfjemblidjkaaSameZ
import Derived.Test.YtidfjemblidjkaaSlc
namespace Go.Proofs.Ytidfjemblidjkaa
open Go Go.RowKit
set_option linter.unusedVariables false
attribute [local go_sem ↓] Go.wp_at_zero Go.wp_at_succ
/-- a mark's cells -/
def mkC (m : Mk) : List Value := [.int .i64 m.1, .int .i64 m.2.1, .int .i64 m.2.2]
theorem mkC_len (m : Mk) : (mkC m).length = 3 := rfl
theorem mkC_one (m : Mk) : (mkC m).all Value.oneCell' = true := rfl
theorem infoM : (Try.prog.info? 77).map (fun i => (i.zero, i.size, i.bytes)) = some (some (.agg #[.int .i64 0, .int .i64 0, .int .i64 0]), 3, 24) := by kernel_rfl
theorem infoK : (Try.prog.info? 55).map (fun i => (i.zero, i.size, i.bytes)) = some (some (.agg #[.int .i64 0, .int .i64 0, .int .i64 0, .int .i64 0, .int .i64 0, .int .i64 0, .int .i64 0]), 7, 56) := by kernel_rfl
abbrev OwnM (B : Nat) (w : World) (v : Value) (ms : List Mk) : Prop := OwnS 77 3 mkC B w v ms
abbrev OwnK (B : Nat) (w : World) (v : Value) (cs : List Ck) : Prop := OwnS 55 7 ckC B w v cs
/-- does the last chunk go on at a mark? -/
def goesL (out : List Ck) (m : Mk) : Bool := match out.getLast? with
  | some c => decide (goesOn c m)
  | none => false
theorem stabP_true {out : List Ck} {c : Ck} {m : Mk} (h : goesL (out ++ [c]) m = true) : goesOn c m := by
  unfold goesL at h
  simpa using h
theorem stabP_false {out : List Ck} {m : Mk} (h : goesL out m = false) : stabP out m = out ++ [oneC m] :=
  stabP_new fun c hc hg => by
    unfold goesL at h
    rw [hc] at h
    simp [hg] at h
theorem goesL_nil (m : Mk) : goesL [] m = false := rfl
theorem goesL_snoc (out : List Ck) (c : Ck) (m : Mk) : goesL (out ++ [c]) m = decide (c.k = 1 ∧ c.o1 = m.1 ∧ c.a1 = m.2.1 ∧ c.b1 = m.2.2) := by
  unfold goesL
  rw [List.getLast?_concat]
  rfl
theorem gapP_len (o a b : List Int) (out : List Ck) (x y z : Nat) (m : Mk) : (gapP o a b out x y z m).length ≤ out.length + 1 := by
  unfold gapP; split <;> simp
theorem stabP_len (out : List Ck) (m : Mk) : (stabP out m).length ≤ out.length + 1 := by
  unfold stabP
  split
  · split <;> simp <;> omega
  · simp
theorem set_snoc {α : Type} {l : List α} {K : Nat} {x y : α} (h : K = l.length) : (l ++ [x]).set K y = l ++ [y] := by subst h; simp
theorem get_snoc {α : Type} {l : List α} {K : Nat} {x : α} (h : K = l.length) : (l ++ [x])[K]? = some x := by subst h; simp
theorem drop_get' {α : Type} {l : List α} {i : Nat} {x : α} (h : l[i]? = some x) : l.drop i = x :: l.drop (i + 1) := by
  have h1 := (List.getElem?_eq_some_iff.1 h).1
  rw [List.drop_eq_getElem_cons h1, (List.getElem?_eq_some_iff.1 h).2]
theorem build_two (x y : Int) (w : World) : (Instr.build 49 #[(0, .int .i64 x), (1, .int .i64 y)]).run Try.prog w = .ok (.agg #[.int .i64 x, .int .i64 y]) w := run_build w _ _ _ (by kernel_rfl)
theorem build_chunk (k x y z u v t : Int) (w : World) : (Instr.build 55 #[(0, .int .i64 k), (1, .agg #[.int .i64 x, .int .i64 y]), (2, .agg #[.int .i64 z, .int .i64 u]), (3, .agg #[.int .i64 v, .int .i64 t])]).run Try.prog w = .ok (.agg #[.int .i64 k, .int .i64 x, .int .i64 y, .int .i64 z, .int .i64 u, .int .i64 v, .int .i64 t]) w := run_build w _ _ _ (by kernel_rfl)
theorem build_three (x y z : Int) (w : World) : (Instr.build 77 #[(0, .int .i64 x), (1, .int .i64 y), (2, .int .i64 z)]).run Try.prog w = .ok (.agg #[.int .i64 x, .int .i64 y, .int .i64 z]) w := run_build w _ _ _ (by kernel_rfl)
attribute [-go_sem] Go.Instr.build
attribute [local go_sem] build_two build_chunk build_three
set_option maxRecDepth 100000 in
set_option maxHeartbeats 60000000 in
theorem rowsRef_any (vo va vb : Value) (o a b : List Int) (w : World) (ho : RowZ w vo o) (ha : RowZ w va a) (hb : RowZ w vb b) (hlo : o.length ≤ 40) (hla : a.length ≤ 40) (hlb : b.length ≤ 40) :
    Calls Try.prog 27 #[vo, va, vb] w fun e w' => ∃ v', e = .returned v' ∧ OwnK w.heap.size w' v' (rowsC o a b) ∧ Below w.heap.size w w' := by
  have HKA := Lib.hid (kept_any vo va o a w ho ha (by omega) (by omega))
  have HKB : Hid (∀ w', Below w.heap.size w w' → _) := fun w' h => kept_any vo vb o b w' (ho.stays h) (hb.stays h) (by omega) (by omega)
  have hFa : Fel o a (felV o a) := felV_ok (by have := dist_le _ o a (Nat.le_refl _); omega)
  have hFb : Fel o b (felV o b) := felV_ok (by have := dist_le _ o b (Nat.le_refl _); omega)
  have HFEa := Lib.hid hFa
  have HFEb := Lib.hid hFb
  have HR : Hid (refGo o a b (marksL (felV o a) (felV o b) 0) [] 0 0 0 = rowsC o a b) := by
    have h1 := refGo_chunks hFa hFb (o.length + a.length + b.length + 1) 0 0 0 [] (by omega) (at_start _ _ _ _ _) (.inl (fun c hc => by simp at hc))
    rw [List.drop_zero, List.drop_zero, List.nil_append] at h1
    exact h1
  obtain ⟨f, hfe⟩ : ∃ f, f = felV o a := ⟨_, rfl⟩
  obtain ⟨g, hge⟩ : ∃ g, g = felV o b := ⟨_, rfl⟩
  rw [← hfe] at HKA HFEa HR
  rw [← hge] at HKB HFEb HR
  have HRO : Hid (∀ w', Below w.heap.size w w' → RowZ w' vo o) := fun w' h => ho.stays h
  have HRA : Hid (∀ w', Below w.heap.size w w' → RowZ w' va a) := fun w' h => ha.stays h
  have HRB : Hid (∀ w', Below w.heap.size w w' → RowZ w' vb b) := fun w' h => hb.stays h
  have hco := ho.gen
  obtain ⟨ao, co, rfl, -, -⟩ := ho.gen.shape
  obtain ⟨aa, ca, rfl, -, -⟩ := ha.gen.shape
  obtain ⟨ab, cb, rfl, -, -⟩ := hb.gen.shape
  have hcco := ho.gen.cap
  have hcca := ha.gen.cap
  have hccb := hb.gen.cap
  clear ho ha hb hFa hFb hfe hge hco
  go_enter Try.func27, Try.ntmps27
  go_wp2_with fail
  refine HKA.out.mono ?_
  rintro e w1 ⟨v24, rfl, of1, hb1⟩
  go_wp2_with fail
  refine (HKB.out w1 hb1).mono ?_
  rintro e w2 ⟨v27, rfl, og1, hb2⟩
  have hbe2 := hb1.trans (hb2.mono hb1.size)
  have HVF : Hid (∀ w', Below w2.heap.size w2 w' → RowZ w' v24 f) := fun w' h => (of1.stays hb2).row.stays h
  have HVG : Hid (∀ w', Below w2.heap.size w2 w' → RowZ w' v27 g) := fun w' h => og1.row.stays h
  obtain ⟨a24, c24, hv24, -, -⟩ := of1.row.shape
  subst hv24
  obtain ⟨a27, c27, hv27, -, -⟩ := og1.row.shape
  subst hv27
  have hs2 := hbe2.size
  have hfl : f.length = o.length := HFEa.out.len
  have hgl : g.length = o.length := HFEb.out.len
  have HFL := Lib.hid hfl
  have HGL := Lib.hid hgl
  have hmm : OwnM w2.heap.size (w2.alloc (.cells #[] 77)) (.slice (some ⟨w2.heap.size, 0, none⟩) 0 0) [] := World.ownsRow_made (base := w2.heap.size) (e := 77) (size := 3) w2 #[] 0 (Nat.le_refl _) (Nat.zero_le _) rfl
  have hbm : Below w2.heap.size w2 (w2.alloc (.cells #[] 77)) := (Below.refl _ _).alloc (Nat.le_refl _) _
  clear of1 og1 hb1 hb2 HKA HKB hfl hgl
  go_wp2_with fail
  generalize w2.alloc (.cells #[] 77) = wm at hmm hbm ⊢
  generalize Value.slice (some ⟨w2.heap.size, 0, none⟩) 0 0 = vm at hmm ⊢
  go_loopw [9, 31] (fun v i wr => ∃ (n : Nat) (L : List Mk), n ≤ o.length ∧ i = .int .i64 n ∧ OwnM w2.heap.size wr v L ∧ Hid (L ++ marksL (f.drop n) (g.drop n) n = marksL f g 0) ∧ L.length ≤ n ∧ Below w2.heap.size w2 wr) (fun _ i _ => o.length - (intOf i).toNat)
  case atStart => exact ⟨0, [], Nat.zero_le _, rfl, hmm, rfl, Nat.le_refl _, hbm⟩
  case round =>
    clear hmm hbm
    obtain ⟨n, L, hn, rfl, how, HL, hLn, hbe⟩ := hrel
    have hsw : w2.heap.size ≤ wr.heap.size := hbe.size
    by_cases h1 : n < o.length
    · obtain ⟨p, hp⟩ : ∃ p, f[n]? = some p := ⟨_, List.getElem?_eq_getElem (by rw [HFL.out]; exact h1)⟩
      obtain ⟨q, hq⟩ : ∃ q, g[n]? = some q := ⟨_, List.getElem?_eq_getElem (by rw [HGL.out]; exact h1)⟩
      have HL1 := Lib.hid ((marks_next hp hq L).symm.trans HL.out)
      have HPB : Hid (p < a.length ∧ q < b.length) := by
        refine ⟨?_, ?_⟩
        · by_cases h0 : 0 ≤ p
          · obtain ⟨P, rfl⟩ := Int.eq_ofNat_of_zero_le h0
            have := (HFEa.out.rng _ _ hp).1; omega
          · omega
        · by_cases h0 : 0 ≤ q
          · obtain ⟨Q, rfl⟩ := Int.eq_ofNat_of_zero_le h0
            have := (HFEb.out.rng _ _ hq).1; omega
          · omega
      obtain ⟨_, _, hvf, -, hif⟩ := (HVF.out wr hbe).gen.shape
      cases hvf
      obtain ⟨gf, of', rfl, df⟩ := hif n p hp
      obtain ⟨_, _, hvg, -, hig⟩ := (HVG.out wr hbe).gen.shape
      cases hvg
      obtain ⟨gg, og', rfl, dg⟩ := hig n q hq
      replace df : wr.cell? ⟨gf, of' + n, none⟩ = some (.int .i64 p) := df
      replace dg : wr.cell? ⟨gg, og' + n, none⟩ = some (.int .i64 q) := dg
      have hnf : n < f.length := by rw [HFL.out]; exact h1
      have hng : n < g.length := by rw [HGL.out]; exact h1
      have hfl40 : f.length ≤ 40 := by rw [HFL.out]; exact hlo
      have hgl40 : g.length ≤ 40 := by rw [HGL.out]; exact hlo
      clear hif hig hp hq HL
      by_cases hp0 : 0 ≤ p
      · have ep : decide (p ≥ 0) = true := decide_eq_true hp0
        by_cases hq0 : 0 ≤ q
        · have eq' : decide (q ≥ 0) = true := decide_eq_true hq0
          obtain ⟨P, rfl⟩ := Int.eq_ofNat_of_zero_le hp0
          obtain ⟨Q, rfl⟩ := Int.eq_ofNat_of_zero_le hq0
          have HL2 : Hid ((L ++ [(n, P, Q)]) ++ marksL (f.drop (n + 1)) (g.drop (n + 1)) (n + 1) = marksL f g 0) := by
            have := HL1.out
            rw [if_pos ⟨hp0, hq0⟩] at this
            exact this
          have howD : OwnM w2.heap.size wr.drew u9 L := OwnS.stays how (Below.refl _ _).drew
          have hbD := hbe.drew
          clear HL1 how
          go_upto_region 7 with fail
          go_region_law ((refine step_pushS mkC_len mkC_one Try.underlying76 infoM rfl (by decide) howD (n, P, Q) (by omega) hsw rfl _ _ rfl (by rfl) _ _ _ (by rfl) (by rfl) ?_; intro v6 w6 o6 g6 n6))
          all_goals have hb6 := OwnS.below howD hbD g6 hsw
          all_goals clear howD hbD df dg g6 n6
          all_goals go_wp2_with fail
          all_goals go_roundw
          all_goals first
            | exact ⟨n + 1, _, h1, by go_num, o6, HL2, by simp; omega, hb6⟩
            | (simp only [intOf]; omega)
        · have eq' : decide (q ≥ 0) = false := decide_eq_false hq0
          have HL2 : Hid (L ++ marksL (f.drop (n + 1)) (g.drop (n + 1)) (n + 1) = marksL f g 0) := by
            have := HL1.out
            rw [if_neg (fun h => hq0 h.2)] at this
            exact this
          clear HL1
          go_wp2_with fail
          go_roundw
          case rel => exact ⟨n + 1, L, h1, by go_num, how, HL2, by omega, hbe⟩
          case measure => simp only [intOf]; omega
      · have ep : decide (p ≥ 0) = false := decide_eq_false hp0
        have HL2 : Hid (L ++ marksL (f.drop (n + 1)) (g.drop (n + 1)) (n + 1) = marksL f g 0) := by
          have := HL1.out
          rw [if_neg (fun h => hp0 h.1)] at this
          exact this
        clear HL1
        go_wp2_with fail
        go_roundw
        case rel => exact ⟨n + 1, L, h1, by go_num, how, HL2, by omega, hbe⟩
        case measure => simp only [intOf]; omega
    · obtain rfl : o.length = n := by omega
      have hL : L = marksL f g 0 := by
        have := HL.out
        rw [List.drop_of_length_le (Nat.le_of_eq HFL.out)] at this
        simpa [marksL] using this
      obtain ⟨ms, hms⟩ : ∃ ms, ms = marksL f g 0 := ⟨_, rfl⟩
      rw [← hms] at hL HR
      subst hL
      have HMS := Lib.hid hms
      have hml : L.length ≤ 40 := by omega
      clear HL hms
      go_wp2_with (at_builtin; go_must (refine wpList_pushS mkC_len mkC_one Try.underlying76 infoM rfl (by decide) how (o.length, a.length, b.length) (by omega) hsw rfl _ _ rfl (by rfl) _ _ _ (by rfl) (by rfl) ?_))
      intro vM w3 oM g3 n3
      have hb3 := OwnS.below how hbe g3 hsw
      clear g3 n3 how hbe
      obtain ⟨aM, cM, hvM, -, -⟩ := oM.row.shape mkC_len
      subst hvM
      have hlM : (L ++ [(o.length, a.length, b.length)]).length = L.length + 1 := by rw [List.length_append, List.length_singleton]
      have HMR : Hid (∀ W, Below w3.heap.size w3 W → RowS mkC W (.slice aM (L ++ [(o.length, a.length, b.length)]).length cM) (L ++ [(o.length, a.length, b.length)])) := fun W h => oM.row.stays h
      rw [hlM] at HMR ⊢
      have hbe3 := hbe2.trans (hb3.mono hs2)
      have hs3 : w.heap.size ≤ w3.heap.size := hbe3.size
      have hkk : OwnK w3.heap.size (w3.alloc (.cells #[] 55)) (.slice (some ⟨w3.heap.size, 0, none⟩) 0 0) [] := World.ownsRow_made (base := w3.heap.size) (e := 55) (size := 7) w3 #[] 0 (Nat.le_refl _) (Nat.zero_le _) rfl
      have hbk : Below w3.heap.size w3 (w3.alloc (.cells #[] 55)) := (Below.refl _ _).alloc (Nat.le_refl _) _
      clear oM hlM hb3 HVF HVG hsw
      go_wp2_with fail
      generalize w3.alloc (.cells #[] 55) = wk at hkk hbk ⊢
      generalize Value.slice (some ⟨w3.heap.size, 0, none⟩) 0 0 = vk at hkk ⊢
      go_loopw [11, 12, 13, 14, 73] (fun vout vx vy vz i wr => ∃ (n x y z : Nat) (out : List Ck), n ≤ L.length ∧ i = .int .i64 n ∧ vx = .int .i64 x ∧ vy = .int .i64 y ∧ vz = .int .i64 z ∧ OwnK w3.heap.size wr vout out ∧ Hid (At o a b f g x y z) ∧ Hid (refGo o a b (marksL (f.drop x) (g.drop x) x) out x y z = rowsC o a b) ∧ Hid (L.drop n = marksL (f.drop x) (g.drop x) x) ∧ out.length ≤ 2 * n ∧ Below w3.heap.size w3 wr) (fun _ _ _ _ i _ => L.length + 1 - (intOf i).toNat)
      case atStart => exact ⟨0, 0, 0, 0, [], Nat.zero_le _, rfl, rfl, rfl, rfl, hkk, at_start _ _ _ _ _, by have := HR.out; rw [HMS.out] at this; exact this, by show _ = _; rw [List.drop_zero]; exact HMS.out, Nat.le_refl _, hbk⟩
      case round =>
        clear hkk hbk
        obtain ⟨n, x, y, z, out, hn, rfl, rfl, rfl, rfl, how, HAT, HG, HD, hol, hbe⟩ := hrel
        have hnM : n < L.length + 1 := by omega
        have eN : decide ((n : Int) < (L.length : Int) + 1) = true := decide_eq_true (by omega)
        have eN' : decide (n < L.length + 1) = true := decide_eq_true hnM
        obtain ⟨mi, mp, mq, hM, hxi, hyp, hzq, hio, hpa, hqb, hnext, hend⟩ : ∃ mi mp mq : Nat, (L ++ [(o.length, a.length, b.length)])[n]? = some (mi, mp, mq) ∧ x ≤ mi ∧ y ≤ mp ∧ z ≤ mq ∧ mi ≤ o.length ∧ mp ≤ a.length ∧ mq ≤ b.length ∧
            (n < L.length → At o a b f g (mi + 1) (mp + 1) (mq + 1) ∧ refGo o a b (marksL (f.drop (mi + 1)) (g.drop (mi + 1)) (mi + 1)) (stabP (gapP o a b out x y z (mi, mp, mq)) (mi, mp, mq)) (mi + 1) (mp + 1) (mq + 1) = rowsC o a b ∧ L.drop (n + 1) = marksL (f.drop (mi + 1)) (g.drop (mi + 1)) (mi + 1) ∧ mi + 1 ≤ o.length ∧ mp + 1 ≤ a.length ∧ mq + 1 ≤ b.length) ∧
            (¬ n < L.length → gapP o a b out x y z (mi, mp, mq) = rowsC o a b) := by
          by_cases h : n < L.length
          · obtain ⟨⟨i, p, q⟩, hq⟩ : ∃ m, L[n]? = some m := ⟨_, List.getElem?_eq_getElem h⟩
            have hd : L.drop n = (i, p, q) :: L.drop (n + 1) := drop_get' hq
            have hm := HD.out.symm.trans hd
            obtain ⟨m1, m2, m3, m4, m5, m6, m7, m8⟩ := mark_at HFEa.out HFEb.out HAT.out hm
            have hg := HG.out
            rw [hm] at hg
            refine ⟨i, p, q, by rw [List.getElem?_append_left h]; exact hq, m1, m2, m3, by omega, by omega, by omega, fun _ => ⟨m8, by rw [← m7]; exact hg, m7, by omega, by omega, by omega⟩, fun h' => absurd h h'⟩
          · obtain rfl : n = L.length := by omega
            have hg := HG.out
            rw [← HD.out, List.drop_length] at hg
            exact ⟨o.length, a.length, b.length, by rw [List.getElem?_append_right (Nat.le_refl _), Nat.sub_self]; rfl, HAT.out.hx, HAT.out.hy, HAT.out.hz, Nat.le_refl _, Nat.le_refl _, Nat.le_refl _, fun h' => absurd h' h, fun _ => hg⟩
        have HNEXT := Lib.hid hnext
        have HEND := Lib.hid hend
        obtain ⟨_, _, hvr, -, hir⟩ := (HMR.out wr hbe).shape mkC_len
        simp only [Value.slice.injEq] at hvr
        obtain ⟨rfl, -, rfl⟩ := hvr
        obtain ⟨gM, oM', rfl, hc⟩ := hir n _ hM
        have d0 : wr.cell? ⟨gM, oM' + (n * 3 + 0), none⟩ = some (.int .i64 mi) := hc 0 _ rfl
        have d1 : wr.cell? ⟨gM, oM' + (n * 3 + 1), none⟩ = some (.int .i64 mp) := hc 1 _ rfl
        have d2 : wr.cell? ⟨gM, oM' + (n * 3 + 2), none⟩ = some (.int .i64 mq) := hc 2 _ rfl
        rw [Nat.add_zero] at d0
        rw [← Nat.add_assoc] at d1 d2
        have hbA : Below wr.heap.size wr (wr.alloc (.cells #[.int .i64 mi, .int .i64 mp, .int .i64 mq] 77)) := (Below.refl _ _).alloc (Nat.le_refl _) _
        have hcm := CellsAt.new wr #[.int .i64 mi, .int .i64 mp, .int .i64 mq] 77
        have how1 : OwnK _ _ _ _ := OwnS.stays how hbA
        have hbe1 := hbe.trans (hbA.mono hbe.size)
        have hul : ∀ k, u11.ownBlock = some k → k < wr.heap.size := fun k hk => (how.lt k hk).2
        clear hM hnext hend HAT HG HD hir hc how hbe hbA
        go_upto_region 15 with fail
        obtain ⟨W1, hW1⟩ : ∃ W, W = wr.alloc (.cells #[.int .i64 mi, .int .i64 mp, .int .i64 mq] 77) := ⟨_, rfl⟩
        obtain ⟨gm, hgm⟩ : ∃ gm, gm = wr.heap.size := ⟨_, rfl⟩
        rw [← hW1] at hcm how1 hbe1 ⊢
        rw [← hgm] at hcm hul ⊢
        have HUL := Lib.hid hul
        clear hW1 hgm d0 d1 d2 hul
        have m0 := hcm.cell 0 (v := .int .i64 mi) rfl
        have m1 := hcm.cell 1 (v := .int .i64 mp) rfl
        have m2 := hcm.cell 2 (v := .int .i64 mq) rfl
        go_cut [93] from 78 to 93 (fun v wx => v = .bool (decide (x < mi ∨ y < mp ∨ z < mq)) ∧ W1 = wx)
        case first => as_aux_lemma =>
          by_cases k1 : x < mi
          · have e1 : decide ((x : Int) < mi) = true := decide_eq_true (by omega)
            have e1' : decide (x < mi) = true := decide_eq_true k1
            have HDD : Hid (decide (x < mi ∨ y < mp ∨ z < mq) = true) := decide_eq_true (.inl k1)
            go_wp2_with fail
            go_meet
            case rel => exact ⟨by rw [HDD.out], rfl⟩
          · have e1 : decide ((x : Int) < mi) = false := decide_eq_false (by omega)
            have e1' : decide (x < mi) = false := decide_eq_false k1
            by_cases k2 : y < mp
            · have e2 : decide ((y : Int) < mp) = true := decide_eq_true (by omega)
              have e2' : decide (y < mp) = true := decide_eq_true k2
              have HDD : Hid (decide (x < mi ∨ y < mp ∨ z < mq) = true) := decide_eq_true (.inr (.inl k2))
              go_wp2_with fail
              go_meet
              case rel => exact ⟨by rw [HDD.out], rfl⟩
            · have e2 : decide ((y : Int) < mp) = false := decide_eq_false (by omega)
              have e2' : decide (y < mp) = false := decide_eq_false k2
              by_cases k3 : z < mq
              · have e3 : decide ((z : Int) < mq) = true := decide_eq_true (by omega)
                have e3' : decide (z < mq) = true := decide_eq_true k3
                have HDD : Hid (decide (x < mi ∨ y < mp ∨ z < mq) = true) := decide_eq_true (.inr (.inr k3))
                go_wp2_with fail
                go_meet
                case rel => exact ⟨by rw [HDD.out], rfl⟩
              · have e3 : decide ((z : Int) < mq) = false := decide_eq_false (by omega)
                have e3' : decide (z < mq) = false := decide_eq_false k3
                have HDD : Hid (decide (x < mi ∨ y < mp ∨ z < mq) = false) := decide_eq_false (by omega)
                go_wp2_with fail
                go_meet
                case rel => exact ⟨by rw [HDD.out], rfl⟩
        case rest =>
        obtain ⟨rfl, rfl⟩ := hcut
        go_upto_if 93 with fail
        go_cut [11] from 93 to 137 (fun v wx => OwnK w3.heap.size wx v (gapP o a b out x y z (mi, mp, mq)) ∧ CellsAt wx gm 77 #[.int .i64 mi, .int .i64 mp, .int .i64 mq] ∧ Below w3.heap.size w3 wx)
        case first =>
          rename_i J K2 hJ hMet
          have HJ := Lib.hid hJ
          have HMet := Lib.hid hMet
          clear hJ hMet
          by_cases hgap : x < mi ∨ y < mp ∨ z < mq
          · rw [decide_eq_true hgap]
            have HGP : Hid (gapP o a b out x y z (mi, mp, mq) = out ++ [⟨kindV (seg o x mi) (seg a y mp) (seg b z mq), x, mi, y, mp, z, mq⟩]) := if_pos hgap
            have hbA : Below W1.heap.size W1 (W1.alloc (.cells #[.int .i64 5, .int .i64 x, .int .i64 mi, .int .i64 y, .int .i64 mp, .int .i64 z, .int .i64 mq] 55)) := (Below.refl _ _).alloc (Nat.le_refl _) _
            have hcc := CellsAt.new W1 #[.int .i64 5, .int .i64 x, .int .i64 mi, .int .i64 y, .int .i64 mp, .int .i64 z, .int .i64 mq] 55
            have hcm4 := hcm.stays hbA
            have how4 : OwnK _ _ _ _ := OwnS.stays how1 hbA
            have hbe4 := hbe1.trans (hbA.mono hbe1.size)
            have hgcm : gm < W1.heap.size := hcm.lt
            have HUC : Hid (∀ k, u11.ownBlock = some k → k < W1.heap.size) := fun k hk => Nat.lt_trans (HUL.out k hk) hgcm
            have HGC := Lib.hid hgcm
            have HA5 := Lib.hid hbA
            have HCC := Lib.hid hcc
            have HCM := Lib.hid hcm4
            have HOW := Lib.hid how4
            have HB5 := Lib.hid hbe4
            clear hgap hgcm hbA hcc hcm4 how4 hbe4
            go_upto_region 17 with fail
            have hgcm := HGC.out
            have hbA := HA5.out
            have hcc := HCC.out
            have hcm4 := HCM.out
            have how4 := HOW.out
            have hbe4 := HB5.out
            clear HGC HA5 HCC HCM HOW HB5
            obtain ⟨W4, hW4⟩ : ∃ W, W = W1.alloc (.cells #[.int .i64 5, .int .i64 x, .int .i64 mi, .int .i64 y, .int .i64 mp, .int .i64 z, .int .i64 mq] 55) := ⟨_, rfl⟩
            obtain ⟨gc, hgc⟩ : ∃ gc, gc = W1.heap.size := ⟨_, rfl⟩
            rw [← hW4] at hcc hcm4 how4 hbe4 ⊢
            rw [← hgc] at hcc hgcm HUC ⊢
            have hgc3 : w3.heap.size ≤ gc := by have := hbe1.size; omega
            clear hW4 hgc hbA hcm how1 hbe1 m0 m1 m2
            have n0 := hcm4.cell 0 (v := .int .i64 mi) rfl
            have n1 := hcm4.cell 1 (v := .int .i64 mp) rfl
            have n2 := hcm4.cell 2 (v := .int .i64 mq) rfl
            have HCC := Lib.hid hcc
            have HCM := Lib.hid hcm4
            have HOW := Lib.hid how4
            have hpO : ∀ W, Below w.heap.size w W → RowL IV W (.slice (if co = x then ao else ao.map fun u => u.add x) (mi - x) (co - x)) (seg o x mi) := fun W h => (HRO.out W h).gen.part hxi hio
            have hpA : ∀ W, Below w.heap.size w W → RowL IV W (.slice (if ca = y then aa else aa.map fun u => u.add y) (mp - y) (ca - y)) (seg a y mp) := fun W h => (HRA.out W h).gen.part hyp hpa
            have hpB : ∀ W, Below w.heap.size w W → RowL IV W (.slice (if cb = z then ab else ab.map fun u => u.add z) (mq - z) (cb - z)) (seg b z mq) := fun W h => (HRB.out W h).gen.part hzq hqb
            have HPO := Lib.hid hpO
            have HPA := Lib.hid hpA
            have HPB := Lib.hid hpB
            clear hcc hcm4 how4 hpO hpA hpB
            go_cut [18, 19, 20] from 107 to 121 (fun v18 v19 v20 wx => Hid (∀ W, Below w.heap.size w W → RowZ W v18 (seg o x mi)) ∧ Hid (∀ W, Below w.heap.size w W → RowZ W v19 (seg a y mp)) ∧ Hid (∀ W, Below w.heap.size w W → RowZ W v20 (seg b z mq)) ∧ Below W4.heap.size W4 wx)
            case first =>
              have ix1 : (0 : Int) ≤ (x : Int) := by omega
              have ix2 : (x : Int) ≤ (mi : Int) := by omega
              have ix3 : (mi : Int) ≤ (o.length : Int) := by omega
              have ix4 : (mi : Int) ≤ (co : Int) := by omega
              have iy1 : (0 : Int) ≤ (y : Int) := by omega
              have iy2 : (y : Int) ≤ (mp : Int) := by omega
              have iy3 : (mp : Int) ≤ (a.length : Int) := by omega
              have iy4 : (mp : Int) ≤ (ca : Int) := by omega
              have iz1 : (0 : Int) ≤ (z : Int) := by omega
              have iz2 : (z : Int) ≤ (mq : Int) := by omega
              have iz3 : (mq : Int) ≤ (b.length : Int) := by omega
              have iz4 : (mq : Int) ≤ (cb : Int) := by omega
              have qo := slc_at_lh (P := Try.prog) Try.underlying22 infoZ ao o.length co x mi .i64 .i64 hxi (Int.ofNat_le.1 ix4)
              have qa := slc_at_lh (P := Try.prog) Try.underlying22 infoZ aa a.length ca y mp .i64 .i64 hyp (Int.ofNat_le.1 iy4)
              have qb := slc_at_lh (P := Try.prog) Try.underlying22 infoZ ab b.length cb z mq .i64 .i64 hzq (Int.ofNat_le.1 iz4)
              have qo' := slc_run_lh (P := Try.prog) Try.underlying22 infoZ ao o.length co x mi .i64 .i64 hxi (Int.ofNat_le.1 ix4)
              have qa' := slc_run_lh (P := Try.prog) Try.underlying22 infoZ aa a.length ca y mp .i64 .i64 hyp (Int.ofNat_le.1 iy4)
              have qb' := slc_run_lh (P := Try.prog) Try.underlying22 infoZ ab b.length cb z mq .i64 .i64 hzq (Int.ofNat_le.1 iz4)
              have HQO : Hid (∀ W, Below w.heap.size w W → RowZ W (slcV ao co x mi) (seg o x mi)) := HPO
              have HQA : Hid (∀ W, Below w.heap.size w W → RowZ W (slcV aa ca y mp) (seg a y mp)) := HPA
              have HQB : Hid (∀ W, Below w.heap.size w W → RowZ W (slcV ab cb z mq) (seg b z mq)) := HPB
              clear HPO HPA HPB
              go_region
              all_goals go_wp2_with fail
              all_goals go_meet
              all_goals exact ⟨HQO.out, HQA.out, HQB.out, (Below.refl _ _).drew⟩
            case rest =>
              clear HPO HPA HPB n0 n1 n2
              obtain ⟨HPO, HPA, HPB, hb5⟩ := hcut
              obtain ⟨w8, rfl⟩ : ∃ w8 : World, w8 = wc := ⟨_, rfl⟩
              have hbe5 := hbe4.trans (hb5.mono hbe4.size)
              have hbw5 := hbe3.trans (hbe5.mono hs3)
              have hcc5 := HCC.out.stays hb5
              have hcm5 := HCM.out.stays hb5
              have how5 : OwnK _ _ _ _ := OwnS.stays HOW.out hb5
              have q0 := hcc5.cell 0 (v := .int .i64 5) rfl
              have qf := hcc5.free 0
              have lO : (seg o x mi).length ≤ 100000000 := by have := seg_len_le o x mi; omega
              have lA : (seg a y mp).length ≤ 100000000 := by have := seg_len_le a y mp; omega
              have lB : (seg b z mq).length ≤ 100000000 := by have := seg_len_le b z mq; omega
              have HS1 : Hid (Calls Try.prog 26 #[u19, u20] w8 fun e w' => e = .returned (.bool (eqB (seg a y mp) (seg b z mq))) ∧ ∃ m, w' = w8.drewN m) := sameZ_quiet _ _ _ _ w8 (HPA.out _ hbw5) (HPB.out _ hbw5) lA lB
              have HS2 : Hid (∀ k, Calls Try.prog 26 #[u19, u18] (w8.drewN k) fun e w' => e = .returned (.bool (eqB (seg a y mp) (seg o x mi))) ∧ ∃ m, w' = (w8.drewN k).drewN m) := fun k => sameZ_quiet _ _ _ _ _ (HPA.out _ (below_drewN' hbw5)) (HPO.out _ (below_drewN' hbw5)) lA lO
              have HS3 : Hid (∀ k, Calls Try.prog 26 #[u20, u18] (w8.drewN k) fun e w' => e = .returned (.bool (eqB (seg b z mq) (seg o x mi))) ∧ ∃ m, w' = (w8.drewN k).drewN m) := fun k => sameZ_quiet _ _ _ _ _ (HPB.out _ (below_drewN' hbw5)) (HPO.out _ (below_drewN' hbw5)) lB lO
              have HCC5 := Lib.hid hcc5
              clear lO lA lB hbw5 hcc5
              go_wp2_with fail
              refine HS1.out.mono ?_
              rintro e w5 ⟨rfl, k1, rfl⟩
              go_upto_if 124 with fail
              go_cut [] from 124 to 133 (fun wx => CellsAt wx gc 55 #[.int .i64 (kindV (seg o x mi) (seg a y mp) (seg b z mq)), .int .i64 x, .int .i64 mi, .int .i64 y, .int .i64 mp, .int .i64 z, .int .i64 mq] ∧ w8.grownBy wx (some gc))
              case first =>
                have hdn : ∀ k, w8.grownBy (w8.drewN k) (some gc) := fun k => ⟨rfl, rfl, rfl, Nat.le_refl _, fun _ _ _ => rfl⟩
                have HDN := Lib.hid hdn
                clear hdn
                by_cases r1 : seg a y mp = seg b z mq
                · rw [eqB_yes r1]
                  have HKV : Hid (kindV (seg o x mi) (seg a y mp) (seg b z mq) = 4) := if_pos r1
                  have qf1 : (w8.drewN k1).frozen? ⟨gc, 0, none⟩ = false := qf
                  have q01 : (w8.drewN k1).cell? ⟨gc, 0, none⟩ = some (.int .i64 5) := q0
                  clear r1
                  go_wp2_with fail
                  go_meet
                  case rel => exact ⟨by rw [HKV.out]; exact CellsAt.set (show CellsAt (w8.drewN k1) gc 55 _ from HCC5.out) 0 (.int .i64 4), grownBy_setCell (HDN.out k1) ⟨gc, 0, none⟩ (.inl rfl) _⟩
                · rw [eqB_no r1]
                  go_wp2_with fail
                  refine (HS2.out k1).mono ?_
                  rintro e w6 ⟨rfl, k2, rfl⟩
                  have hd2 : w8.grownBy (w8.drewN (k1 + k2)) (some gc) := ⟨rfl, rfl, rfl, Nat.le_refl _, fun _ _ _ => rfl⟩
                  by_cases r2 : seg a y mp = seg o x mi
                  · rw [eqB_yes r2]
                    have HKV : Hid (kindV (seg o x mi) (seg a y mp) (seg b z mq) = 3) := by show _ = _; unfold kindV; rw [if_neg r1, if_pos r2]
                    have qf1 : (w8.drewN (k1 + k2)).frozen? ⟨gc, 0, none⟩ = false := qf
                    have q01 : (w8.drewN (k1 + k2)).cell? ⟨gc, 0, none⟩ = some (.int .i64 5) := q0
                    clear r1 r2
                    go_wp2_with fail
                    go_meet
                    case rel => exact ⟨by rw [HKV.out]; exact CellsAt.set (show CellsAt (w8.drewN (k1 + k2)) gc 55 _ from HCC5.out) 0 (.int .i64 3), grownBy_setCell hd2 ⟨gc, 0, none⟩ (.inl rfl) _⟩
                  · rw [eqB_no r2]
                    go_wp2_with fail
                    refine (HS3.out (k1 + k2)).mono ?_
                    rintro e w7 ⟨rfl, k3, rfl⟩
                    have hd3 : w8.grownBy (w8.drewN (k1 + k2 + k3)) (some gc) := ⟨rfl, rfl, rfl, Nat.le_refl _, fun _ _ _ => rfl⟩
                    by_cases r3 : seg b z mq = seg o x mi
                    · rw [eqB_yes r3]
                      have HKV : Hid (kindV (seg o x mi) (seg a y mp) (seg b z mq) = 2) := by show _ = _; unfold kindV; rw [if_neg r1, if_neg r2, if_pos r3]
                      have qf1 : (w8.drewN (k1 + k2 + k3)).frozen? ⟨gc, 0, none⟩ = false := qf
                      have q01 : (w8.drewN (k1 + k2 + k3)).cell? ⟨gc, 0, none⟩ = some (.int .i64 5) := q0
                      clear r1 r2 r3
                      go_wp2_with fail
                      go_meet
                      case rel => exact ⟨by rw [HKV.out]; exact CellsAt.set (show CellsAt (w8.drewN (k1 + k2 + k3)) gc 55 _ from HCC5.out) 0 (.int .i64 2), grownBy_setCell hd3 ⟨gc, 0, none⟩ (.inl rfl) _⟩
                    · rw [eqB_no r3]
                      have HKV : Hid (kindV (seg o x mi) (seg a y mp) (seg b z mq) = 5) := by show _ = _; unfold kindV; rw [if_neg r1, if_neg r2, if_neg r3]
                      clear r1 r2 r3
                      go_wp2_with fail
                      go_meet
                      case rel => exact ⟨by rw [HKV.out]; exact HCC5.out, hd3⟩
              case rest =>
                obtain ⟨hcx, hgx⟩ := hcut
                have hcmx := hcm5.grown hgx (fun h => by cases h; omega)
                have howx : OwnK w3.heap.size wc u11 out := own_grown how5 hgx (fun k hk h9 => by have := HUC.out k hk; cases h9; omega)
                have hbex := hbe5.grown hgx hbe5.size (fun k hk => by cases hk; exact hgc3)
                obtain ⟨K, hK⟩ : ∃ K, K = kindV (seg o x mi) (seg a y mp) (seg b z mq) := ⟨_, rfl⟩
                rw [← hK] at hcx HGP
                have p0 := hcx.cell 0 (v := .int .i64 K) rfl
                have p1 := hcx.cell 1 (v := .int .i64 x) rfl
                have p2 := hcx.cell 2 (v := .int .i64 mi) rfl
                have p3 := hcx.cell 3 (v := .int .i64 y) rfl
                have p4 := hcx.cell 4 (v := .int .i64 mp) rfl
                have p5 := hcx.cell 5 (v := .int .i64 z) rfl
                have p6 := hcx.cell 6 (v := .int .i64 mq) rfl
                have hsx : w3.heap.size ≤ wc.heap.size := hbex.size
                have hol80 : out.length ≤ 1000 := by omega
                clear hK hcx hgx HPO HPA HPB HCC HCC5 HCM HOW HS1 HS2 HS3 q0 qf how5 hcm5 hbe5
                go_wp2_with (at_builtin; go_must (refine wpList_pushS ckC_len ckC_one Try.underlying53 infoK rfl (by decide) howx ⟨K, x, mi, y, mp, z, mq⟩ (by omega) hsx rfl _ _ rfl (by rfl) _ _ _ (by rfl) (by rfl) ?_; intro v9 w9 o9 g9 n9; have hb9 := OwnS.below howx hbex g9 hsx; have hcm9 := hcmx.grown g9 (fun h => by have := HUL.out _ h; omega); clear g9 n9 howx hbex hcmx p0 p1 p2 p3 p4 p5 p6))
                refine HMet.out _ _ (Met.intro (HJ.out _ _ ?_))
                (repeat apply Exists.intro)
                refine ⟨?rel, rfl⟩
                case rel => exact ⟨by rw [HGP.out]; exact o9, hcm9, hb9⟩
          · rw [decide_eq_false hgap]
            have HGP : Hid (gapP o a b out x y z (mi, mp, mq) = out) := if_neg hgap
            go_wp2_with fail
            refine HMet.out _ _ (Met.intro (HJ.out _ _ ?_))
            (repeat apply Exists.intro)
            refine ⟨?rel, rfl⟩
            case rel => exact ⟨by rw [HGP.out]; exact how1, hcm, hbe1⟩
        case rest =>
        clear how1 hcm hbe1 m0 m1 m2 HUL
        obtain ⟨oGP, hcmG, hbeG⟩ := hcut
        obtain ⟨W8, rfl⟩ : ∃ W8 : World, W8 = wc := ⟨_, rfl⟩
        obtain ⟨G, hG⟩ : ∃ G, G = gapP o a b out x y z (mi, mp, mq) := ⟨_, rfl⟩
        have hGl : G.length ≤ out.length + 1 := by rw [hG]; exact gapP_len _ _ _ _ _ _ _ _
        rw [← hG] at oGP HNEXT HEND
        have hsG : w3.heap.size ≤ W8.heap.size := hbeG.size
        clear hG
        by_cases hlast : n < L.length
        · obtain ⟨hat2, hg2, hd2, b1, b2, b3⟩ := HNEXT.out hlast
          have HAT2 := Lib.hid hat2
          have HG2 := Lib.hid hg2
          have HD2 := Lib.hid hd2
          have eL : ((n : Int) == (L.length : Int)) = false := by simp; omega
          have eL' : (n == L.length) = false := by simp; omega
          have eL2 : ((n : Int) == (L.length : Int) + 1 - 1) = false := by simp; omega
          have m0 := hcmG.cell 0 (v := .int .i64 mi) rfl
          have m1 := hcmG.cell 1 (v := .int .i64 mp) rfl
          have m2 := hcmG.cell 2 (v := .int .i64 mq) rfl
          have HGL : Hid (G.length ≤ 2 * n + 1) := by show _ ≤ _; omega
          have hN40 : n ≤ 40 := by omega
          clear hat2 hg2 hd2 HNEXT HEND hol
          rcases List.eq_nil_or_concat G with hnil | ⟨G', c, hsn⟩
          · subst hnil
            have HOD : Hid (∀ q, OwnK w3.heap.size (W8.drewN q) u11 []) := fun q => OwnS.stays oGP (below_drewN' (Below.refl _ _))
            have HST : Hid (stabP [] (mi, mp, mq) = [] ++ [oneC (mi, mp, mq)]) := stabP_false rfl
            obtain ⟨aG, cG, hvG, -, -⟩ := oGP.row.shape ckC_len
            subst hvG
            rw [List.length_nil] at HOD ⊢
            clear oGP hGl
            go_wp2_with fail
            go_quiet (fail)
            go_wp2_with fail
            go_quiet (fail)
            go_wp2_with (at_builtin; go_must (refine wpList_pushS ckC_len ckC_one Try.underlying53 infoK rfl (by decide) (HOD.out _) ⟨1, mi, mi + 1, mp, mp + 1, mq, mq + 1⟩ (by have := HGL.out; omega) hsG rfl _ _ rfl (by rfl) _ _ _ (by rfl) (by rfl) ?_))
            intro v9 w9 o9 g9 n9
            have hb9 := OwnS.below (HOD.out _) (below_drewN' hbeG) g9 hsG
            clear g9 n9 m0 m1 m2
            go_wp2_with fail
            go_roundw
            case rel => exact ⟨n + 1, mi + 1, mp + 1, mq + 1, _, by omega, by go_num, by go_num, by go_num, by go_num, o9, HAT2.out, by show _ = _; rw [← HG2.out, HST.out]; rfl, HD2.out, by have := HGL.out; simp at this ⊢; omega, hb9⟩
            case measure => simp only [intOf]; omega
          · rw [List.concat_eq_append] at hsn
            subst hsn
            obtain ⟨k, c0, c1, ca0, ca1, cb0, cb1⟩ := c
            obtain ⟨gG, cG, hvG, hgB, hgl, -, hfz, hce⟩ := OwnS.block oGP ckC_len (by simp)
            have hlG : (G' ++ [(⟨k, c0, c1, ca0, ca1, cb0, cb1⟩ : Ck)]).length = G'.length + 1 := by simp
            rw [hlG] at hvG HGL
            subst hvG
            have hlast' : (G' ++ [(⟨k, c0, c1, ca0, ca1, cb0, cb1⟩ : Ck)])[G'.length]? = some ⟨k, c0, c1, ca0, ca1, cb0, cb1⟩ := by simp
            have e0 := hce _ _ hlast' 0 (.int .i64 k) rfl
            have e2 := hce _ _ hlast' 2 (.int .i64 c1) rfl
            have e4 := hce _ _ hlast' 4 (.int .i64 ca1) rfl
            have e6 := hce _ _ hlast' 6 (.int .i64 cb1) rfl
            have f2 := hfz (G'.length * 7 + 2)
            have f4 := hfz (G'.length * 7 + 4)
            have f6 := hfz (G'.length * 7 + 6)
            rw [Nat.add_zero] at e0
            have HOG := Lib.hid oGP
            have HGS := Lib.hid (goesL_snoc G' ⟨k, c0, c1, ca0, ca1, cb0, cb1⟩ (mi, mp, mq))
            have hK9 : G'.length ≤ 200 := by have := HGL.out; omega
            have HLA := Lib.hid hlast'
            obtain ⟨K, hK⟩ : ∃ K, K = G'.length := ⟨_, rfl⟩
            rw [← hK] at e0 e2 e4 e6 f2 f4 f6 HLA hK9 HGL HOG ⊢
            have HKK := Lib.hid hK
            clear oGP hGl hce hfz hlG hlast' hK
            go_wp2_with fail
            go_quiet (fail)
            go_upto_region 28 with fail
            have HOD : Hid (∀ q, OwnK w3.heap.size (W8.drewN q) (.slice (some ⟨gG, 0, none⟩) (K + 1) cG) (G' ++ [(⟨k, c0, c1, ca0, ca1, cb0, cb1⟩ : Ck)])) := fun q => OwnS.stays HOG.out (below_drewN' (Below.refl _ _))
            go_cut [197] from 155 to 197 (fun v wx => v = .bool (decide (k = 1 ∧ c1 = mi ∧ ca1 = mp ∧ cb1 = mq)) ∧ ∃ q, wx = W8.drewN q)
            case first => as_aux_lemma =>
              have t0 : decide ((K : Int) ≥ 0) = true := decide_eq_true (by omega)
              by_cases j1 : k = 1
              · have s0a : (k == 1) = true := by simp [j1]
                by_cases j2 : c1 = mi
                · have s1a : ((c1 : Int) == mi) = true := by simp [j2]
                  have s1b : (c1 == mi) = true := by simp [j2]
                  by_cases j3 : ca1 = mp
                  · have s2a : ((ca1 : Int) == mp) = true := by simp [j3]
                    have s2b : (ca1 == mp) = true := by simp [j3]
                    by_cases j4 : cb1 = mq
                    · have s3a : ((cb1 : Int) == mq) = true := by simp [j4]
                      have s3b : (cb1 == mq) = true := by simp [j4]
                      have HDD : Hid (decide (k = 1 ∧ c1 = mi ∧ ca1 = mp ∧ cb1 = mq) = true) := decide_eq_true ⟨j1, j2, j3, j4⟩
                      clear j1 j2 j3 j4
                      go_quiet (fail)
                      go_wp2_with fail
                      go_meet
                      case rel => exact ⟨by rw [HDD.out], by rw [World.drewN_drewN]; exact ⟨_, rfl⟩⟩
                    · have s3a : ((cb1 : Int) == mq) = false := by simpa using (fun h => j4 (by omega))
                      have s3b : (cb1 == mq) = false := by simpa using j4
                      have HDD : Hid (decide (k = 1 ∧ c1 = mi ∧ ca1 = mp ∧ cb1 = mq) = false) := decide_eq_false (fun h => j4 h.2.2.2)
                      clear j1 j2 j3 j4
                      go_quiet (fail)
                      go_wp2_with fail
                      go_meet
                      case rel => exact ⟨by rw [HDD.out], by rw [World.drewN_drewN]; exact ⟨_, rfl⟩⟩
                  · have s2a : ((ca1 : Int) == mp) = false := by simpa using (fun h => j3 (by omega))
                    have s2b : (ca1 == mp) = false := by simpa using j3
                    have HDD : Hid (decide (k = 1 ∧ c1 = mi ∧ ca1 = mp ∧ cb1 = mq) = false) := decide_eq_false (fun h => j3 h.2.2.1)
                    clear j1 j2 j3
                    go_quiet (fail)
                    go_wp2_with fail
                    go_meet
                    case rel => exact ⟨by rw [HDD.out], by rw [World.drewN_drewN]; exact ⟨_, rfl⟩⟩
                · have s1a : ((c1 : Int) == mi) = false := by simpa using (fun h => j2 (by omega))
                  have s1b : (c1 == mi) = false := by simpa using j2
                  have HDD : Hid (decide (k = 1 ∧ c1 = mi ∧ ca1 = mp ∧ cb1 = mq) = false) := decide_eq_false (fun h => j2 h.2.1)
                  clear j1 j2
                  go_quiet (fail)
                  go_wp2_with fail
                  go_meet
                  case rel => exact ⟨by rw [HDD.out], by rw [World.drewN_drewN]; exact ⟨_, rfl⟩⟩
              · have s0a : (k == 1) = false := by simpa using (fun h => j1 (by omega))
                have HDD : Hid (decide (k = 1 ∧ c1 = mi ∧ ca1 = mp ∧ cb1 = mq) = false) := decide_eq_false (fun h => j1 h.1)
                clear j1
                go_quiet (fail)
                go_wp2_with fail
                go_meet
                case rel => exact ⟨by rw [HDD.out], by rw [World.drewN_drewN]; exact ⟨_, rfl⟩⟩
            case rest =>
              obtain ⟨rfl, q, rfl⟩ := hcut
              by_cases hgo : k = 1 ∧ c1 = mi ∧ ca1 = mp ∧ cb1 = mq
              · rw [decide_eq_true hgo]
                have HST : Hid (stabP (G' ++ [(⟨k, c0, c1, ca0, ca1, cb0, cb1⟩ : Ck)]) (mi, mp, mq) = G' ++ [⟨k, c0, mi + 1, ca0, mp + 1, cb0, mq + 1⟩]) := stabP_more hgo
                clear hgo
                go_wp2_with fail
                go_region
                have o1 := OwnS.set (HOD.out (q + 1)) ckC_len K 2 _ ⟨k, c0, mi + 1, ca0, ca1, cb0, cb1⟩ (.int .i64 ((mi + 1 : Nat) : Int)) HLA.out (by decide) rfl
                rw [set_snoc HKK.out] at o1
                have o2 := OwnS.set o1 ckC_len K 4 _ ⟨k, c0, mi + 1, ca0, mp + 1, cb0, cb1⟩ (.int .i64 ((mp + 1 : Nat) : Int)) (get_snoc HKK.out) (by decide) rfl
                rw [set_snoc HKK.out] at o2
                have o3 := OwnS.set o2 ckC_len K 6 _ ⟨k, c0, mi + 1, ca0, mp + 1, cb0, mq + 1⟩ (.int .i64 ((mq + 1 : Nat) : Int)) (get_snoc HKK.out) (by decide) rfl
                rw [set_snoc HKK.out] at o3
                have HO3 : Hid (OwnK w3.heap.size ((((W8.drewN (q + 1)).setCell ⟨gG, K * 7 + 1 + 1, none⟩ (.int .i64 ((mi : Int) + 1))).setCell ⟨gG, K * 7 + 3 + 1, none⟩ (.int .i64 ((mp : Int) + 1))).setCell ⟨gG, K * 7 + 5 + 1, none⟩ (.int .i64 ((mq : Int) + 1))) (.slice (some ⟨gG, 0, none⟩) (K + 1) cG) (G' ++ [(⟨k, c0, mi + 1, ca0, mp + 1, cb0, mq + 1⟩ : Ck)])) := o3
                have HB9 : Hid (Below w3.heap.size w3 ((((W8.drewN (q + 1)).setCell ⟨gG, K * 7 + 1 + 1, none⟩ (.int .i64 ((mi : Int) + 1))).setCell ⟨gG, K * 7 + 3 + 1, none⟩ (.int .i64 ((mp : Int) + 1))).setCell ⟨gG, K * 7 + 5 + 1, none⟩ (.int .i64 ((mq : Int) + 1)))) := (((below_drewN' (n := q + 1) hbeG).setCell (p := ⟨gG, K * 7 + 1 + 1, none⟩) hgB _).setCell (p := ⟨gG, K * 7 + 3 + 1, none⟩) hgB _).setCell (p := ⟨gG, K * 7 + 5 + 1, none⟩) hgB _
                clear o1 o2 o3
                go_wp2_with fail
                go_roundw
                case rel => exact ⟨n + 1, mi + 1, mp + 1, mq + 1, _, by omega, by go_num, by go_num, by go_num, by go_num, HO3.out, HAT2.out, by show _ = _; rw [← HG2.out, HST.out], HD2.out, by have h5 := HGL.out; have h6 := HKK.out; simp; omega, HB9.out⟩
                case measure => simp only [intOf]; omega
              · rw [decide_eq_false hgo]
                have HST : Hid (stabP (G' ++ [(⟨k, c0, c1, ca0, ca1, cb0, cb1⟩ : Ck)]) (mi, mp, mq) = (G' ++ [(⟨k, c0, c1, ca0, ca1, cb0, cb1⟩ : Ck)]) ++ [oneC (mi, mp, mq)]) := stabP_false (HGS.out.trans (decide_eq_false hgo))
                clear hgo
                go_wp2_with (at_builtin; go_must (refine wpList_pushS ckC_len ckC_one Try.underlying53 infoK rfl (by decide) (HOD.out _) ⟨1, mi, mi + 1, mp, mp + 1, mq, mq + 1⟩ (by rw [List.length_append, List.length_singleton, ← HKK.out]; omega) hsG rfl _ _ rfl (by rfl) _ _ _ (by rfl) (by rfl) ?_))
                intro v9 w9 o9 g9 n9
                have hb9 := OwnS.below (HOD.out _) (below_drewN' hbeG) g9 hsG
                clear g9 n9 m0 m1 m2 e0 e2 e4 e6 f2 f4 f6
                go_wp2_with fail
                go_roundw
                case rel => exact ⟨n + 1, mi + 1, mp + 1, mq + 1, _, by omega, by go_num, by go_num, by go_num, by go_num, o9, HAT2.out, by show _ = _; rw [← HG2.out, HST.out]; simp [oneC], HD2.out, by have h5 := HGL.out; have h6 := HKK.out; simp; omega, hb9⟩
                case measure => simp only [intOf]; omega
        · obtain rfl : n = L.length := by omega
          have HE := Lib.hid (HEND.out hlast)
          obtain ⟨aG, cG, hvG, -, -⟩ := oGP.row.shape ckC_len
          subst hvG
          have eL : ((L.length : Int) == (L.length : Int) + 1 - 1) = true := by simp
          clear hlast
          go_wp2_with fail
          go_ret
          exact ⟨_, rfl, by rw [← HE.out]; exact oGP.mono hs3, hbe3.trans (hbeG.mono hs3)⟩
end Go.Proofs.Ytidfjemblidjkaa
