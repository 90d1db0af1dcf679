/- The walk of the reference's Tidy. -/
import Derived.Test.YtidfjemblidjkaaMyI
import Derived.Test.YtidfjemblidjkaaMyR
namespace Go.Proofs.Ytidfjemblidjkaa
open Go Go.RowKit
set_option linter.unusedVariables false
/-- three rows of the call's own, as they grow -/
structure Tri (w0 w : World) (x y z : Value) (a b c : List Int) : Prop where
  ox : OwnL 3 IV w0.heap.size w x a
  oy : OwnL 3 IV w0.heap.size w y b
  oz : OwnL 3 IV w0.heap.size w z c
  xy : ∀ k, x.ownBlock = some k → y.ownBlock ≠ some k
  xz : ∀ k, x.ownBlock = some k → z.ownBlock ≠ some k
  yz : ∀ k, y.ownBlock = some k → z.ownBlock ≠ some k
  below : Below w0.heap.size w0 w
theorem apart_new {w : World} {v v' v2 : Value} (h : ∀ k, v.ownBlock = some k → v'.ownBlock ≠ some k) (hn : NewOrSame w v v2) (hl : ∀ k, v'.ownBlock = some k → k < w.heap.size) : ∀ k, v2.ownBlock = some k → v'.ownBlock ≠ some k := fun k h1 h2 => by
  rcases hn k h1 with h3 | h3
  · exact h k h3 h2
  · have := hl k h2; omega
theorem apart_swap {v v' : Value} (h : ∀ k, v.ownBlock = some k → v'.ownBlock ≠ some k) : ∀ k, v'.ownBlock = some k → v.ownBlock ≠ some k := fun k h1 h2 => h k h2 h1
theorem Tri.stays {w0 w w' : World} {x y z : Value} {a b c : List Int} (h : Tri w0 w x y z a b c) (hb : Below w.heap.size w w') : Tri w0 w' x y z a b c :=
  ⟨h.ox.stays hb, h.oy.stays hb, h.oz.stays hb, h.xy, h.xz, h.yz, h.below.trans (hb.mono h.below.size)⟩
theorem Tri.setX {w0 w1 w2 : World} {x y z x2 : Value} {a b c a2 : List Int} (h : Tri w0 w1 x y z a b c) (ho : OwnL 3 IV w0.heap.size w2 x2 a2) (hg : w1.grownBy w2 x.ownBlock) (hn : NewOrSame w1 x x2) : Tri w0 w2 x2 y z a2 b c :=
  ⟨ho, own_grown h.oy hg (fun k hk h2 => h.xy k h2 hk), own_grown h.oz hg (fun k hk h2 => h.xz k h2 hk), apart_new h.xy hn (fun k hk => (h.oy.lt k hk).2), apart_new h.xz hn (fun k hk => (h.oz.lt k hk).2), h.yz, OwnL.below h.ox h.below hg h.below.size⟩
theorem Tri.setY {w0 w1 w2 : World} {x y z y2 : Value} {a b c b2 : List Int} (h : Tri w0 w1 x y z a b c) (ho : OwnL 3 IV w0.heap.size w2 y2 b2) (hg : w1.grownBy w2 y.ownBlock) (hn : NewOrSame w1 y y2) : Tri w0 w2 x y2 z a b2 c :=
  ⟨own_grown h.ox hg (fun k hk h2 => h.xy k hk h2), ho, own_grown h.oz hg (fun k hk h2 => h.yz k h2 hk), apart_swap (apart_new (apart_swap h.xy) hn (fun k hk => (h.ox.lt k hk).2)), h.xz, apart_new h.yz hn (fun k hk => (h.oz.lt k hk).2), OwnL.below h.oy h.below hg h.below.size⟩
theorem Tri.setZ {w0 w1 w2 : World} {x y z z2 : Value} {a b c c2 : List Int} (h : Tri w0 w1 x y z a b c) (ho : OwnL 3 IV w0.heap.size w2 z2 c2) (hg : w1.grownBy w2 z.ownBlock) (hn : NewOrSame w1 z z2) : Tri w0 w2 x y z2 a b c2 :=
  ⟨own_grown h.ox hg (fun k hk h2 => h.xz k hk h2), own_grown h.oy hg (fun k hk h2 => h.yz k hk h2), ho, h.xy, apart_swap (apart_new (apart_swap h.xz) hn (fun k hk => (h.ox.lt k hk).2)), apart_swap (apart_new (apart_swap h.yz) hn (fun k hk => (h.oy.lt k hk).2)), OwnL.below h.oz h.below hg h.below.size⟩
theorem ne_new {w : World} {v v2 : Value} {gs : Nat} (h : v.ownBlock ≠ some gs) (hn : NewOrSame w v v2) (hg : gs < w.heap.size) : v2.ownBlock ≠ some gs := fun e => by
  rcases hn gs e with h1 | h1
  · exact h h1
  · omega
/-- both later rows anew, empty -/
theorem Tri.anew {w0 w : World} {x y z : Value} {a b c : List Int} (h : Tri w0 w x y z a b c) : Tri w0 ((w.alloc (.cells #[] 3)).alloc (.cells #[] 3)) x (.slice (some ⟨w.heap.size, 0, none⟩) 0 0) (.slice (some ⟨w.heap.size + 1, 0, none⟩) 0 0) a [] [] := by
  have hb1 : Below w.heap.size w (w.alloc (.cells #[] 3)) := (Below.refl _ _).alloc (Nat.le_refl _) _
  have hb2 : Below w.heap.size w ((w.alloc (.cells #[] 3)).alloc (.cells #[] 3)) := hb1.alloc (by simp) _
  have hs := h.below.size
  refine ⟨h.ox.stays hb2, ((OwnL.made w).alloc _).mono hs, ?_, fun k h1 h2 => ?_, fun k h1 h2 => ?_, fun k h1 h2 => ?_, h.below.trans (hb2.mono hs)⟩
  · have := (OwnL.made (f := IV) (E := 3) (w.alloc (.cells #[] 3))).mono (B' := w0.heap.size) (by simp; omega)
    rwa [World.size_alloc] at this
  · have := (h.ox.lt k h1).2; simp [Value.ownBlock] at h2; omega
  · have := (h.ox.lt k h1).2; simp [Value.ownBlock] at h2; omega
  · simp [Value.ownBlock] at h1 h2; omega
set_option maxRecDepth 100000 in
set_option maxHeartbeats 8000000 in
theorem tidyRef_any (vr : Value) (rs : List Rn) (w : World) (hr : RowS rnC w vr rs) (hN : ∀ r ∈ rs, r.2 ≤ 200) (hlo : ∀ r ∈ rs, -9223372036854775808 ≤ r.2) (hl : rs.length ≤ 40) :
    Calls Try.prog 21 #[vr] w fun e w' => ∃ v', e = .returned v' ∧ OwnS 42 2 rnC w.heap.size w' v' (tidyV rs) ∧ Below w.heap.size w w' := by
  have HN := Lib.hid hN
  have HLO := Lib.hid hlo
  have HTL := Lib.hid (tdAll_len hN)
  obtain ⟨a0, c0, rfl, -, hin⟩ := hr.shape rnC_len
  have HIN := Lib.hid hin
  have hT0 : Tri w (((w.alloc (.cells #[] 3)).alloc (.cells #[] 3)).alloc (.cells #[] 3)) (.slice (some ⟨w.heap.size, 0, none⟩) 0 0) (.slice (some ⟨w.heap.size + 1, 0, none⟩) 0 0) (.slice (some ⟨w.heap.size + 2, 0, none⟩) 0 0) [] [] [] := by
    have h0 : Tri w (w.alloc (.cells #[] 3)) (.slice (some ⟨w.heap.size, 0, none⟩) 0 0) (.slice none 0 0) (.slice none 0 0) [] [] [] := ⟨OwnL.made w, OwnL.nil _ _, OwnL.nil _ _, (fun k _ h => by cases h), (fun k _ h => by cases h), (fun k h => by cases h), (Below.refl _ _).alloc (Nat.le_refl _) _⟩
    have := h0.anew
    rwa [World.size_alloc] at this
  clear hr hin hN hlo
  go_enter Try.func21, Try.ntmps21
  go_wp2_with fail
  generalize ((w.alloc (.cells #[] 3)).alloc (.cells #[] 3)).alloc (.cells #[] 3) = wm at hT0 ⊢
  generalize Value.slice (some ⟨w.heap.size, 0, none⟩) 0 0 = v3 at hT0 ⊢
  generalize Value.slice (some ⟨w.heap.size + 1, 0, none⟩) 0 0 = v4 at hT0 ⊢
  generalize Value.slice (some ⟨w.heap.size + 2, 0, none⟩) 0 0 = v5 at hT0 ⊢
  go_loopw [3, 4, 5, 14] (fun x y z i wr => ∃ (m : Nat) (s : TdS), m ≤ rs.length ∧ i = .int .i64 m ∧ Hid (tdAll (rs.take m) = s) ∧ Tri w wr x y z s.ss (List.replicate s.d 2) (List.replicate s.p 3)) (fun _ _ _ i _ => rs.length - (intOf i).toNat)
  case atStart => exact ⟨0, ⟨[], 0, 0⟩, Nat.zero_le _, rfl, rfl, hT0⟩
  case round =>
    clear hT0
    obtain ⟨m, s, hm, rfl, HS, hT⟩ := hrel
    have hsl : tdLen s ≤ 200 * m := by have := HTL.out m; rw [HS.out] at this; exact this
    by_cases h1 : m < rs.length
    · obtain ⟨⟨k, c⟩, hq⟩ : ∃ r, rs[m]? = some r := ⟨_, List.getElem?_eq_getElem h1⟩
      have hc2 : c ≤ 200 := HN.out (k, c) (List.mem_of_getElem? hq)
      have hc1 : -9223372036854775808 ≤ c := HLO.out (k, c) (List.mem_of_getElem? hq)
      have HNX : Hid (tdAll (rs.take (m + 1)) = tdStep s k c.toNat) := by show _ = _; rw [List.take_add_one, hq]; show tdAll (_ ++ [_]) = _; rw [tdAll_snoc, HS.out]
      obtain ⟨gb, ob, rfl, hc⟩ := HIN.out m _ hq
      have d0 := cell_below hT.below (hc 0 (.int .i64 k) rfl)
      have d1 := cell_below hT.below (hc 1 (.int .i64 c) rfl)
      rw [Nat.add_zero] at d0
      rw [← Nat.add_assoc] at d1
      have hT2 := hT.stays ((Below.refl wr.heap.size wr).alloc (Nat.le_refl _) (.cells #[.int .i64 k, .int .i64 c] 42))
      have hcA := CellsAt.new wr #[.int .i64 k, .int .i64 c] 42
      have hgsB : w.heap.size ≤ wr.heap.size := hT.below.size
      have hgx : ∀ (q : Value) (l : List Int), OwnL 3 IV w.heap.size wr q l → q.ownBlock ≠ some wr.heap.size := fun q l ho h => by have := (ho.lt _ h).2; omega
      have hax := hgx _ _ hT.ox
      have hay := hgx _ _ hT.oy
      have haz := hgx _ _ hT.oz
      clear hc hq hT hgx
      go_wp2_with fail
      obtain ⟨W, hW⟩ : ∃ W : World, W = wr.alloc (.cells #[.int .i64 k, .int .i64 c] 42) := ⟨_, rfl⟩
      obtain ⟨gs, hgs⟩ : ∃ gs, gs = wr.heap.size := ⟨_, rfl⟩
      rw [← hgs] at hcA hax hay haz hgsB ⊢
      rw [← hW] at hcA hT2 ⊢
      clear hW hgs d0 d1
      go_loopw [3, 4, 5, 8] (fun x y z i wr => ∃ (n : Nat) (s2 : TdS), (n : Int) ≤ max c 0 ∧ i = .int .i64 n ∧ Hid (tdStep s k n = s2) ∧ Tri w wr x y z s2.ss (List.replicate s2.d 2) (List.replicate s2.p 3) ∧ CellsAt wr gs 42 #[.int .i64 k, .int .i64 c] ∧ (x.ownBlock ≠ some gs ∧ y.ownBlock ≠ some gs ∧ z.ownBlock ≠ some gs)) (fun _ _ _ i _ => (c - intOf i).toNat)
      case atStart => exact ⟨0, s, by omega, rfl, tdStep_zero s k, hT2, hcA, hax, hay, haz⟩
      case round =>
        clear hT2 hcA hax hay haz
        obtain ⟨n, s2, hn, rfl, HS2, hT, hcA, hax, hay, haz⟩ := hrel
        have hs2l : tdLen s2 ≤ 200 * m + n := by have := tdStep_len s k n; rw [HS2.out] at this; omega
        have hl1 : s2.ss.length ≤ 100000 := by unfold tdLen at hs2l; omega
        have hl2 : s2.d ≤ 100000 := by unfold tdLen at hs2l; omega
        have hl3 : s2.p ≤ 100000 := by unfold tdLen at hs2l; omega
        have f0 := hcA.cell 0 (v := .int .i64 k) rfl
        have f1 := hcA.cell 1 (v := .int .i64 c) rfl
        by_cases h2 : (n : Int) < c
        · have HS3 : Hid (tdStep s k (n + 1) = tdStep s2 k 1) := by show _ = _; rw [← HS2.out, tdStep_succ]
          clear hs2l
          by_cases hk1 : k = 1
          · subst hk1
            go_wp2_with (at_builtin; go_must (refine wpList_appendL IV_one Try.underlying22 infoZ rfl (by decide) hT.ox hT.oy.row (by simp; omega) hT.below.size rfl _ _ rfl (by rfl) (by rfl) ?_))
            intro va wa o2 g2 n2 _
            have hT2 := hT.setX o2 g2 n2
            have hcA2 := hcA.grown g2 hax
            have hax2 := ne_new hax n2 hcA.lt
            clear hT hcA hax o2 g2 n2 f0 f1
            have hT := hT2
            have hcA := hcA2
            have hax := hax2
            have f0 := hcA.cell 0 (v := .int .i64 1) rfl
            have f1 := hcA.cell 1 (v := .int .i64 c) rfl
            clear hT2 hcA2 hax2
            go_wp2_with (at_builtin; go_must (refine wpList_appendL IV_one Try.underlying22 infoZ rfl (by decide) hT.ox hT.oz.row (by simp; omega) hT.below.size rfl _ _ rfl (by rfl) (by rfl) ?_))
            intro vb wb o2 g2 n2 _
            have hT2 := hT.setX o2 g2 n2
            have hcA2 := hcA.grown g2 hax
            have hax2 := ne_new hax n2 hcA.lt
            clear hT hcA hax o2 g2 n2 f0 f1
            have hT := hT2
            have hcA := hcA2
            have hax := hax2
            have f0 := hcA.cell 0 (v := .int .i64 1) rfl
            have f1 := hcA.cell 1 (v := .int .i64 c) rfl
            clear hT2 hcA2 hax2
            go_wp2_with (at_builtin; go_must (refine wpList_pushL IV_one Try.underlying22 infoZ rfl (by decide) hT.ox 1 (by simp; omega) hT.below.size rfl _ _ rfl (by rfl) _ _ _ (by rfl) (by rfl) ?_))
            intro vc wc o2 g2 n2
            have hT2 := hT.setX o2 g2 n2
            have hcA2 := hcA.grown g2 hax
            have hax2 := ne_new hax n2 hcA.lt
            clear hT hcA hax o2 g2 n2 f0 f1
            have hT := hT2
            have hcA := hcA2
            have hax := hax2
            have f0 := hcA.cell 0 (v := .int .i64 1) rfl
            have f1 := hcA.cell 1 (v := .int .i64 c) rfl
            clear hT2 hcA2 hax2
            have hT3 := hT.anew
            have hcA3 := hcA.stays (((Below.refl wc.heap.size wc).alloc (Nat.le_refl _) (.cells #[] 3)).alloc (by simp) (.cells #[] 3))
            have hgl := hcA.lt
            have hay3 : (Value.slice (some ⟨wc.heap.size, 0, none⟩) 0 0).ownBlock ≠ some gs := fun h => by simp [Value.ownBlock] at h; omega
            have haz3 : (Value.slice (some ⟨wc.heap.size + 1, 0, none⟩) 0 0).ownBlock ≠ some gs := fun h => by simp [Value.ownBlock] at h; omega
            have HS4 : Hid (tdStep s 1 (n + 1) = ⟨s2.ss ++ List.replicate s2.d 2 ++ List.replicate s2.p 3 ++ [1], 0, 0⟩) := by show _ = _; rw [HS3.out, tdStep_one (by decide)]; rfl
            clear HS3 hT hcA hay haz
            go_wp2_with fail
            go_roundw
            case rel => exact ⟨n + 1, _, by omega, by go_num, HS4, by simpa using hT3, hcA3, hax, hay3, haz3⟩
            case measure => simp only [intOf]; omega
          · have e1 : (k == 1) = false := by simpa using hk1
            by_cases hk2 : k = 2
            · subst hk2
              go_wp2_with (at_builtin; go_must (refine wpList_pushL IV_one Try.underlying22 infoZ rfl (by decide) hT.oy 2 (by simp; omega) hT.below.size rfl _ _ rfl (by rfl) _ _ _ (by rfl) (by rfl) ?_))
              intro v2 w2 o2 g2 n2
              rw [← List.replicate_succ'] at o2
              have hT2 := hT.setY o2 g2 n2
              have hcA2 := hcA.grown g2 hay
              have hax2 := ne_new hay n2 hcA.lt
              have HS4 : Hid (tdStep s 2 (n + 1) = ⟨s2.ss, s2.d + 1, s2.p⟩) := by show _ = _; rw [HS3.out, tdStep_two]
              clear HS3 hT hcA o2 g2 n2
              go_wp2_with fail
              go_roundw
              case rel => exact ⟨n + 1, _, by omega, by go_num, HS4, hT2, hcA2, hax, hax2, haz⟩
              case measure => simp only [intOf]; omega
            · have e2 : (k == 2) = false := by simpa using hk2
              by_cases hk3 : k = 3
              · subst hk3
                go_wp2_with (at_builtin; go_must (refine wpList_pushL IV_one Try.underlying22 infoZ rfl (by decide) hT.oz 3 (by simp; omega) hT.below.size rfl _ _ rfl (by rfl) _ _ _ (by rfl) (by rfl) ?_))
                intro v2 w2 o2 g2 n2
                rw [← List.replicate_succ'] at o2
                have hT2 := hT.setZ o2 g2 n2
                have hcA2 := hcA.grown g2 haz
                have hax2 := ne_new haz n2 hcA.lt
                have HS4 : Hid (tdStep s 3 (n + 1) = ⟨s2.ss, s2.d, s2.p + 1⟩) := by show _ = _; rw [HS3.out, tdStep_three]
                clear HS3 hT hcA o2 g2 n2
                go_wp2_with fail
                go_roundw
                case rel => exact ⟨n + 1, _, by omega, by go_num, HS4, hT2, hcA2, hax, hay, hax2⟩
                case measure => simp only [intOf]; omega
              · have e3 : (k == 3) = false := by simpa using hk3
                have HS4 : Hid (tdStep s k (n + 1) = s2) := by show _ = _; rw [HS3.out, tdStep_else hk1 hk2 hk3]
                clear hk1 hk2 hk3 HS3
                go_wp2_with fail
                go_roundw
                case rel => exact ⟨n + 1, s2, by omega, by go_num, HS4, hT, hcA, hax, hay, haz⟩
                case measure => simp only [intOf]; omega
        · have e1 : decide ((n : Int) < c) = false := by simp; omega
          have HS5 : Hid (tdAll (rs.take (m + 1)) = s2) := by show _ = _; rw [HNX.out, ← HS2.out]; congr 1; omega
          go_wp2_with fail
          go_roundw
          case rel => exact ⟨m + 1, s2, by omega, by go_num, HS5, hT⟩
          case measure => simp only [intOf]; omega
    · obtain rfl : rs.length = m := by omega
      have HE : Hid (tidyV rs = runsV (tdEnd s)) := by show _ = _; unfold tidyV; have := HS.out; rw [List.take_length] at this; rw [this]
      have hl1 : s.ss.length ≤ 100000 := by unfold tdLen at hsl; omega
      have hl2 : s.d ≤ 100000 := by unfold tdLen at hsl; omega
      have hl3 : s.p ≤ 100000 := by unfold tdLen at hsl; omega
      have hel : (tdEnd s).length ≤ 100000 := by rw [tdEnd_len]; omega
      clear hsl
      go_wp2_with (at_builtin; go_must (refine wpList_appendL IV_one Try.underlying22 infoZ rfl (by decide) hT.ox hT.oy.row (by simp; omega) hT.below.size rfl _ _ rfl (by rfl) (by rfl) ?_))
      intro va wa o2 g2 n2 _
      have hT2 := hT.setX o2 g2 n2
      clear hT o2 g2 n2
      have hT := hT2
      clear hT2
      go_wp2_with (at_builtin; go_must (refine wpList_appendL IV_one Try.underlying22 infoZ rfl (by decide) hT.ox hT.oz.row (by simp; omega) hT.below.size rfl _ _ rfl (by rfl) (by rfl) ?_))
      intro vb wb o2 g2 n2 _
      have hT2 := hT.setX o2 g2 n2
      clear hT o2 g2 n2
      have hox : OwnL 3 IV w.heap.size wb vb (tdEnd s) := by have := hT2.ox; unfold tdEnd; simpa using this
      have HRU := Lib.hid (runs_any vb (tdEnd s) wb hox.row (by omega))
      have hbw := hT2.below
      clear hT2 hox
      go_wp2_with fail
      refine HRU.out.mono ?_
      rintro e wd ⟨vd, rfl, od, hbd⟩
      go_wp2_with fail
      go_ret
      exact ⟨_, rfl, by rw [HE.out]; exact OwnS.mono od hbw.size, hbw.trans (hbd.mono hbw.size)⟩
end Go.Proofs.Ytidfjemblidjkaa
