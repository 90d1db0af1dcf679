/- frame.Read, walked. -/
import Derived.Test.YtgehbabcpmkgaaaDoorDkB
import Derived.Test.YtgehbabcpmkgaaaDoorSlc
namespace Go.Proofs.YtgehbabcpmkgaaaDoor
open Go Go.RowKit
set_option linter.unusedVariables false
def frV (F : Fr) (v : Value) : Value := .agg #[.int .i64 F.at', .int .i64 F.many, .int .u32 F.gen, v]
/-- what frame.Read hands back -/
def FRead (ea : Nat → Addr) (d : Dm) (a e : Int) (w : World) (e' : Ending) (w' : World) : Prop :=
  ∃ v, e' = .returned (.tuple #[frV (frameRV d a e) v, EV ea (frameRK d a e)]) ∧ RowB w' v (frameRV d a e).load ∧ (∀ q, v.ownBlock = some q → w.heap.size ≤ q ∧ q < w'.heap.size) ∧ Below w.heap.size w w'
theorem FRead.bad {ea : Nat → Addr} {d : Dm} {a e : Int} {w w' : World} (k : Nat) (hk : frameRK d a e = k) (h0 : k ≠ 0) (hb : Below w.heap.size w w') :
    FRead ea d a e w (.returned (.tuple #[.agg #[.int .i64 0, .int .i64 0, .int .u32 0, .slice none 0 0], .iface 248 (.pointer (some (ea k)))])) w' := by
  have hv : frameRV d a e = Fr.none := frameRV_bad (by rw [hk]; exact h0)
  refine ⟨.slice none 0 0, ?_, ?_, ?_, hb⟩
  · rw [hv, hk, EV_pos ea h0]; rfl
  · rw [hv]; exact RowB.nil _
  · intro q hq; simp [Value.ownBlock] at hq
theorem FRead.good {ea : Nat → Addr} {d : Dm} {a e : Int} {w w' : World} (hk : frameRK d a e = 0) (n gen : Nat) (hn : n = (longV d a + 75) / 64) (hg : gen = num4 (getV d a) 0) (v : Value) (hr : RowB w' v (frameAt d a).load) (hq : ∀ q, v.ownBlock = some q → w.heap.size ≤ q ∧ q < w'.heap.size) (hb : Below w.heap.size w w') :
    FRead ea d a e w (.returned (.tuple #[.agg #[.int .i64 a, .int .i64 n, .int .u32 gen, v], .nilIface])) w' := by
  have hv : frameRV d a e = frameAt d a := frameRV_ok hk
  refine ⟨v, ?_, by rw [hv]; exact hr, hq, hb⟩
  subst hn
  subst hg
  rw [hv, hk]; rfl
theorem slcV_block {a : Option Addr} {n c l h q : Nat} (hq : (slcV a c l h).ownBlock = some q) : (Value.slice a n c).ownBlock = some q := by
  unfold slcV at hq
  cases a with
  | none => by_cases e : c = l <;> simp [e, Value.ownBlock] at hq
  | some x =>
    by_cases e : c = l
    · rw [if_pos e] at hq; simpa [Value.ownBlock] using hq
    · rw [if_neg e] at hq
      simp only [Value.ownBlock, Option.map_some] at hq ⊢
      rw [← hq]
      unfold Addr.add
      split <;> rfl
theorem check_nil (ea : Nat → Addr) (w : World) (a e : Int) (h14 : ErrAt w 5 (ea 14)) : Calls Tryd.prog 95 #[.pointer none, .int .i64 a, .int .i64 e] w fun e' w' => e' = .returned (EV ea 14) ∧ w = w' := by
  unfold ErrAt at h14
  go_enter Tryd.func95, Tryd.ntmps95
  go_wp2_with fail
  go_ret
  exact ⟨rfl, rfl⟩
theorem openK_sum2 {A : List UInt8} {L : Nat} (h : L + 12 ≤ A.length) : openK (A.take (L + 12)) = if csum (A.take (8 + L)) = fixedV ((A.drop (8 + L)).take 4) then 0 else 18 := by
  have hl : (A.take (L + 12)).length = L + 12 := by rw [List.length_take]; omega
  have e1 : (A.take (L + 12)).drop (L + 12 - 4) = (A.drop (8 + L)).take 4 := by
    rw [show L + 12 - 4 = 8 + L from by omega, show L + 12 = 8 + L + 4 from by omega, List.drop_take, Nat.add_sub_cancel_left]
  have e2 : (A.take (L + 12)).take (L + 12 - 4) = A.take (8 + L) := by rw [List.take_take, show min (L + 12 - 4) (L + 12) = 8 + L from by omega]
  unfold openK
  rw [hl, if_neg (by omega), e1, e2]
  by_cases h : csum (A.take (8 + L)) = fixedV ((A.drop (8 + L)).take 4)
  · rw [if_pos h, if_pos h.symm]
  · rw [if_neg h, if_neg (fun h' => h h'.symm)]
set_option maxRecDepth 100000 in
set_option maxHeartbeats 8000000 in
theorem fread_any (ea : Nat → Addr) {w : World} {g gd gm : Nat} {d : Dm} (hk : Dk w g gd gm d) (hf : d.fuse ≠ 0) {a e : Int} (ha1 : -9223372036854775808 ≤ a) (ha2 : a ≤ 9223372036854775807) (he1 : -9223372036854775808 ≤ e) (he2 : e ≤ 9223372036854775807) (hE : ∀ W, Below w.heap.size w W → ErrsFew ea W) :
    Calls Tryd.prog 62 #[.pointer (some ⟨g, 0, none⟩), .int .i64 a, .int .i64 e] w (FRead ea d a e w) := by
  have hb0 : Below w.heap.size w (w.alloc (.cells #[.int .i64 0, .int .i64 0, .int .u32 0, .slice none 0 0] 122)) := (Below.refl _ _).alloc (Nat.le_refl _) _
  have hc0 := CellsAt.new w #[.int .i64 0, .int .i64 0, .int .u32 0, .slice none 0 0] 122
  obtain ⟨W0, hW0⟩ : ∃ W, W = w.alloc (.cells #[.int .i64 0, .int .i64 0, .int .u32 0, .slice none 0 0] 122) := ⟨_, rfl⟩
  have HW0 := Lib.hid hW0
  have hk0 := hk.stays hb0
  have hsz := hk.ok.size
  have HE := Lib.hid hE
  have HF := Lib.hid hf
  have HOK := Lib.hid hk.ok
  have HNE : Hid (∀ k, k = 6 ∨ k = 8 → w.heap.size ≠ k) := fun k hk' h => by
    have e4 := (hE w (Below.refl _ _)).e15.lt
    have e5 := (hE w (Below.refl _ _)).e18.lt
    omega
  by_cases hrange : a < 0 ∨ (d.dur.length : Int) < e
  · have HK1 : Hid (frameRK d a e = 1) := by show _ = _; unfold frameRK; rw [if_pos hrange]
    have hC := check_bad ea hk0 hrange (hE _ hb0).e1
    rw [EV_pos ea (by decide)] at hC
    have HC := Lib.hid hC
    have HB0 := Lib.hid hb0
    have c0 := hc0.cell 0 (v := .int .i64 0) rfl
    have c1 := hc0.cell 1 (v := .int .i64 0) rfl
    have c2 := hc0.cell 2 (v := .int .u32 0) rfl
    have c3 := hc0.cell 3 (v := .slice none 0 0) rfl
    have f0 := hc0.free 0
    have f1 := hc0.free 1
    have f2 := hc0.free 2
    have f3 := hc0.free 3
    have hlt := hc0.lt
    clear hk hk0 hE hrange hb0 hc0 hW0 hf hC
    go_enter Tryd.func62, Tryd.ntmps62
    go_wp2_with fail
    refine HC.out.mono ?_
    rintro e' w1 ⟨rfl, rfl⟩
    go_wp2_with fail
    exact bodyPost_ret (v := .tuple #[.agg #[.int .i64 0, .int .i64 0, .int .u32 0, .slice none 0 0], .iface 248 (.pointer (some (ea 1)))]) (by simp [results, Tryd.results62, go_sem, c0, c1, c2, c3]) rfl (FRead.bad 1 HK1.out (by decide) HB0.out)
  · have hn1 : 0 ≤ a := by omega
    have hn2 : e ≤ d.dur.length := by omega
    have HC := Lib.hid (check_ok hk0 hn1 hn2)
    by_cases hea : e ≤ a
    · have HK1 : Hid (frameRK d a e = 15) := by show _ = _; unfold frameRK; rw [if_neg hrange, if_pos hea]
      have HB0 := Lib.hid hb0
      have c0 := hc0.cell 0 (v := .int .i64 0) rfl
      have c1 := hc0.cell 1 (v := .int .i64 0) rfl
      have c2 := hc0.cell 2 (v := .int .u32 0) rfl
      have c3 := hc0.cell 3 (v := .slice none 0 0) rfl
      have f0 := hc0.free 0
      have f1 := hc0.free 1
      have f2 := hc0.free 2
      have f3 := hc0.free 3
      have hlt := hc0.lt
      have hE6 := (hE _ hb0).e15
      unfold ErrAt at hE6
      have hne : (w.heap.size == 6) = false := by have := HNE.out 6 (by decide); simpa using this
      clear hk hk0 hE hrange hb0 hc0 hW0 hf
      go_enter Tryd.func62, Tryd.ntmps62
      go_wp2_with fail
      refine HC.out.mono ?_
      rintro e' w1 ⟨rfl, rfl⟩
      go_wp2_with fail
      go_region
      all_goals go_wp2_with fail
      all_goals exact bodyPost_ret (v := .tuple #[.agg #[.int .i64 0, .int .i64 0, .int .u32 0, .slice none 0 0], .iface 248 (.pointer (some (ea 15)))]) (by simp [results, Tryd.results62, go_sem, c0, c1, c2, c3]) rfl (FRead.bad 15 HK1.out (by decide) HB0.out.drew)
    · have hlt0 : a < e := by omega
      have hL1 := load_any ea hk0 hf (a := a) 1 hn1 (by omega) (fun W hW => hE W (hb0.trans (hW.mono hb0.size)))
      have hld : loadV d a 1 = getV d a := by rw [loadV, loadV, List.nil_append, Int.natCast_zero, Int.add_zero]
      have hgl := hk.ok.get a
      rw [hld] at hL1
      obtain ⟨X, hX⟩ : ∃ X, X = getV d a := ⟨_, rfl⟩
      obtain ⟨L, hL⟩ : ∃ L, L = longV d a := ⟨_, rfl⟩
      obtain ⟨G, hG⟩ : ∃ G, G = num4 (getV d a) 0 := ⟨_, rfl⟩
      have hLX : num4 X 4 = L := by rw [hL, hX]; rfl
      have hGX : num4 X 0 = G := by rw [hG, hX]
      have hLb := num4_le X 4
      have hGb := num4_le X 0
      rw [hLX] at hLb
      rw [hGX] at hGb
      rw [← hX] at hL1 hgl
      rw [show ((1 : Nat) : Int) = 1 from rfl] at hL1
      have HL1 := Lib.hid hL1
      have HX := Lib.hid hgl
      have HLX := Lib.hid hLX
      have HGX := Lib.hid hGX
      have HG := Lib.hid hG
      have HL := Lib.hid hL
      have HFR : Hid (frameRK d a e = if 8192 < L ∨ e - a < ((L + 75) / 64 : Nat) then 18 else if sumOk d a then 0 else 18) := by show _ = _; unfold frameRK; rw [if_neg hrange, if_neg hea, ← hL]
      have HK := Lib.hid hk
      have HC0 := Lib.hid hc0
      have HB0 := Lib.hid hb0
      clear hk hk0 hE hrange hc0 hW0 hf hX hL hG hLX hGX hL1 hld hgl hea
      go_enter Tryd.func62, Tryd.ntmps62
      go_wp2_with fail
      refine HC.out.mono ?_
      rintro e' w1 ⟨rfl, rfl⟩
      go_wp2_with fail
      refine HL1.out.mono ?_
      rintro e' w2 ⟨v2, rfl, ho2, hb2⟩
      have hbe2 := HB0.out.trans (hb2.mono HB0.out.size)
      have hc2 := HC0.out.stays hb2
      have HH := header_any ea v2 X w2 ho2.row HX.out (fun W hW => HE.out W (hbe2.trans (hW.mono hbe2.size)))
      rw [HGX.out, HLX.out] at HH
      have HH := Lib.hid HH
      clear HL1 ho2 hb2 HC HB0 HC0 hb0
      go_wp2_with fail
      refine HH.out.mono ?_
      rintro e' w3 ⟨rfl, hb3⟩
      have hbe3 := hbe2.trans (hb3.mono hbe2.size)
      have hc3 := hc2.stays hb3
      have HLI : Hid ((L : Int) ≤ 4294967295) := by have : (L : Int) ≤ 4294967295 := by omega
                                                    exact this
      clear HH hbe2 hc2 hb3
      by_cases hbig : 8192 < L
      · have HK18 : Hid (frameRK d a e = 18) := by show _ = _; rw [HFR.out, if_pos (.inl hbig)]
        have c0 := hc3.cell 0 (v := .int .i64 0) rfl
        have c1 := hc3.cell 1 (v := .int .i64 0) rfl
        have c2 := hc3.cell 2 (v := .int .u32 0) rfl
        have c3 := hc3.cell 3 (v := .slice none 0 0) rfl
        have f0 := hc3.free 0
        have f1 := hc3.free 1
        have f2 := hc3.free 2
        have f3 := hc3.free 3
        have hlt := hc3.lt
        have hE8 := (HE.out _ hbe3).e18
        unfold ErrAt at hE8
        have hn8 := (HE.out w (Below.refl _ _)).e18.lt
        have hne : (w.heap.size == 8) = false := by have := HNE.out 8 (by decide); simpa using this
        clear HFR
        go_wp2_with fail
        go_region
        all_goals go_wp2_with fail
        all_goals exact bodyPost_ret (v := .tuple #[.agg #[.int .i64 0, .int .i64 0, .int .u32 0, .slice none 0 0], .iface 248 (.pointer (some (ea 18)))]) (by simp [results, Tryd.results62, go_sem, c0, c1, c2, c3]) rfl (FRead.bad 18 HK18.out (by decide) (((((hbe3.setCell (Nat.le_refl _) _).setCell (Nat.le_refl _) _).setCell (Nat.le_refl _) _).setCell (Nat.le_refl _) _).drew))
      · have HSC : Hid (∀ w', Calls Tryd.prog 20 #[.int .i64 L] w' fun e' w'' => e' = .returned (.int .i64 (((L + 75) / 64 : Nat) : Int)) ∧ w' = w'') := fun w' => by
          have := sectors_any (L : Int) w' (by omega) (by omega)
          rw [sectorsV_small hbig] at this
          exact this
        obtain ⟨n, hn⟩ : ∃ n, n = (L + 75) / 64 := ⟨_, rfl⟩
        rw [← hn] at HSC HFR
        have hnL : L + 12 ≤ 64 * n := by omega
        have hn200 : n ≤ 200 := by omega
        have HNN := Lib.hid hn
        clear hn
        by_cases hfit : e - a < (n : Int)
        · have HK18 : Hid (frameRK d a e = 18) := by show _ = _; rw [HFR.out, if_pos (.inr hfit)]
          have c0 := hc3.cell 0 (v := .int .i64 0) rfl
          have c1 := hc3.cell 1 (v := .int .i64 0) rfl
          have c2 := hc3.cell 2 (v := .int .u32 0) rfl
          have c3 := hc3.cell 3 (v := .slice none 0 0) rfl
          have f0 := hc3.free 0
          have f1 := hc3.free 1
          have f2 := hc3.free 2
          have f3 := hc3.free 3
          have hlt := hc3.lt
          have hE8 := (HE.out _ hbe3).e18
          unfold ErrAt at hE8
          have hn8 := (HE.out w (Below.refl _ _)).e18.lt
          have hne : (w.heap.size == 8) = false := by have := HNE.out 8 (by decide); simpa using this
          clear HFR
          go_wp2_with fail
          refine (HSC.out _).mono ?_
          rintro e' w4 ⟨rfl, rfl⟩
          go_wp2_with fail
          go_region
          all_goals go_wp2_with fail
          all_goals exact bodyPost_ret (v := .tuple #[.agg #[.int .i64 0, .int .i64 0, .int .u32 0, .slice none 0 0], .iface 248 (.pointer (some (ea 18)))]) (by simp [results, Tryd.results62, go_sem, c0, c1, c2, c3]) rfl (FRead.bad 18 HK18.out (by decide) (((((hbe3.setCell (Nat.le_refl _) _).setCell (Nat.le_refl _) _).setCell (Nat.le_refl _) _).setCell (Nat.le_refl _) _).drew))
        · have hk3 := HK.out.stays hbe3
          have hL2 := load_any ea hk3 HF.out (a := a) n hn1 (by omega) (fun W hW => HE.out W (hbe3.trans (hW.mono hbe3.size)))
          have hAl := loadV_len HOK.out a n
          have hop : openK ((loadV d a n).take (L + 12)) = if csum ((loadV d a n).take (8 + L)) = fixedV (((loadV d a n).drop (8 + L)).take 4) then 0 else 18 := openK_sum2 (by rw [hAl]; exact hnL)
          have hso : sumOk d a ↔ csum ((loadV d a n).take (8 + L)) = fixedV (((loadV d a n).drop (8 + L)).take 4) := by
            unfold sumOk; rw [← HL.out, ← HNN.out]
          have hload : (frameAt d a).load = ((loadV d a n).take (8 + L)).drop 8 := by unfold frameAt; rw [← HL.out, ← HNN.out]
          obtain ⟨A, hA⟩ : ∃ A, A = loadV d a n := ⟨_, rfl⟩
          rw [← hA] at hL2 hAl hop hso hload
          have HFR2 : Hid (frameRK d a e = openK (A.take (L + 12))) := by
            show _ = _
            rw [HFR.out, if_neg (by omega), hop]
            by_cases hs : sumOk d a
            · rw [if_pos hs, if_pos (hso.1 hs)]
            · rw [if_neg hs, if_neg (fun h => hs (hso.2 h))]
          have HOP : Hid (openK (A.take (L + 12)) = 0 ∨ openK (A.take (L + 12)) = 18) := by
            show _ ∨ _
            rw [hop]; split
            · exact .inl rfl
            · exact .inr rfl
          have HL2 := Lib.hid hL2
          have HLD := Lib.hid hload
          have hA1 : L + 12 ≤ A.length := by omega
          have hA2 : A.length ≤ 100000 := by omega
          have hw1 : IntKind.i64.wrap (8 + (L : Int)) = 8 + (L : Int) := IntWalk.i64_in _ (by omega)
          clear hA hk3 hL2 hop hso hload HFR hAl
          go_wp2_with fail
          refine (HSC.out _).mono ?_
          rintro e' w4 ⟨rfl, rfl⟩
          go_wp2_with fail
          refine (HSC.out _).mono ?_
          rintro e' w4 ⟨rfl, rfl⟩
          go_wp2_with fail
          refine HL2.out.mono ?_
          rintro e' w4 ⟨v4, rfl, ho4, hb4⟩
          have hbe4 := hbe3.trans (hb4.mono hbe3.size)
          have hc4 := hc3.stays hb4
          have hr4 := ho4.row.gen
          clear HL2 HSC ho4 hb4 hbe3 hc3
          go_wp2_with (refine wpList_sliceTo (o := ⟨some 82, _, _, _, _, _⟩) (f := BV) hr4 (L + 12) hA1 Tryd.underlying23 infoB rfl _ _ rfl rfl .i64 _ rfl (by first | omega | (simp; omega)) ?_)
          intro v82 hr82
          have hE4 := HE.out w4 hbe4
          have hO := open_any ea v82 (A.take (L + 12)) w4 hr82 (by simp; omega) hE4.e1 hE4.e2 hE4.e18
          rcases HOP.out with h0 | h18
          · rw [h0, EV_zero, show opened (A.take (L + 12)) = A.take (8 + L) from by unfold opened; rw [if_pos h0, List.length_take, Nat.min_eq_left hA1, List.take_take, show min (L + 12 - 4) (L + 12) = 8 + L from by omega]] at hO
            have HK0 : Hid (frameRK d a e = 0) := HFR2.out.trans h0
            have HO := Lib.hid hO
            have hT : (A.take (8 + L)).length = 8 + L := by rw [List.length_take]; omega
            obtain ⟨T, hTe⟩ : ∃ T, T = A.take (8 + L) := ⟨_, rfl⟩
            rw [← hTe] at HO hT HLD
            clear h0 hO hr82 hr4 hE4 hTe
            go_wp2_with fail
            refine HO.out.mono ?_
            rintro e' w5 ⟨v5, rfl, ho5, hb5⟩
            have hbe5 := hbe4.trans (hb5.mono hbe4.size)
            have hc5 := hc4.stays hb5
            have hr5 := ho5.row
            obtain ⟨a5, c5, rfl, -, -⟩ := hr5.gen.shape
            have HQ : Hid (∀ q, (slcV a5 c5 8 T.length).ownBlock = some q → w.heap.size < q ∧ q < w5.heap.size) := fun q hq => ⟨Nat.lt_of_lt_of_le hc4.lt (World.ownsRow.lt ho5 q (slcV_block hq)).1, (World.ownsRow.lt ho5 q (slcV_block hq)).2⟩
            have HR8 : Hid (RowB w5 (slcV a5 c5 8 T.length) (T.drop 8)) := slc_rowB hr5 (by omega)
            have s1 := fun w => slc_run_l (P := Tryd.prog) Tryd.underlying23 infoB a5 T.length c5 8 .i64 (by omega) w
            have s2 := fun w => slc_at_l (P := Tryd.prog) Tryd.underlying23 infoB a5 T.length c5 8 .i64 (by omega) w
            simp only [show ((8 : Nat) : Int) = 8 from rfl] at s1 s2
            obtain ⟨sa, sl, sc, hS⟩ : ∃ sa sl sc, slcV a5 c5 8 T.length = .slice sa sl sc := ⟨_, _, _, rfl⟩
            simp only [hS] at s1 s2 HQ HR8
            have HT := Lib.hid hT
            clear hT
            have c0 := hc5.cell 0 (v := .int .i64 0) rfl
            have c1 := hc5.cell 1 (v := .int .i64 0) rfl
            have c2 := hc5.cell 2 (v := .int .u32 0) rfl
            have c3 := hc5.cell 3 (v := .slice none 0 0) rfl
            have f0 := hc5.free 0
            have f1 := hc5.free 1
            have f2 := hc5.free 2
            have f3 := hc5.free 3
            have hlt := hc5.lt
            clear HO ho5 hb5 hc4 hbe4 hr5 hS hc5
            go_wp2_with fail
            have hgr : Grew [w.heap.size] w5 ((((w5.setCell ⟨w.heap.size, 0, none⟩ (.int .i64 a)).setCell ⟨w.heap.size, 1, none⟩ (.int .i64 n)).setCell ⟨w.heap.size, 2, none⟩ (.int .u32 G)).setCell ⟨w.heap.size, 3, none⟩ (.slice sa sl sc)) := ((((Grew.refl [w.heap.size] w5).setCell (p := ⟨w.heap.size, 0, none⟩) (.inl (by simp)) _).setCell (p := ⟨w.heap.size, 1, none⟩) (.inl (by simp)) _).setCell (p := ⟨w.heap.size, 2, none⟩) (.inl (by simp)) _).setCell (p := ⟨w.heap.size, 3, none⟩) (.inl (by simp)) _
            have hrw : RowB ((((w5.setCell ⟨w.heap.size, 0, none⟩ (.int .i64 a)).setCell ⟨w.heap.size, 1, none⟩ (.int .i64 n)).setCell ⟨w.heap.size, 2, none⟩ (.int .u32 G)).setCell ⟨w.heap.size, 3, none⟩ (.slice sa sl sc)) (.slice sa sl sc) (frameAt d a).load := by
              rw [HLD.out]; exact hgr.rowB HR8.out (fun _ q hq => by have := (HQ.out q hq).1; simp; omega)
            have hbF : Below w.heap.size w ((((w5.setCell ⟨w.heap.size, 0, none⟩ (.int .i64 a)).setCell ⟨w.heap.size, 1, none⟩ (.int .i64 n)).setCell ⟨w.heap.size, 2, none⟩ (.int .u32 G)).setCell ⟨w.heap.size, 3, none⟩ (.slice sa sl sc)) := hgr.below hbe5 (by simp) hbe5.size
            have hpost := FRead.good (ea := ea) HK0.out n G (by rw [← HL.out]; exact HNN.out) HG.out (.slice sa sl sc) hrw (fun q hq => ⟨Nat.le_of_lt (HQ.out q hq).1, by have := (HQ.out q hq).2; simpa using this⟩) hbF
            refine bodyPost_ret (v := .tuple #[.agg #[.int .i64 a, .int .i64 n, .int .u32 G, .slice sa sl sc], .nilIface]) ?_ rfl hpost
            simp [results, Tryd.results62, go_sem, c0, c1, c2, c3]
          · rw [h18, EV_pos ea (by decide)] at hO
            have HK18 : Hid (frameRK d a e = 18) := HFR2.out.trans h18
            have HO := Lib.hid hO
            clear h18 hO hr82 hr4 hE4
            go_wp2_with fail
            refine HO.out.mono ?_
            rintro e' w5 ⟨v5, rfl, -, hb5⟩
            have hbe5 := hbe4.trans (hb5.mono hbe4.size)
            have hc5 := hc4.stays hb5
            have c0 := hc5.cell 0 (v := .int .i64 0) rfl
            have c1 := hc5.cell 1 (v := .int .i64 0) rfl
            have c2 := hc5.cell 2 (v := .int .u32 0) rfl
            have c3 := hc5.cell 3 (v := .slice none 0 0) rfl
            have f0 := hc5.free 0
            have f1 := hc5.free 1
            have f2 := hc5.free 2
            have f3 := hc5.free 3
            have hlt := hc5.lt
            have hE8 := (HE.out _ hbe5).e18
            unfold ErrAt at hE8
            have hn8 := (HE.out w (Below.refl _ _)).e18.lt
            have hne : (w.heap.size == 8) = false := by have := HNE.out 8 (by decide); simpa using this
            clear HO hb5 hc4 hbe4 hc5
            go_wp2_with fail
            go_region
            all_goals go_wp2_with fail
            all_goals exact bodyPost_ret (v := .tuple #[.agg #[.int .i64 0, .int .i64 0, .int .u32 0, .slice none 0 0], .iface 248 (.pointer (some (ea 18)))]) (by simp [results, Tryd.results62, go_sem, c0, c1, c2, c3]) rfl (FRead.bad 18 HK18.out (by decide) (((((hbe5.setCell (Nat.le_refl _) _).setCell (Nat.le_refl _) _).setCell (Nat.le_refl _) _).setCell (Nat.le_refl _) _).drew))
end Go.Proofs.YtgehbabcpmkgaaaDoor
