/- The finder finds the cheapest trips to all versions. -/
import Derived.Test.YthabjnppmhlomaaDoorPnJ
import Derived.Test.YthabjnppmhlomaaDoorPnL
import Derived.Test.YthabjnppmhlomaaDoorQin
namespace Go.Proofs.YthabjnppmhlomaaDoor
open Go Go.RowKit
set_option linter.unusedVariables false
theorem nos_of {W : World} {v : Value} {gg n c : Nat} (h : v.ownBlock = some gg ∨ gg = W.heap.size) : NewOrSame W v (.slice (some ⟨gg, 0, none⟩) n c) := fun g hk => by
  obtain rfl : gg = g := by simpa [Value.ownBlock] using hk
  exact h.imp id (fun h => Nat.le_of_eq h.symm)
theorem least_N (P : Nat → Prop) : ∃ n, (∃ m, P m) → P n ∧ ∀ m, P m → n ≤ m := by
  by_cases h : ∃ m, P m
  · obtain ⟨m, hm⟩ := h
    have key : ∀ k, (∃ m, m ≤ k ∧ P m) → ∃ n, P n ∧ ∀ m, P m → n ≤ m := by
      intro k
      induction k with
      | zero => rintro ⟨m, h1, h2⟩; obtain rfl : m = 0 := by omega
                exact ⟨0, h2, fun _ _ => Nat.zero_le _⟩
      | succ k ih =>
        rintro ⟨m, h1, h2⟩
        by_cases hk : ∃ m, m ≤ k ∧ P m
        · exact ih hk
        · refine ⟨m, h2, fun m' h' => ?_⟩
          have : ¬ m' ≤ k := fun hle => hk ⟨m', hle, h'⟩
          omega
    obtain ⟨n, h1, h2⟩ := key m ⟨m, Nat.le_refl _, hm⟩
    exact ⟨n, fun _ => ⟨h1, h2⟩⟩
  · exact ⟨0, fun h' => absurd h' h⟩
/-- the search under way, and how much is left of it -/
def FindN (B F mf mb : Nat) (L : List Eg) (w : World) (lv : Value) (fr : Int → Option Value) (wr : World) (N : Nat) : Prop :=
  ∃ qv Bm Qm nb X, FI B w.heap.size F mf mb L wr lv qv fr Bm Qm nb ∧ nb ≤ degs L X ∧ Inv L (BT Bm) (Qm.map Prod.fst) X ∧ Below w.heap.size w wr ∧ N = 2 * (L.length - degs L X) + Qm.length
def FindP (L : List Eg) (w : World) (lv : Value) (e : Ending) (w' : World) : Prop :=
  ∃ B F mf mb fr qv Bm nb, e = .returned (.pointer (some ⟨F, 0, none⟩)) ∧ FI B w.heap.size F mf mb L w' lv qv fr Bm [] nb ∧ Least L (BT Bm) ∧ Below w.heap.size w w'
section
variable {w : World} {L : List Eg} {la : Option Addr} {lc : Nat}
set_option maxRecDepth 100000 in
set_option maxHeartbeats 2000000 in
theorem find_any (hL : RightE L) (hlen : L.length ≤ 3000) (hr : RowS eC w (.slice la L.length lc) L) :
    Calls Tryd.prog 21 #[.slice la L.length lc] w (FindP L w (.slice la L.length lc)) := by
  have hle : ∀ e ∈ L, -1 ≤ e.src ∧ e.src < 400 := fun e he => by have := hL e he; omega
  have HLE := Lib.hid hle
  obtain ⟨mf, hmf⟩ : ∃ mf, mf = w.heap.size := ⟨_, rfl⟩
  obtain ⟨W0, hW0⟩ : ∃ W0, W0 = ((w.alloc (.map #[] 0)).alloc (.map #[] 0)).alloc (.cells #[.slice la L.length lc, .map (some mf), .map (some (mf + 1)), .slice none 0 0] 63) := ⟨_, rfl⟩
  have hFr : Fr (mf + 1 + 1) mf (mf + 1) L w W0 (.slice la L.length lc) (fun _ => none) 0 := by
    refine ⟨?_, ?_, ?_, fun v => ?_, fun u v g _ hu => ?_, by omega, ?_⟩
    · rw [hW0]; exact CellsAt.new' (by simp; omega)
    · have h1 := ((MapI.made Tryd.prog 3 w).alloc (.map #[] 0)).alloc (.cells #[.slice la L.length lc, .map (some mf), .map (some (mf + 1)), .slice none 0 0] 63)
      rw [hW0, hmf]; rw [hmf] at h1; exact h1
    · have h1 := (MapI.made Tryd.prog 3 (w.alloc (.map #[] 0))).alloc (.cells #[.slice la L.length lc, .map (some mf), .map (some (mf + 1)), .slice none 0 0] 63)
      rw [hW0, hmf]; rw [hmf] at h1
      simpa using h1
    · exact OwnL.nil _ _
    · simp [frV, Value.ownBlock] at hu
    · rw [hW0]; exact (((Below.refl _ _).alloc (Nat.le_refl _) _).alloc (by simp) _).alloc (by simp; omega) _
  have HR : Hid (∀ W, Below w.heap.size w W → RowS eC W (.slice la L.length lc) L) := fun W hb => hr.stays hb
  have HFr0 : Hid (FrR (mf + 1 + 1) mf (mf + 1) L w (.slice la L.length lc) 0 W0) := ⟨_, hFr⟩
  have HMF := Lib.hid hmf
  have HW0 := Lib.hid hW0
  clear hr hFr hmf hW0 hle
  have hmm := @run_makeMap Tryd.prog
  go_enter Tryd.func21, Tryd.ntmps21
  go_wp2_with fail
  rw [← HMF.out, ← HW0.out]
  obtain ⟨M, hM⟩ : ∃ M, M = mf + 1 := ⟨_, rfl⟩
  obtain ⟨F, hF⟩ : ∃ F, F = M + 1 := ⟨_, rfl⟩
  rw [← hM] at HFr0 ⊢
  rw [← hF] at HFr0 ⊢
  have HM := Lib.hid hM
  have HFM := Lib.hid hF
  clear hM hF HMF HW0 hmm
  go_loopw [15] (fun u wr => ∃ k : Nat, u = .int .i64 k ∧ k ≤ L.length ∧ Hid (FrR F mf M L w (.slice la L.length lc) k wr)) (fun u _ => L.length - (intOf u).toNat)
  case atStart => exact ⟨0, rfl, Nat.zero_le _, HFr0.out⟩
  case round =>
    clear HFr0
    obtain ⟨k, rfl, hk, HFr⟩ := hrel
    by_cases h1 : k < L.length
    · obtain ⟨fr, hf⟩ := HFr.out
      obtain ⟨e, he⟩ : ∃ e, L[k]? = some e := ⟨_, List.getElem?_eq_getElem h1⟩
      obtain ⟨b, o, rfl, -, c0, c1, c2⟩ := edgeAt (HR.out wr hf.below) he
      have hsb := HLE.out e (List.mem_of_getElem? he)
      obtain ⟨W2, hW2⟩ : ∃ W2, W2 = wr.alloc (.cells #[.int .i64 e.src, .int .i64 e.dst, .int .i64 e.cost] 52) := ⟨_, rfl⟩
      obtain ⟨g5, hg5⟩ : ∃ g5, g5 = wr.heap.size := ⟨_, rfl⟩
      have hb2 : Below wr.heap.size wr W2 := by rw [hW2]; exact (Below.refl _ _).alloc (Nat.le_refl _) _
      have hcE : CellsAt W2 g5 52 #[.int .i64 e.src, .int .i64 e.dst, .int .i64 e.cost] := by rw [hW2, hg5]; exact CellsAt.new wr _ _
      have hf2 := hf.stays hb2
      obtain ⟨ua, uc, hu, -, -⟩ := (hf2.rows e.src).row.shape
      obtain ⟨xs, hxs⟩ : ∃ xs, xs = idxK L k e.src := ⟨_, rfl⟩
      have hxl : xs.length ≤ 3000 := by rw [hxs]; unfold idxK; have := fromK_len L k e.src; simp; omega
      rw [← hxs] at hu
      have hown : ∀ W, Below W2.heap.size W2 W → W.ownsRow (F + 1) 3 1 (.slice ua xs.length uc) xs.length (xs.map IV) := fun W hW => by
        have := (hf2.stays hW).rows e.src
        rw [← hxs, hu] at this
        exact this
      have hlkq : ∀ W, MapI Tryd.prog 3 W mf k fr → (Instr.lookup 58 (.map (some mf)) (.int .i64 e.src) false).run Tryd.prog W = .ok (.slice ua xs.length uc) W := fun W hW => by
        have := lookI1_run hW Tryd.underlying3 Tryd.underlying58 (zeroS _) e.src ⟨by omega, by omega⟩
        change _ = Result.ok (frV fr e.src) _ at this
        rw [hu] at this
        exact this
      have HS : Hid (∀ W, Below W2.heap.size W2 W → (W.cell? ⟨F, 1, none⟩ = some (.map (some mf)) ∧ W.cell? ⟨g5, 0, none⟩ = some (.int .i64 e.src)) ∧ (Instr.lookup 58 (.map (some mf)) (.int .i64 e.src) false).run Tryd.prog W = .ok (.slice ua xs.length uc) W) := fun W hW =>
        ⟨⟨(hf2.stays hW).cells.cell 1 rfl, (hcE.stays hW).cell 0 rfl⟩, hlkq W (hf2.stays hW).frm⟩
      have HAFT : Hid (∀ W, Below W2.heap.size W2 W → ∀ w6, W.grownBy w6 (Value.slice ua xs.length uc).ownBlock → (w6.cell? ⟨F, 1, none⟩ = some (.map (some mf)) ∧ w6.cell? ⟨g5, 0, none⟩ = some (.int .i64 e.src)) ∧ MapI Tryd.prog 3 w6 mf k fr ∧ Fr F mf M L w W (.slice (some ⟨b, o, none⟩) L.length lc) fr k ∧ ∀ w7, w6.grownBy w7 (some mf) → w7.cell? ⟨F, 1, none⟩ = some (.map (some mf)) ∧ w7.cell? ⟨g5, 0, none⟩ = some (.int .i64 e.src)) := fun W hW w6 hg6 => by
        have hfW := hf2.stays hW
        have hgt : ∀ g, (Value.slice ua xs.length uc).ownBlock = some g → F < g ∧ g < wr.heap.size := fun g hk => by
          have h5 := hf.rows e.src
          rw [hu] at h5
          have := h5.lt g hk
          omega
        have hm6 := hfW.frm.kept hg6 (fun hk => by have := (hgt mf hk.symm).1; have := hf.lo; omega)
        have hcF6 := hfW.cells.grown hg6 (fun hk => by have := (hgt F hk).1; omega)
        have hcE6 := (hcE.stays hW).grown hg6 (fun hk => by have := (hgt g5 hk).2; omega)
        exact ⟨⟨hcF6.cell 1 rfl, hcE6.cell 0 rfl⟩, hm6, hfW, fun w7 hg7 => ⟨(hcF6.grown hg7 (fun hk => by cases hk; exact hm6.block_ne hcF6 rfl)).cell 1 rfl, (hcE6.grown hg7 (fun hk => by cases hk; exact hm6.block_ne hcE6 rfl)).cell 0 rfl⟩⟩
      have HOWN := Lib.hid hown
      have HW2 := Lib.hid hW2
      have HG5 := Lib.hid hg5
      have HE := Lib.hid he
      have HXS := Lib.hid hxs
      have HU := Lib.hid hu
      have HF1 : Hid (F + 1 ≤ W2.heap.size) := hf2.cells.lt
      clear HFr hf he hb2 hcE hf2 hxs hown hlkq hW2 hg5 hu
      go_upto_region 5 with fail
      rw [← HW2.out, ← HG5.out]
      clear c0 c1 c2
      obtain ⟨i0, hi0, hz0, hz1, hz2⟩ := info_parts infoZ
      have hd0 : Below W2.heap.size W2 W2 := Below.refl _ _
      have z4 := (HS.out W2.drew hd0.drew).2
      have z5 : ∀ ob, (Instr.lookup 58 (.map (some mf)) (.int .i64 e.src) false).run Tryd.prog (W2.drew.alloc ob) = .ok (.slice ua xs.length uc) (W2.drew.alloc ob) := fun ob => (HS.out _ (below_al hd0.drew _)).2
      have z6 : ∀ ob, (Instr.lookup 58 (.map (some mf)) (.int .i64 e.src) false).run Tryd.prog (W2.alloc ob).drew = .ok (.slice ua xs.length uc) (W2.alloc ob).drew := fun ob => (HS.out _ (below_al hd0 _).drew).2
      have z7 : ∀ ob, (Instr.lookup 58 (.map (some mf)) (.int .i64 e.src) false).run Tryd.prog (W2.alloc ob) = .ok (.slice ua xs.length uc) (W2.alloc ob) := fun ob => (HS.out _ (below_al hd0 _)).2
      go_region_held3 (fun W => W.cell? ⟨F, 1, none⟩ = some (.map (some mf)) ∧ W.cell? ⟨g5, 0, none⟩ = some (.int .i64 e.src))
        ((first | exact m9 | exact m1 | (refine (HS.out _ ?_).1; (repeat (first | (with_reducible assumption) | (with_reducible refine below_al ?_ _) | (with_reducible refine Below.drew ?_) | (with_reducible exact Below.refl _ _))); done)))
        ((refine step_append_lies _ (by rfl) _ _ 23 (by rfl) (F + 1) 3 i0 _ 1 8 Tryd.underlying23 hi0 hz0 hz1 hz2 rfl (by omega) (.slice ua xs.length uc) xs.length (xs.map IV) (by rfl) (HOWN.out _ ?_) ⟨_, 0, none⟩ 1 1 [.int .i64 (k : Int)] (by rfl) (by rfl) (World.news_of_block (cs := #[.int .i64 (k : Int)]) (t := 3) (fr := (0, 0)) ?_) (by simp [Value.oneCell']) (by omega) (by unfold maxLen; omega) (by omega) (Nat.le_trans HF1.out (useful2 (B := W2.heap.size) ?_)) _ rfl ?_; (focus ((repeat (first | (with_reducible assumption) | (with_reducible refine below_al ?_ _) | (with_reducible refine Below.drew ?_) | (with_reducible exact Below.refl _ _))); done)); (focus (show CellsAt _ _ 3 #[.int .i64 (k : Int)]; (repeat (first | (with_reducible exact CellsAt.new _ _ _) | (with_reducible refine CellsAt.new' ?_; simp; done) | (with_reducible refine CellsAt.allocC ?_) | (with_reducible refine CellsAt.drew ?_))); done)); (focus ((repeat (first | (with_reducible assumption) | (with_reducible refine below_al ?_ _) | (with_reducible refine Below.drew ?_) | (with_reducible exact Below.refl _ _))); done)); intro gg cg w6 ho6 hg6 lies6 lt6; refine useful (HAFT.out _ ?_ w6 hg6) ?_; (focus ((repeat (first | (with_reducible assumption) | (with_reducible refine below_al ?_ _) | (with_reducible refine Below.drew ?_) | (with_reducible exact Below.refl _ _))); done)); rintro ⟨m1, m4, m5, m8⟩; obtain ⟨w7, hrun7, hm7, hg7⟩ := putI_run m4 Tryd.underlying3 Tryd.underlying58 (by unfold maxLen; omega) e.src (.slice (some ⟨gg, 0, none⟩) (xs.length + 1) cg) ⟨by omega, by omega⟩; have m9 : w7.cell? ⟨F, 1, none⟩ = some (.map (some mf)) ∧ w7.cell? ⟨g5, 0, none⟩ = some (.int .i64 e.src) := m8 w7 hg7))
      all_goals go_wp2_with fail
      all_goals go_roundw
      all_goals first
        | (simp only [intOf]; omega)
        | exact ⟨k + 1, by go_num, h1, m5.put HE.out (by rw [← HXS.out]; show World.ownsRow _ _ _ _ _ _ _; simpa [IV] using ho6) (by rw [HU.out]; exact hg6) (by rw [HU.out]; exact nos_of lies6) hm7 hg7⟩
    · obtain rfl : k = L.length := by omega
      obtain ⟨fr, hf⟩ := HFr.out
      have hFI : FI wr.heap.size w.heap.size F mf M L wr (.slice la L.length lc) (.slice none 0 0) fr (fun _ => none) [] 0 := by
        refine ⟨⟨⟨hf.cells, OwnS.nil _ _, hf.cells.lt, Nat.le_refl _⟩, fun x hx => (by cases hx), Hp.nil⟩, HR.out wr hf.below, fun hne k hk => ?_, ⟨_, hf.frm⟩, fun v => ⟨(hf.rows v).row, fun k hk => ?_⟩, hf.best, fun v x hx => (by cases hx), ?_⟩
        · have h3 := rowE_lt (HR.out w (Below.refl _ _)) hne k hk
          have := hf.lo; have := hf.below.size
          omega
        · have := (hf.rows v).lt k hk; omega
        · have := hf.lo; have := hf.cells.lt; have := hf.below.size; omega
      have hps := push_any hL hlen hFI ((trip0, none, 0) : TM) ⟨⟨by decide, by decide⟩, ⟨by decide, by decide⟩, by decide, RowL.nil wr, fun k hk => by simp [tV, Value.ownBlock] at hk⟩ (Mid.first L) (Nat.zero_le _)
      have HPS : Hid (Calls Tryd.prog 30 #[.pointer (some ⟨F, 0, none⟩), .agg #[.int .i64 (-1), .int .i64 0, .slice none 0 0]] wr (PsP wr.heap.size w.heap.size F mf M L wr (.slice la L.length lc) fr [] trip0 0 0)) := hps
      have HB0 : Hid (Below w.heap.size w wr) := hf.below
      clear hf hFI hps HFr
      go_wp2_with fail
      refine HPS.out.mono ?_
      rintro e w1 ⟨rfl, qv1, Bm1, Qm1, nb1, hF1, hn1, hM1, hb1⟩
      obtain ⟨B, hB⟩ : ∃ B, B = wr.heap.size := ⟨_, rfl⟩
      rw [← hB] at hF1
      have HN1 : Hid (∃ N, FindN B F mf M L w (.slice la L.length lc) fr w1 N) := ⟨_, qv1, Bm1, Qm1, nb1, [trip0.to], hF1, by unfold degs; simpa using hn1, hM1.inv rfl, HB0.out.trans hb1, rfl⟩
      clear hB hF1 hn1 hM1 hb1 HPS HB0
      go_wp2_with fail
      go_loopw [] (fun wr => Hid (∃ N, FindN B F mf M L w (.slice la L.length lc) fr wr N)) (fun wr => Classical.choose (least_N (fun N => FindN B F mf M L w (.slice la L.length lc) fr wr N)))
      case atStart => exact HN1.out
      case round =>
        obtain ⟨hN0, hmin⟩ := Classical.choose_spec (least_N (fun N => FindN B F mf M L w (.slice la L.length lc) fr wr N)) hrel.out
        have HMEAS : Hid (∀ W' N', FindN B F mf M L w (.slice la L.length lc) fr W' N' → N' < Classical.choose (least_N (fun N => FindN B F mf M L w (.slice la L.length lc) fr wr N)) → Classical.choose (least_N (fun N => FindN B F mf M L w (.slice la L.length lc) fr W' N)) < Classical.choose (least_N (fun N => FindN B F mf M L w (.slice la L.length lc) fr wr N))) := fun W' N' h1 h2 =>
          Nat.lt_of_le_of_lt ((Classical.choose_spec (least_N (fun N => FindN B F mf M L w (.slice la L.length lc) fr W' N)) ⟨N', h1⟩).2 N' h1) h2
        generalize Classical.choose (least_N (fun N => FindN B F mf M L w (.slice la L.length lc) fr wr N)) = MU at hN0 HMEAS ⊢
        obtain ⟨qv, Bm, Qm, nb, X, hFI, hnb, hI, hbw, hMU⟩ := hN0
        obtain ⟨aq, cq, rfl, -, -⟩ := hFI.q.1.2.1.row.shape tC_len
        have k3 : wr.cell? ⟨F, 3, none⟩ = some (.slice aq Qm.length cq) := hFI.q.1.1.cell 3 rfl
        have hdeg := degs_le L X hI.nod.2
        have hQs := hI.size
        rw [List.length_map] at hQs
        have HFI := Lib.hid hFI
        have HI := Lib.hid hI
        have HBW := Lib.hid hbw
        have HMU := Lib.hid hMU
        clear hrel hmin hFI hI hbw hMU HN1
        by_cases hq0 : Qm.length = 0
        · obtain rfl : Qm = [] := List.length_eq_zero_iff.1 hq0
          clear hq0 HMEAS
          simp only [List.length_nil] at k3
          go_wp2_with (first | (go_at_call 31; refine (qLen_any _ _ _ _).mono ?_; rintro e w2 ⟨rfl, rfl⟩))
          go_ret
          exact ⟨B, F, mf, M, fr, _, Bm, nb, rfl, HFI.out, HI.out.least hL, HBW.out⟩
        · obtain ⟨n, hn⟩ : ∃ n, Qm.length = n + 1 := ⟨Qm.length - 1, by omega⟩
          have hpop := hPop_any HFI.out.q hn (by omega)
          have HPOP : Hid (Calls _ _ _ wr _) := hpop
          have hta : ∀ (u : Value) (W : World), (Instr.typeAssert (.iface 56 u) 20 56 true).run Tryd.prog W = .ok (.tuple #[u, .bool true]) W := fun u W => by kernel_rfl
          have hqp : 0 < Qm.length := by omega
          have HN := Lib.hid hn
          clear hpop hq0 hn
          go_wp2_with (first | (go_at_call 31; refine (qLen_any _ _ _ _).mono ?_; rintro e w2 ⟨rfl, rfl⟩))
          refine HPOP.out.mono ?_
          rintro e w2 ⟨x, Q', rfl, hperm, hle, -, hqh⟩
          have hxq : x ∈ Qm := hperm.mem_iff.1 (by simp)
          obtain ⟨qv2, hF2, hn2, hg2⟩ := HFI.out.queue hqh
          have htx := (HFI.out.q.2.1 x hxq).new hn2 hg2
          obtain ⟨yb, hyb⟩ := HI.out.que_best (List.mem_map_of_mem hxq)
          obtain ⟨y, hy, hyb2⟩ : ∃ y, Bm x.1.to = some y ∧ y.1 = yb := by
            unfold BT at hyb
            obtain ⟨y, h1, h2⟩ := Option.map_eq_some_iff.1 hyb
            exact ⟨y, h1, h2⟩
          have hty := hF2.trips _ _ hy
          obtain ⟨⟨xt, xsu, xp⟩, xa, xc⟩ := x
          obtain ⟨⟨yt, ysu, yp⟩, ya, yc⟩ := y
          subst hyb2
          have HX : Hid (tG ((⟨xt, xsu, xp⟩, xa, xc) : TM) = .agg #[.int .i64 xt, .int .i64 xsu, .slice xa xp.length xc]) := rfl
          rw [HX.out]
          obtain ⟨W3, hW3⟩ : ∃ W3, W3 = w2.alloc (.cells #[.int .i64 xt, .int .i64 xsu, .slice xa xp.length xc] 56) := ⟨_, rfl⟩
          obtain ⟨g6, hg6⟩ : ∃ g6, g6 = w2.heap.size := ⟨_, rfl⟩
          have hb3 : Below w2.heap.size w2 W3 := by rw [hW3]; exact (Below.refl _ _).alloc (Nat.le_refl _) _
          have hc6 : CellsAt W3 g6 56 #[.int .i64 xt, .int .i64 xsu, .slice xa xp.length xc] := by rw [hW3, hg6]; exact CellsAt.new w2 _ _
          have hF3 := hF2.stays hb3
          have htx3 := htx.stays hb3
          have hty3 := hty.stays hb3
          have hxi : i64 xt := htx.1
          have HS : Hid (∀ W, Below W3.heap.size W3 W → W.cell? ⟨g6, 0, none⟩ = some (.int .i64 xt) ∧ W.cell? ⟨g6, 1, none⟩ = some (.int .i64 xsu) ∧ W.cell? ⟨g6, 2, none⟩ = some (.slice xa xp.length xc) ∧ W.cell? ⟨F, 2, none⟩ = some (.map (some M)) ∧ (Instr.lookup 59 (.map (some M)) (.int .i64 xt) false).run Tryd.prog W = .ok (.agg #[.int .i64 yt, .int .i64 ysu, .slice ya yp.length yc]) W) := fun W hW => by
            refine ⟨(hc6.stays hW).cell 0 rfl, (hc6.stays hW).cell 1 rfl, (hc6.stays hW).cell 2 rfl, (hF3.stays hW).q.1.1.cell 2 rfl, ?_⟩
            have h1 := lookI1_run (hF3.stays hW).best Tryd.underlying3 Tryd.underlying59 (zeroT W) xt hxi
            rw [h1, hy]; rfl
          have HC : Hid (∀ W, Below W3.heap.size W3 W → Calls Tryd.prog 33 #[.agg #[.int .i64 xt, .int .i64 xsu, .slice xa xp.length xc], .agg #[.int .i64 yt, .int .i64 ysu, .slice ya yp.length yc]] W fun e w' => e = .returned (.int .i64 (ordT ⟨xt, xsu, xp⟩ ⟨yt, ysu, yp⟩)) ∧ Below W.heap.size W w') := fun W hW =>
            order_any ⟨xt, xsu, xp⟩ ⟨yt, ysu, yp⟩ (tV ((⟨xt, xsu, xp⟩, xa, xc) : TM)) (tV ((⟨yt, ysu, yp⟩, ya, yc) : TM)) W (Row.stays htx3.2.2.2.1 hW) (Row.stays hty3.2.2.2.1 hW) htx3.2.2.1 hty3.2.2.1
          have hdr : Below W3.heap.size W3 W3.drew := (Below.refl _ _).drew
          have hbw2 : Below w.heap.size w w2 := by
            have hlo := HFI.out.lo
            have hq := HFI.out.q.1.2.1
            have hs := HFI.out.q.1.2.2.2
            refine Grew.below hg2 HBW.out (fun k hk => ?_) HBW.out.size
            rcases List.mem_cons.1 hk with e | e
            · rw [e]; exact hlo.1
            · have := (hq.lt k (by simpa using e)).1; omega
          have HF3 := Lib.hid hF3
          have HTX := Lib.hid htx3
          have HYB := Lib.hid hyb
          have HPERM := Lib.hid hperm
          have HLEQ := Lib.hid hle
          have HW3 := Lib.hid hW3
          have HG6 := Lib.hid hg6
          have HB3 : Hid (Below w.heap.size w W3) := hbw2.trans (hb3.mono hbw2.size)
          obtain ⟨R, hR⟩ : ∃ R, R = ordT ⟨xt, xsu, xp⟩ ⟨yt, ysu, yp⟩ := ⟨_, rfl⟩
          rw [← hR] at HC
          have HR2 := Lib.hid hR
          clear HPOP hxq hF2 hn2 hg2 htx hyb hy hty hb3 hc6 hF3 htx3 hty3 hbw2 hperm hle hqh hW3 hg6 hR HX k3
          go_upto_region 10 with fail
          rw [← HW3.out, ← HG6.out]
          refine wp_region_quiet_in (C := fun W => Below W3.heap.size W3 W) (by kernel_rfl) (by kernel_rfl) hdr ?_
          repeat
            (first
               | go_big_quiet_skip
               | (go_big_quiet_want
                  refine quiet_intro ?_ (fun wq hwq => ?_) ?_
                  rotate_left
                  focus
                    (obtain ⟨c0, c1, c2, c3, c4⟩ := HS.out _ hwq
                     go_simp
                     try first
                       | with_reducible rfl
                       | (exact hwq)
                       | ((with_reducible refine (HC.out _ hwq).mono ?_); rintro e wA ⟨rfl, hbA⟩; refine ⟨?_, hwq.trans (hbA.mono hwq.size)⟩; with_reducible rfl))
                  go_simp
                  go_big_quiet_on))
          refine wpQuiet_nil ?_
          intro w4 hb4
          have HF4 : Hid (FI B w.heap.size F mf M L w4 (.slice la L.length lc) qv2 fr Bm Q' nb) := HF3.out.stays hb4
          have HTX4 := Lib.hid (HTX.out.stays hb4)
          have HB4 : Hid (Below w.heap.size w w4) := HB3.out.trans (hb4.mono HB3.out.size)
          have HPF : Hid ((⟨xt, xsu, xp⟩ :: Q'.map Prod.fst).Perm (Qm.map Prod.fst)) := HPERM.out.map Prod.fst
          have HQL : Hid (Qm.length = Q'.length + 1) := by have := HPERM.out.length_eq; show _ = _; simp at this; omega
          have HAH : Hid (∀ q ∈ Q'.map Prod.fst, ordT ⟨xt, xsu, xp⟩ q ≤ 0) := fun q hq => by
            obtain ⟨z, hz, rfl⟩ := List.mem_map.1 hq
            exact HLEQ.out z hz
          have HC6 := (HS.out w4 hb4)
          obtain ⟨c0, c1, c2, -, -⟩ := HC6
          clear HS HC hb4 HF3 HTX HB3 HPERM HLEQ hdr
          by_cases h0 : R = 0
          · have e0 : (R == 0) = true := by simpa using h0
            have hmid : Mid L (BT Bm) (Q'.map Prod.fst) X ⟨xt, xsu, xp⟩ (Q'.map Prod.fst).length 0 := HI.out.fresh hL HPF.out HAH.out HYB.out (by rw [← HR2.out]; exact h0)
            have hps := push_any hL hlen HF4.out ((⟨xt, xsu, xp⟩, xa, xc) : TM) HTX4.out hmid (by omega)
            have HPS : Hid (Calls Tryd.prog 30 #[.pointer (some ⟨F, 0, none⟩), .agg #[.int .i64 xt, .int .i64 xsu, .slice xa xp.length xc]] w4 (PsP B w.heap.size F mf M L w4 (.slice la L.length lc) fr X ⟨xt, xsu, xp⟩ (Q'.map Prod.fst).length nb)) := hps
            clear hmid hps h0 HR2
            go_wp2_with fail
            refine HPS.out.mono ?_
            rintro e w5 ⟨rfl, qv5, Bm5, Qm5, nb5, hF5, hn5, hM5, hb5⟩
            have hdx := degs_le L (xt :: X) (List.nodup_cons.2 ⟨hM5.trip.2.2, hM5.nod.2⟩)
            have hds : degs L (xt :: X) = (fromV L xt).length + degs L X := by unfold degs; rw [List.map_cons, List.sum_cons]
            have hQ5 := hM5.size.1
            rw [List.length_map, List.length_map] at hQ5
            have HN5 : Hid (FindN B F mf M L w (.slice la L.length lc) fr w5 (2 * (L.length - degs L (xt :: X)) + Qm5.length)) := ⟨qv5, Bm5, Qm5, nb5, xt :: X, hF5, by rw [hds]; simp only at hn5; omega, hM5.inv rfl, HB4.out.trans hb5, rfl⟩
            have HLT : Hid (2 * (L.length - degs L (xt :: X)) + Qm5.length < MU) := by
              show _ < _
              rw [HMU.out, HQL.out, hds]
              rw [hds] at hdx
              simp only at hQ5
              omega
            clear hF5 hn5 hM5 hb5 hdx hds hQ5 HPS c0 c1 c2
            go_wp2_with fail
            go_roundw
            case rel => exact ⟨_, HN5.out⟩
            case measure => exact HMEAS.out _ _ HN5.out HLT.out
          · have e0 : (R == 0) = false := by simpa using h0
            have HN5 : Hid (FindN B F mf M L w (.slice la L.length lc) fr w4 (2 * (L.length - degs L X) + Q'.length)) := ⟨qv2, Bm, Q', nb, X, HF4.out, hnb, HI.out.stale HPF.out HYB.out (by rw [← HR2.out]; exact h0), HB4.out, rfl⟩
            have HLT : Hid (2 * (L.length - degs L X) + Q'.length < MU) := by
              show _ < _
              rw [HMU.out, HQL.out]
              omega
            clear h0 HR2 c0 c1 c2
            go_wp2_with fail
            go_roundw
            case rel => exact ⟨_, HN5.out⟩
            case measure => exact HMEAS.out _ _ HN5.out HLT.out
end
end Go.Proofs.YthabjnppmhlomaaDoor
