/- frame.Scan, frame.Next, walked. -/
import Derived.Test.YtgehbabcpmkgaaaDoorDkC
namespace Go.Proofs.YtgehbabcpmkgaaaDoor
open Go Go.RowKit
set_option linter.unusedVariables false
/-- a frame that lies in memory: where its payload lies -/
structure Fp where
  ad : Option Addr
  len : Nat
  cap : Nat
  f : Fr
def Fp.v (p : Fp) : Value := .slice p.ad p.len p.cap
def frC (p : Fp) : List Value := [.int .i64 p.f.at', .int .i64 p.f.many, .int .u32 p.f.gen, .slice p.ad p.len p.cap]
theorem frC_len (p : Fp) : (frC p).length = 4 := rfl
theorem frC_one (p : Fp) : (frC p).all Value.oneCell' = true := rfl
theorem infoFr : (Tryd.prog.info? 122).map (fun i => (i.zero, i.size, i.bytes)) = some (some (.agg #[.int .i64 0, .int .i64 0, .int .u32 0, .slice none 0 0]), 4, 48) := by kernel_rfl
theorem RowB.keepRow {w w' : World} {v : Value} {bs : List UInt8} {row : Option Nat} (h : RowB w v bs) (hg : w.grownBy w' row) (hne : ∀ k, row = some k → v.ownBlock ≠ some k) : RowB w' v bs := by
  cases row with
  | none => exact ((Grew.refl [] w).grown hg (fun i h => by cases h)).rowB h (fun _ k _ => by simp)
  | some g => exact h.keep hg (fun _ => hne g rfl)
/-- the payloads that frames in memory have -/
def Loads (w : World) (v : Value) (fs : List Fp) : Prop := ∀ p ∈ fs, RowB w p.v p.f.load ∧ ∀ q, p.v.ownBlock = some q → q < w.heap.size ∧ v.ownBlock ≠ some q
theorem Loads.stays {w w' : World} {v : Value} {fs : List Fp} (h : Loads w v fs) (hb : Below w.heap.size w w') : Loads w' v fs := fun p hp =>
  ⟨(h p hp).1.stays hb, fun q hq => ⟨Nat.lt_of_lt_of_le ((h p hp).2 q hq).1 hb.size, ((h p hp).2 q hq).2⟩⟩
theorem Loads.grown {w w' : World} {v v' : Value} {fs : List Fp} (h : Loads w v fs) (hg : w.grownBy w' v.ownBlock) (hn : NewOrSame w v v') : Loads w' v' fs := fun p hp =>
  ⟨(h p hp).1.keepRow hg (fun k hk e => ((h p hp).2 k e).2 hk), fun q hq => ⟨Nat.lt_of_lt_of_le ((h p hp).2 q hq).1 hg.size, fun e => by
    rcases hn q e with h1 | h1
    · exact ((h p hp).2 q hq).2 h1
    · have := ((h p hp).2 q hq).1; omega⟩⟩
def FScan (ea : Nat → Addr) (d : Dm) (a e : Int) (least most : Nat) (w : World) (e' : Ending) (w' : World) : Prop :=
  ∃ v fs, e' = .returned (.tuple #[v, EV ea (scanK d a e)]) ∧ RowS frC w' v fs ∧ fs.map Fp.f = scanAll d a e least most ∧ (∀ p ∈ fs, RowB w' p.v p.f.load) ∧ Below w.heap.size w w'
set_option maxRecDepth 100000 in
theorem is_nil (b : Addr) (w : World) : Calls Tryd.prog 79 #[.nilIface, EP b] w fun e w' => e = .returned (.bool false) ∧ w = w' := by
  unfold EP
  have heq := run_eql_iface_nil_left (P := Tryd.prog) (w := w) 248 (.pointer (some b)) Tryd.underlying27
  go_enter Tryd.func79, Tryd.ntmps79
  go_wp2
  go_ret
  exact ⟨rfl, rfl⟩
set_option maxRecDepth 100000 in
set_option maxHeartbeats 8000000 in
theorem fscan_any (ea : Nat → Addr) {w : World} {g gd gm : Nat} {d : Dm} (hk : Dk w g gd gm d) (hf : d.fuse ≠ 0) {a e : Int} (ha1 : -9223372036854775808 ≤ a) (ha2 : a ≤ 9223372036854775807) (he1 : -9223372036854775808 ≤ e) (he2 : e ≤ 9223372036854775807) (least most : Nat) (hls : least ≤ 4294967295) (hms : most ≤ 4294967295) (hE : ∀ W, Below w.heap.size w W → ErrsFew ea W) :
    Calls Tryd.prog 65 #[.pointer (some ⟨g, 0, none⟩), .int .i64 a, .int .i64 e, .int .u32 least, .int .u32 most] w (FScan ea d a e least most w) := by
  have hsz := hk.ok.size
  by_cases hrange : a < 0 ∨ (d.dur.length : Int) < e
  · have hK1 : scanK d a e = 1 := if_pos hrange
    have HZ : Hid (FScan ea d a e least most w (.returned (.tuple #[.slice none 0 0, .iface 248 (.pointer (some (ea 1)))])) w) := by
      refine ⟨.slice none 0 0, [], by rw [hK1]; rfl, RowS.nil _, ?_, (fun p hp => by cases hp), Below.refl _ _⟩
      unfold scanAll; rw [hK1, if_neg (by decide)]; rfl
    have hC := check_bad ea hk hrange (hE w (Below.refl _ _)).e1
    rw [EV_pos ea (by decide)] at hC
    have HC := Lib.hid hC
    clear hk hE hrange hC hK1
    go_enter Tryd.func65, Tryd.ntmps65
    go_wp2_with fail
    refine HC.out.mono ?_
    rintro e' w1 ⟨rfl, rfl⟩
    go_wp2_with fail
    go_ret2
    exact HZ.out
  · have hK0 : scanK d a e = 0 := if_neg hrange
    have hn1 : 0 ≤ a := by omega
    have hn2 : e ≤ d.dur.length := by omega
    have HC := Lib.hid (check_ok hk hn1 hn2)
    obtain ⟨R, hR⟩ : ∃ R, R = scanV d e most (e - a).toNat a least := ⟨_, rfl⟩
    have HSA : Hid (scanAll d a e least most = R) := by show _ = _; unfold scanAll; rw [if_pos hK0, hR]
    have HR0 : Hid (([] : List Fp).map Fp.f ++ scanV d e most (e - a).toNat a least = R) := by show _ = _; rw [hR]; rfl
    have HK0 := Lib.hid hK0
    have HKD : Hid (∀ w', Below w.heap.size w w' → Dk w' g gd gm d) := fun w' hb => hk.stays hb
    have HE := Lib.hid hE
    have HF := Lib.hid hf
    have HRG : Hid (¬ (a < 0 ∨ (d.dur.length : Int) < e)) := hrange
    clear hk hE hrange hK0 hR hf
    go_enter Tryd.func65, Tryd.ntmps65
    go_wp2_with fail
    refine HC.out.mono ?_
    rintro e' w1 ⟨rfl, rfl⟩
    go_wp2_with fail
    go_loopw [14, 13, 3] (fun at' v ls wr => ∃ (A : Int) (k LS : Nat) (fs : List Fp), at' = .int .i64 A ∧ ls = .int .u32 LS ∧ 0 ≤ A ∧ A ≤ 9223372036854775807 ∧ LS ≤ 4294967295 ∧ (e - A).toNat ≤ k ∧ fs.length ≤ A ∧ OwnS 122 4 frC w.heap.size wr v fs ∧ Hid (fs.map Fp.f ++ scanV d e most k A LS = R) ∧ Loads wr v fs ∧ Below w.heap.size w wr) (fun at' _ _ _ => (e - intOf at').toNat)
    case atStart => exact ⟨a, _, least, [], rfl, rfl, hn1, ha2, hls, Nat.le_refl _, by simp; omega, OwnS.nil _ _, HR0, (fun p hp => by cases hp), Below.refl _ _⟩
    case round =>
      clear HR0 HC
      obtain ⟨A, k, LS, fs, rfl, rfl, hA0, hA9, hLS, hk, hfl, ho, hRR, hld, hbe⟩ := hrel
      by_cases hlt : A < e
      · obtain ⟨k, rfl⟩ : ∃ j, k = j + 1 := ⟨k - 1, by omega⟩
        have hR1 := fread_any ea (HKD.out wr hbe) HF.out (a := A) (e := e) (by omega) hA9 he1 he2 (fun W hW => HE.out W (hbe.trans (hW.mono hbe.size)))
        have hvlt : ∀ q, u13.ownBlock = some q → q < wr.heap.size := fun q hq => (World.ownsRow.lt ho q hq).2
        have HVL := Lib.hid hvlt
        rcases frameRK_in (d := d) (a := A) (e := e) (by omega) hlt with h0 | h18
        · obtain ⟨-, -, -, hz4, hz5, -⟩ := frameRK_zero h0
          obtain ⟨M, G, P, hFr⟩ : ∃ (M G : Nat) (P : List UInt8), frameAt d A = ⟨A, M, G, P⟩ := ⟨_, _, _, rfl⟩
          have hM : M = (longV d A + 75) / 64 := by have := congrArg Fr.many hFr; have h2 : (frameAt d A).many = (((longV d A + 75) / 64 : Nat) : Int) := rfl; rw [h2] at this; have h3 : (((longV d A + 75) / 64 : Nat) : Int) = (M : Int) := this; omega
          have hG : G ≤ 4294967295 := by have := congrArg Fr.gen hFr; have h2 : (frameAt d A).gen = num4 (getV d A) 0 := rfl; rw [h2] at this; have h3 : num4 (getV d A) 0 = G := this; rw [← h3]; exact num4_le _ _
          have HR1 : Hid (Calls Tryd.prog 62 #[.pointer (some ⟨g, 0, none⟩), .int .i64 A, .int .i64 e] wr fun e' w' => ∃ va vc, e' = .returned (.tuple #[.agg #[.int .i64 A, .int .i64 M, .int .u32 G, .slice va P.length vc], .nilIface]) ∧ RowB w' (.slice va P.length vc) P ∧ (∀ q, (Value.slice va P.length vc).ownBlock = some q → wr.heap.size ≤ q ∧ q < w'.heap.size) ∧ Below wr.heap.size wr w') :=
            hR1.mono fun e' w' ⟨v', q1, q2, q3, q4⟩ => by
              rw [frameRV_ok h0, hFr] at q1 q2
              obtain ⟨va, vc, rfl, -, -⟩ := q2.gen.shape
              rw [h0] at q1
              exact ⟨va, vc, q1, q2, q3, q4⟩
          have hMb : 1 ≤ M ∧ (M : Int) ≤ e - A := by omega
          have HIS : Hid (∀ w, Calls Tryd.prog 79 #[.nilIface, .iface 248 (.pointer (some (ea 18)))] w fun e w' => e = .returned (.bool false) ∧ w = w') := fun w => is_nil (ea 18) w
          have hGi : (G : Int) ≤ 4294967295 := by omega
          have HOW := Lib.hid ho
          have HLD := Lib.hid hld
          have hbs := hbe.size
          have HFR0 : Hid (frameAt d A = ⟨A, M, G, P⟩ ∧ frameRK d A e = 0) := ⟨hFr, h0⟩
          clear hR1 ho hld hFr hM h0 hz4 hz5 hvlt
          go_wp2_with fail
          refine HR1.out.mono ?_
          rintro e' w2 ⟨va, vc, rfl, hr2, hq2, hb2⟩
          obtain ⟨Wf, hWf⟩ : ∃ W, W = w2.alloc (.cells #[.int .i64 A, .int .i64 M, .int .u32 G, .slice va P.length vc] 122) := ⟨_, rfl⟩
          have hbA : Below w2.heap.size w2 Wf := by rw [hWf]; exact (Below.refl _ _).alloc (Nat.le_refl _) _
          have hcF : CellsAt Wf w2.heap.size 122 #[.int .i64 A, .int .i64 M, .int .u32 G, .slice va P.length vc] := by rw [hWf]; exact CellsAt.new w2 _ _
          have hbe2 := hbe.trans (hb2.mono hbe.size)
          have hbeF := hbe2.trans (hbA.mono hbe2.size)
          have hoF := (HOW.out.stays hb2).stays hbA
          have hldF : Loads Wf u13 (fs ++ [⟨va, P.length, vc, ⟨A, M, G, P⟩⟩]) := fun p hp => by
            rcases List.mem_append.1 hp with hp | hp
            · exact ((HLD.out.stays hb2).stays hbA) p hp
            · obtain rfl : p = ⟨va, P.length, vc, ⟨A, M, G, P⟩⟩ := by simpa using hp
              refine ⟨hr2.stays hbA, fun q hq => ⟨Nat.lt_of_lt_of_le (hq2 q hq).2 hbA.size, fun e => ?_⟩⟩
              have h1 := HVL.out q e
              have h2 := (hq2 q hq).1
              omega
          have hE8 : ErrAt (w2.alloc (.cells #[.int .i64 A, .int .i64 M, .int .u32 G, .slice va P.length vc] 122)) 8 (ea 18) := by rw [← hWf]; exact (HE.out Wf hbeF).e18
          unfold ErrAt at hE8
          have hs2 := hb2.size
          have HWF := Lib.hid hWf
          have HBF := Lib.hid hbeF
          have HOF := Lib.hid hoF
          have HLF := Lib.hid hldF
          have HCF := Lib.hid hcF
          have hbase : w.heap.size ≤ w2.heap.size := hbe2.size
          clear hbA hbe2 hbeF hoF hldF hcF hr2 hq2 hb2 HR1 HOW HLD hWf
          go_wp2_with fail
          refine (HIS.out _).mono ?_
          rintro e' w3 ⟨rfl, rfl⟩
          by_cases hin : LS ≤ G ∧ G ≤ most
          · obtain ⟨hi1, hi2⟩ := hin
            have HNX : Hid ((fs ++ [(⟨va, P.length, vc, ⟨A, M, G, P⟩⟩ : Fp)]).map Fp.f ++ scanV d e most k (A + M) G = R) := by
              have h1 := hRR.out
              rw [scanV_go ⟨hlt, HFR0.out.2, by rw [HFR0.out.1]; exact hi1, by rw [HFR0.out.1]; exact hi2⟩, HFR0.out.1] at h1
              show _ = _
              rw [List.map_append, List.append_assoc]
              exact h1
            have hlsI : ¬ ((G : Int) < LS) := by omega
            have hmsI : ¬ ((G : Int) > most) := by omega
            have t1 : decide (G < LS) = false := decide_eq_false (by omega)
            have t2 : decide (most < G) = false := decide_eq_false (by omega)
            clear hRR HFR0
            have hoW := HOF.out
            have hsW : w.heap.size ≤ Wf.heap.size := HBF.out.size
            have hfl2 : fs.length ≤ 100000000 := by omega
            have hcW := HCF.out
            have c0 := hcW.cell 0 (v := .int .i64 A) rfl
            have c1 := hcW.cell 1 (v := .int .i64 M) rfl
            have c2 := hcW.cell 2 (v := .int .u32 G) rfl
            have c3 := hcW.cell 3 (v := .slice va P.length vc) rfl
            clear hcW hE8
            rw [← HWF.out]
            go_wp2_with (at_builtin; go_must (refine wpList_pushS frC_len frC_one Tryd.underlying130 infoFr rfl (by decide) hoW ⟨va, P.length, vc, ⟨A, M, G, P⟩⟩ hfl2 hsW rfl _ _ rfl (by rfl) _ _ _ (by rfl) (by rfl) ?_))
            intro v4 w4 o4 g4 n4
            have hld4 := HLF.out.grown g4 n4
            have hbe4 := OwnS.below hoW HBF.out g4 HBF.out.size
            have hc4 := HCF.out.grown g4 (fun e => by
              have h1 := HVL.out _ e
              omega)
            have d1 := hc4.cell 1 (v := .int .i64 M) rfl
            clear g4 n4 hoW HOF HLF HBF HCF hc4 hsW HIS c0 c1 c2 c3
            go_wp2_with fail
            go_roundw
            case rel => exact ⟨A + M, k, G, _, by go_num, rfl, by omega, by omega, by omega, by omega, by simp; omega, o4, HNX.out, hld4, hbe4⟩
            case measure => simp [intOf]; omega
          · have HST : Hid (fs.map Fp.f = R) := by
              have h1 := hRR.out
              rw [scanV_stop (fun h => hin (by have := h.2.2; rw [HFR0.out.1] at this; exact this)), List.append_nil] at h1
              exact h1
            have HPO : Hid (FScan ea d a e least most w (.returned (.tuple #[u13, .nilIface])) (w2.alloc (.cells #[.int .i64 A, .int .i64 M, .int .u32 G, .slice va P.length vc] 122))) := by
              rw [← HWF.out]
              exact ⟨u13, fs, by rw [HK0.out]; rfl, HOF.out.row, by rw [HSA.out]; exact HST.out, fun p hp => (HLF.out p (List.mem_append.2 (.inl hp))).1, HBF.out⟩
            clear HOF HLF HBF HCF HIS hRR
            by_cases hlo : G < LS
            · have hlsI : (G : Int) < LS := by omega
              have t1 : decide (G < LS) = true := decide_eq_true hlo
              clear hin
              go_wp2_with fail
              go_ret2
              exact HPO.out
            · have hlsI : ¬ ((G : Int) < LS) := by omega
              have hmsI : ((G : Int) > most) := by omega
              have t1 : decide (G < LS) = false := decide_eq_false hlo
              have t2 : decide (most < G) = true := decide_eq_true (by omega)
              clear hin
              go_wp2_with fail
              go_ret2
              exact HPO.out
        · have HST : Hid (fs.map Fp.f = R) := by
            have h1 := hRR.out
            rw [scanV_stop (fun h => by rw [h18] at h; exact absurd h.2.1 (by decide)), List.append_nil] at h1
            exact h1
          have HR1 : Hid (Calls Tryd.prog 62 #[.pointer (some ⟨g, 0, none⟩), .int .i64 A, .int .i64 e] wr fun e' w' => ∃ va vl vc, e' = .returned (.tuple #[.agg #[.int .i64 0, .int .i64 0, .int .u32 0, .slice va vl vc], .iface 248 (.pointer (some (ea 18)))]) ∧ Below wr.heap.size wr w') :=
            hR1.mono fun e' w' ⟨v', q1, q2, q3, q4⟩ => by
              obtain ⟨va, vc, rfl, -, -⟩ := q2.gen.shape
              rw [frameRV_bad (by rw [h18]; decide), h18, EV_pos ea (by decide)] at q1
              exact ⟨va, _, vc, q1, q4⟩
          have HIS : Hid (∀ w, Calls Tryd.prog 79 #[.iface 248 (.pointer (some (ea 18))), .iface 248 (.pointer (some (ea 18)))] w fun e w' => e = .returned (.bool true) ∧ w = w') := fun w => is_same (ea 18) w
          have HOW := Lib.hid ho
          have HLD := Lib.hid hld
          have hbs := hbe.size
          clear hR1 ho hld hRR h18 hvlt HVL
          go_wp2_with fail
          refine HR1.out.mono ?_
          rintro e' w2 ⟨va, vl, vc, rfl, hb2⟩
          have hbA : Below w2.heap.size w2 (w2.alloc (.cells #[.int .i64 0, .int .i64 0, .int .u32 0, .slice va vl vc] 122)) := (Below.refl _ _).alloc (Nat.le_refl _) _
          have hbe2 := hbe.trans (hb2.mono hbe.size)
          have hbeF := hbe2.trans (hbA.mono hbe2.size)
          have hE8 := (HE.out _ hbeF).e18
          unfold ErrAt at hE8
          have hrowF := ((HOW.out.stays hb2).stays hbA).row
          have hldF := (HLD.out.stays hb2).stays hbA
          have HPO : Hid (FScan ea d a e least most w (.returned (.tuple #[u13, .nilIface])) (w2.alloc (.cells #[.int .i64 0, .int .i64 0, .int .u32 0, .slice va vl vc] 122))) :=
            ⟨u13, fs, by rw [HK0.out]; rfl, hrowF, by rw [HSA.out]; exact HST.out, fun p hp => (hldF p hp).1, hbeF⟩
          clear hbA hbe2 hbeF hrowF hldF hb2 HR1 HOW HLD
          go_wp2_with fail
          refine (HIS.out _).mono ?_
          rintro e' w3 ⟨rfl, rfl⟩
          go_wp2_with fail
          go_ret2
          exact HPO.out
      · have HST : Hid (fs.map Fp.f = R) := by
          have h1 := hRR.out
          rw [scanV_stop (fun h => hlt h.1), List.append_nil] at h1
          exact h1
        have HPO : Hid (FScan ea d a e least most w (.returned (.tuple #[u13, .nilIface])) wr) :=
          ⟨u13, fs, by rw [HK0.out]; rfl, ho.row, by rw [HSA.out]; exact HST.out, fun p hp => (hld p hp).1, hbe⟩
        clear ho hld hRR hbe
        go_wp2_with fail
        go_ret2
        exact HPO.out
end Go.Proofs.YtgehbabcpmkgaaaDoor
