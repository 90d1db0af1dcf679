/- The document's Scan, walked; frame.Next; Same. -/
import Derived.Test.YtgehbabcpmkgaaaDoorDkD
import Derived.Test.YtgehbabcpmkgaaaDoorDkE
namespace Go.Proofs.YtgehbabcpmkgaaaDoor
open Go Go.RowKit
set_option linter.unusedVariables false
def rfrC (F : Fr) : List Value := [.int .i64 F.at', .int .i64 F.many, .int .u32 F.gen, .string (strB F.load)]
theorem rfrC_len (p : Fr) : (rfrC p).length = 4 := rfl
theorem rfrC_one (p : Fr) : (rfrC p).all Value.oneCell' = true := rfl
theorem infoRFr : (Tryd.prog.info? 126).map (fun i => (i.zero, i.size, i.bytes)) = some (some (.agg #[.int .i64 0, .int .i64 0, .int .u32 0, .string ⟨#[]⟩]), 4, 40) := by kernel_rfl
def RFScan (d : Dm) (a e : Int) (least most : Nat) (w : World) (e' : Ending) (w' : World) : Prop :=
  ∃ v, e' = .returned (.tuple #[v, .int .i64 (scanK d a e)]) ∧ RowS rfrC w' v (scanAll d a e least most) ∧ Below w.heap.size w w'
set_option maxRecDepth 100000 in
set_option maxHeartbeats 8000000 in
theorem rfscan_any {w : World} {B h N : Nat} {d : Dm} (r : Rd2 w B h N d) (hok : d.Ok) (hf : d.fuse ≠ 0) {a e : Int} (ha1 : -9223372036854775808 ≤ a) (ha2 : a ≤ 9223372036854775807) (he1 : -9223372036854775808 ≤ e) (he2 : e ≤ 9223372036854775807) (least most : Nat) (hls : least ≤ 4294967295) (hms : most ≤ 4294967295) :
    Calls Tryd.prog 66 #[.pointer (some ⟨h, 0, none⟩), .int .i64 a, .int .i64 e, .int .u32 least, .int .u32 most] w (RFScan d a e least most w) := by
  have hsz := hok.size
  have q0 := r.c0
  by_cases hrange : a < 0 ∨ (d.dur.length : Int) < e
  · have hK1 : scanK d a e = 1 := if_pos hrange
    have HZ : Hid (RFScan d a e least most w (.returned (.tuple #[.slice none 0 0, .int .i64 1])) w) := by
      refine ⟨.slice none 0 0, by rw [hK1]; rfl, ?_, Below.refl _ _⟩
      unfold scanAll; rw [hK1, if_neg (by decide)]; exact RowS.nil _
    by_cases ha : a < 0
    · clear r hrange hK1
      go_enter Tryd.func66, Tryd.ntmps66
      go_wp2_with fail
      go_ret2
      exact HZ.out
    · have hlt : (d.dur.length : Int) < e := by omega
      clear r hrange hK1
      go_enter Tryd.func66, Tryd.ntmps66
      go_wp2_with fail
      go_ret2
      exact HZ.out
  · have hK0 : scanK d a e = 0 := if_neg hrange
    have hn1 : 0 ≤ a := by omega
    have hn1' : ¬ a < 0 := by omega
    have hn2 : e ≤ d.dur.length := by omega
    have hn2' : ¬ ((d.dur.length : Int) < e) := by omega
    obtain ⟨R, hR⟩ : ∃ R, R = scanV d e most (e - a).toNat a least := ⟨_, rfl⟩
    have HSA : Hid (scanAll d a e least most = R) := by show _ = _; unfold scanAll; rw [if_pos hK0, hR]
    have HR0 : Hid (([] : List Fr) ++ scanV d e most (e - a).toNat a least = R) := by show _ = _; rw [hR]; rfl
    have HK0 := Lib.hid hK0
    have HRD : Hid (∀ w', Below w.heap.size w w' → Rd2 w' B h N d) := fun w' hb => r.stays hb
    have HF := Lib.hid hf
    have HOK := Lib.hid hok
    have hba : Below w.heap.size w (w.alloc (.cells #[] 126)) := (Below.refl _ _).alloc (Nat.le_refl _) _
    have how : OwnS 126 4 rfrC w.heap.size (w.alloc (.cells #[] 126)) (.slice (some ⟨w.heap.size, 0, none⟩) 0 0) [] := World.ownsRow_made (base := w.heap.size) (e := 126) (size := 4) w #[] 0 (Nat.le_refl _) (Nat.zero_le _) rfl
    have HHW := Lib.hid how
    have HBA := Lib.hid hba
    clear r hrange hK0 hR hf hok how hba
    go_enter Tryd.func66, Tryd.ntmps66
    go_wp2_with fail
    go_loopw [1, 12, 3] (fun at' v ls wr => ∃ (A : Int) (k LS : Nat) (fs : List Fr), at' = .int .i64 A ∧ ls = .int .u32 LS ∧ 0 ≤ A ∧ A ≤ 9223372036854775807 ∧ LS ≤ 4294967295 ∧ (e - A).toNat ≤ k ∧ fs.length ≤ A ∧ OwnS 126 4 rfrC w.heap.size wr v fs ∧ Hid (fs ++ scanV d e most k A LS = R) ∧ Below w.heap.size w wr) (fun at' _ _ _ => (e - intOf at').toNat)
    case atStart => exact ⟨a, _, least, [], rfl, rfl, hn1, ha2, hls, Nat.le_refl _, by simp; omega, HHW.out, HR0, HBA.out⟩
    case round =>
      clear HR0 HHW HBA q0
      obtain ⟨A, k, LS, fs, rfl, rfl, hA0, hA9, hLS, hk, hfl, ho, hRR, hbe⟩ := hrel
      by_cases hlt : A < e
      · obtain ⟨k, rfl⟩ : ∃ j, k = j + 1 := ⟨k - 1, by omega⟩
        have hR1 := rfread_any (HRD.out wr hbe) HOK.out HF.out (a := A) (e := e) (by omega) hA9 he1 he2
        rcases frameRK_in (d := d) (a := A) (e := e) (by omega) hlt with h0 | h18
        · obtain ⟨-, -, -, hz4, hz5, -⟩ := frameRK_zero h0
          obtain ⟨M, G, P, hFr⟩ : ∃ (M G : Nat) (P : List UInt8), frameAt d A = ⟨A, M, G, P⟩ := ⟨_, _, _, rfl⟩
          have hM : M = (longV d A + 75) / 64 := by have := congrArg Fr.many hFr; have h2 : (frameAt d A).many = (((longV d A + 75) / 64 : Nat) : Int) := rfl; rw [h2] at this; have h3 : (((longV d A + 75) / 64 : Nat) : Int) = (M : Int) := this; omega
          have hG : G ≤ 4294967295 := by have := congrArg Fr.gen hFr; have h2 : (frameAt d A).gen = num4 (getV d A) 0 := rfl; rw [h2] at this; have h3 : num4 (getV d A) 0 = G := this; rw [← h3]; exact num4_le _ _
          have HR1 : Hid (Calls Tryd.prog 63 #[.pointer (some ⟨h, 0, none⟩), .int .i64 A, .int .i64 e] wr fun e' w' => e' = .returned (.tuple #[.agg #[.int .i64 A, .int .i64 M, .int .u32 G, .string (strB P)], .int .i64 0]) ∧ Below wr.heap.size wr w') :=
            hR1.mono fun e' w' ⟨q1, q4⟩ => by
              rw [frameRV_ok h0, hFr, h0] at q1
              exact ⟨q1, q4⟩
          have hMb : 1 ≤ M ∧ (M : Int) ≤ e - A := by omega
          have hGi : (G : Int) ≤ 4294967295 := by omega
          have HOW := Lib.hid ho
          have hbs := hbe.size
          have HFR0 : Hid (frameAt d A = ⟨A, M, G, P⟩ ∧ frameRK d A e = 0) := ⟨hFr, h0⟩
          have HVL : Hid (∀ q, u12.ownBlock = some q → q < wr.heap.size) := fun q hq => (World.ownsRow.lt ho q hq).2
          clear hR1 ho hFr hM h0 hz4 hz5
          go_wp2_with fail
          refine HR1.out.mono ?_
          rintro e' w2 ⟨rfl, hb2⟩
          obtain ⟨Wf, hWf⟩ : ∃ W, W = w2.alloc (.cells #[.int .i64 A, .int .i64 M, .int .u32 G, .string (strB P)] 126) := ⟨_, rfl⟩
          have hbA : Below w2.heap.size w2 Wf := by rw [hWf]; exact (Below.refl _ _).alloc (Nat.le_refl _) _
          have hcF : CellsAt Wf w2.heap.size 126 #[.int .i64 A, .int .i64 M, .int .u32 G, .string (strB P)] := by rw [hWf]; exact CellsAt.new w2 _ _
          have hbe2 := hbe.trans (hb2.mono hbe.size)
          have hbeF := hbe2.trans (hbA.mono hbe2.size)
          have hoF := (HOW.out.stays hb2).stays hbA
          have hs2 := hb2.size
          have HSZ : Hid (Wf.heap.size = w2.heap.size + 1) := by show _ = _; rw [hWf]; simp
          have HWF := Lib.hid hWf
          have HBF := Lib.hid hbeF
          have HOF := Lib.hid hoF
          have HCF := Lib.hid hcF
          have hbase : w.heap.size ≤ w2.heap.size := hbe2.size
          clear hbA hbe2 hbeF hoF hcF hb2 HR1 HOW hWf
          by_cases hin : LS ≤ G ∧ G ≤ most
          · obtain ⟨hi1, hi2⟩ := hin
            have HNX : Hid ((fs ++ [(⟨A, M, G, P⟩ : Fr)]) ++ scanV d e most k (A + M) G = R) := by
              have h1 := hRR.out
              rw [scanV_go ⟨hlt, HFR0.out.2, by rw [HFR0.out.1]; exact hi1, by rw [HFR0.out.1]; exact hi2⟩, HFR0.out.1] at h1
              show _ = _
              rw [List.append_assoc]
              exact h1
            have hlsI : ¬ ((G : Int) < LS) := by omega
            have hmsI : ¬ ((G : Int) > most) := by omega
            have t1 : decide (G < LS) = false := decide_eq_false (by omega)
            have t2 : decide (most < G) = false := decide_eq_false (by omega)
            clear hRR HFR0
            have hoW := HOF.out
            have hsW : w.heap.size ≤ Wf.heap.size := HBF.out.size
            have hfl2 : fs.length ≤ 100000000 := by omega
            have hoW' := hoW
            rw [HWF.out] at hoW' hsW
            go_wp2_with (at_builtin; go_must (rw [← HWF.out]; refine wpList_pushS rfrC_len rfrC_one Tryd.underlying133 infoRFr rfl (by decide) hoW ⟨A, M, G, P⟩ hfl2 HBF.out.size rfl _ _ rfl (by rfl) _ _ _ (by rw [HSZ.out]; rfl) (by rfl) ?_))
            intro v4 w4 o4 g4 n4
            have hbe4 := OwnS.below hoW HBF.out g4 HBF.out.size
            have hc4 := HCF.out.grown g4 (fun e => by
              have h1 := HVL.out _ e
              omega)
            have d1 := hc4.cell 1 (v := .int .i64 M) rfl
            have d2 := hc4.cell 2 (v := .int .u32 G) rfl
            clear g4 n4 hoW HOF HBF HCF hc4 hsW hoW'
            go_wp2_with fail
            go_roundw
            case rel => exact ⟨A + M, k, G, _, by go_num, rfl, by omega, by omega, by omega, by omega, by simp; omega, o4, HNX.out, hbe4⟩
            case measure => simp [intOf]; omega
          · have HST : Hid (fs = R) := by
              have h1 := hRR.out
              rw [scanV_stop (fun h => hin (by have := h.2.2; rw [HFR0.out.1] at this; exact this)), List.append_nil] at h1
              exact h1
            have HPO : Hid (RFScan d a e least most w (.returned (.tuple #[u12, .int .i64 0])) (w2.alloc (.cells #[.int .i64 A, .int .i64 M, .int .u32 G, .string (strB P)] 126))) := by
              rw [← HWF.out]
              exact ⟨u12, by rw [HK0.out]; rfl, by rw [HSA.out, ← HST.out]; exact HOF.out.row, HBF.out⟩
            clear HOF HBF HCF hRR
            by_cases hlo : G < LS
            · have hlsI : (G : Int) < LS := by omega
              have t1 : decide (G < LS) = true := decide_eq_true hlo
              clear hin
              go_wp2_with fail
              go_ret2
              exact HPO.out
            · have hlsI : ¬ ((G : Int) < LS) := by omega
              have hmsI : ((G : Int) > most) := by omega
              have t1 : decide (G < LS) = false := decide_eq_false hlo
              have t2 : decide (most < G) = true := decide_eq_true (by omega)
              clear hin
              go_wp2_with fail
              go_ret2
              exact HPO.out
        · have HST : Hid (fs = R) := by
            have h1 := hRR.out
            rw [scanV_stop (fun h => by rw [h18] at h; exact absurd h.2.1 (by decide)), List.append_nil] at h1
            exact h1
          have HR1 : Hid (Calls Tryd.prog 63 #[.pointer (some ⟨h, 0, none⟩), .int .i64 A, .int .i64 e] wr fun e' w' => e' = .returned (.tuple #[.agg #[.int .i64 0, .int .i64 0, .int .u32 0, .string ⟨#[]⟩], .int .i64 18]) ∧ Below wr.heap.size wr w') :=
            hR1.mono fun e' w' ⟨q1, q4⟩ => by
              rw [frameRV_bad (by rw [h18]; decide), h18] at q1
              exact ⟨q1, q4⟩
          have HOW := Lib.hid ho
          have hbs := hbe.size
          clear hR1 ho hRR h18
          go_wp2_with fail
          refine HR1.out.mono ?_
          rintro e' w2 ⟨rfl, hb2⟩
          have hbA : Below w2.heap.size w2 (w2.alloc (.cells #[.int .i64 0, .int .i64 0, .int .u32 0, .string ⟨#[]⟩] 126)) := (Below.refl _ _).alloc (Nat.le_refl _) _
          have hbe2 := hbe.trans (hb2.mono hbe.size)
          have hbeF := hbe2.trans (hbA.mono hbe2.size)
          have hrowF := ((HOW.out.stays hb2).stays hbA).row
          have HPO : Hid (RFScan d a e least most w (.returned (.tuple #[u12, .int .i64 0])) (w2.alloc (.cells #[.int .i64 0, .int .i64 0, .int .u32 0, .string ⟨#[]⟩] 126))) :=
            ⟨u12, by rw [HK0.out]; rfl, by rw [HSA.out, ← HST.out]; exact hrowF, hbeF⟩
          clear hbA hbe2 hbeF hrowF hb2 HR1 HOW
          go_wp2_with fail
          go_ret2
          exact HPO.out
      · have HST : Hid (fs = R) := by
          have h1 := hRR.out
          rw [scanV_stop (fun h => hlt h.1), List.append_nil] at h1
          exact h1
        have HPO : Hid (RFScan d a e least most w (.returned (.tuple #[u12, .int .i64 0])) wr) :=
          ⟨u12, by rw [HK0.out]; rfl, by rw [HSA.out, ← HST.out]; exact ho.row, hbe⟩
        clear ho hRR hbe
        go_wp2_with fail
        go_ret2
        exact HPO.out
end Go.Proofs.YtgehbabcpmkgaaaDoor
