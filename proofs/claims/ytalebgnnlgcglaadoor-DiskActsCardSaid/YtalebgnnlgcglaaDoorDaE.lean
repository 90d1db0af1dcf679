/- A write, a read, a crash by layer 31's law, 'do'. -/
import Derived.Test.YtalebgnnlgcglaaDoorDaD
import Derived.Laws.BitsAllLaws
namespace Go.Proofs.YtalebgnnlgcglaaDoor
open Go Go.RowKit
set_option linter.unusedVariables false
section
variable {ea : Nat → Addr} {g gd gm h B N : Nat} {D : Dm} {va : Option Addr} {vc : Nat} {bs : List UInt8} {ka : Option Addr} {kc : Nat} {ks : List Int} {ta : Option Addr} {tc : Nat} {ts : List Int} {w : World}
set_option maxRecDepth 100000 in
set_option maxHeartbeats 4000000 in
theorem do_write (i : DoIn ea g gd gm h B N D va vc bs ka kc ks ta tc ts w) {an : Int} (hn1 : -9223372036854775808 ≤ an) (hn2 : an ≤ 9223372036854775807) :
    DoCall g h 0 an va vc bs ka kc ks ta tc ts w (DoP g gd gm h B N D w) := by
  obtain ⟨W1, hW1, i1, hcP, hn, hg1, hs1⟩ := i.box 0 an
  have hBY := bytes_any _ bs W1 (i1.ha W1 (Grew.refl _ _)).2.1 (by have := i.hl; omega)
  rw [hW1] at hBY
  have HBY := Lib.hid hBY
  obtain ⟨P, hP⟩ : ∃ P, P = w.heap.size := ⟨_, rfl⟩
  rw [← hP] at hcP hn
  have hPlt : P < W1.heap.size := by omega
  have hg4 : g < W1.heap.size ∧ gd < W1.heap.size ∧ gm < W1.heap.size ∧ h < W1.heap.size := ⟨i1.hk.lt.1, i1.hk.lt.2.1, i1.hk.lt.2.2, i1.hr.lt⟩
  have HI := Lib.hid i1
  have HG1 := Lib.hid hg1
  have HW1 := Lib.hid hW1
  have HCP := Lib.hid hcP
  have HNP := Lib.hid hn
  have HP := Lib.hid hP
  have HLT := Lib.hid hg4
  have hvl := i.hvc
  clear i i1 hcP hn hg1 hs1 hW1 hBY hP hg4
  go_enter Tryd.func14, Tryd.ntmps14
  go_wp2_with fail
  refine HBY.out.mono ?_
  rintro e w2 ⟨v2, rfl, hm2, hb2⟩
  rw [← HW1.out] at hm2 hb2
  rw [← HP.out]
  have hi2 := HI.out.stays hb2
  have hcP2 := HCP.out.stays hb2
  have hgg2 := HG1.out.add hb2
  obtain ⟨g2, rfl, hm2'⟩ := hm2
  have hmk : MarkB W1.heap.size w2 (.slice (some ⟨g2, 0, none⟩) bs.length (bs.length + 6)) bs := ⟨g2, rfl, hm2'⟩
  have hdr : Below w2.heap.size w2 w2.drew := (Below.refl _ _).drew
  have hid := hi2.stays hdr
  have hx := (hid.ha _ (Grew.refl _ _)).1
  have hW := write_any ea hid.hk (x := an) hn1 hn2 _ bs (hmk.row.stays hdr) (by have := hi2.hl; omega) (by have := hi2.hw; omega) hx.e1 hx.e3 hx.e17
  have HR2 : Hid (∀ W, Grew [g, gd, gm] w2 W → Rd2 W B h N D) := fun W hW => hi2.hr.past hi2.hk hW
  have HRW : Hid (∀ W, Grew [g, gd, gm] w2 W → Calls Tryd.prog 28 #[.pointer (some ⟨h, 0, none⟩), .int .i64 an, .string (strB bs)] W fun e w' => e = .returned (.int .i64 (writeK D an bs)) ∧ Rd2 w' B h (N + 1) (writeM D an bs) ∧ Grew [h] W w') := fun W hW =>
    rwrite_any (HR2.out W hW) (Nat.le_trans hi2.hB hW.size) (by have := hi2.hN; omega) (x := an) hn1 hn2 bs (by have := hi2.hl; omega) hi2.hw hi2.hk.ok.fuse2 hi2.hk.ok.fuse1
  have hwr := writeM_writes D an bs
  have hdu := writeM_dur D an bs
  have hKl := writeK_le D an bs
  obtain ⟨D2, hD2⟩ : ∃ D2, D2 = writeM D an bs := ⟨_, rfl⟩
  obtain ⟨K, hKe⟩ : ∃ K, K = writeK D an bs := ⟨_, rfl⟩
  rw [← hD2, ← hKe] at hW
  simp only [← hD2, ← hKe] at HRW
  rw [← hD2] at hwr hdu
  rw [← hKe] at hKl
  have HD2 : Hid (D2.dur.length = D.dur.length ∧ D2.writes ≤ D.writes + 1) := ⟨by rw [hdu], hwr⟩
  have HN1 : Hid (N + 41 ≤ 1000000) := hi2.hN
  have HWR := Lib.hid hW
  have HN : Hid (∀ W, Grew [g, gd, gm, h] w2 W → Calls Tryd.prog 12 #[EV ea K] W fun e w' => e = .returned (.int .i64 K) ∧ Below W.heap.size W w') := fun W hW => num_any ea K hKl W (hi2.ha W hW).1
  have HKE : Hid (∀ W, Grew [g, gd, gm, h] w2 W → Calls Tryd.prog 29 #[.slice (some ⟨g2, 0, none⟩) bs.length (bs.length + 6), .slice va bs.length vc] W fun e w' => e = .returned (.bool true) ∧ W = w') := fun W hW =>
    kept_any W1.heap.size _ _ bs W (hmk.grew hW (by intro i hi; have := HLT.out; simp at hi; omega)) (hi2.ha W hW).2.1 (by have := hi2.hl; omega)
  have HS : Hid (∀ W, Grew [g, gd, gm, h] w2 W → Grew [g, gd, gm, h] w2 W ∧ W.cell? ⟨P, 1, none⟩ = some (.int .i64 an) ∧ W.cell? ⟨P, 2, none⟩ = some (.slice va bs.length vc) ∧ (convert 22 9 (.slice va bs.length vc)).run Tryd.prog W = .ok (.string (strB bs)) W) := fun W hW =>
    have hx := hcP2.grew hW HNP.out
    ⟨hW, hx.cell 1 (v := .int .i64 an) rfl, hx.cell 2 (v := .slice va bs.length vc) rfl, convert_str (hi2.ha W hW).2.1⟩
  have hG20 : Grew [g, gd, gm, h] w2 w2 := Grew.refl _ _
  have hG2d : Grew [g, gd, gm, h] w2 w2.drew := hG20.drew
  have hQ2d : Grew [g, gd, gm] w2 w2.drew := (Grew.refl _ _).drew
  have bK : ((K : Int) == K) = true := by simp
  have bK' : ((K : Int) != K) = false := by simp
  have hc21 := hcP2.cell 1 (v := .int .i64 an) rfl
  have hc22 := hcP2.cell 2 (v := .slice va bs.length vc) rfl
  have HG2 := Lib.hid hgg2
  clear hi2 hcP2 hmk hm2' hdr hid hx hW hwr hdu hKl hD2 hKe hb2 hgg2
  go_wp2_with fail
  go_region_held3 (fun w' => Grew [g, gd, gm, h] w2 w' ∧ w'.cell? ⟨P, 1, none⟩ = some (.int .i64 an) ∧ w'.cell? ⟨P, 2, none⟩ = some (.slice va bs.length vc) ∧ (convert 22 9 (.slice va bs.length vc)).run Tryd.prog w' = .ok (.string (strB bs)) w')
    (exact HS.out _ (by assumption))
    ((first
      | (go_at_call 8; (with_reducible refine HWR.out.mono ?_); rintro e w5 ⟨rfl, hk5, hg5⟩; have hQ5 := hQ2d.trans hg5; have hG5 := hG2d.trans (hg5.mono (by simp)))
      | (go_at_call 12; (with_reducible refine (HN.out _ (by assumption)).mono ?_); rintro e w6 ⟨rfl, hb6⟩; have hQ6 := hQ5.add hb6; have hG6 := hG5.add hb6)
      | (go_at_call 28; (with_reducible refine (HRW.out _ (by assumption)).mono ?_); rintro e w7 ⟨rfl, hr7, hg7⟩; have hG7 := hG6.trans (hg7.mono (by simp)))
      | (go_at_call 29; (with_reducible refine (HKE.out _ (by assumption)).mono ?_); rintro e w8 ⟨rfl, rfl⟩)))
  have hk7 := (hk5.stays hb6).past (HR2.out _ hQ6) hg7
  have HZ := Lib.hid (DoP.mk (N := N) (w := w) (D := D) D2 hk7 (hr7.mono (by omega) HN1.out) HD2.out.1 HD2.out.2 (HG2.out.trans hG7))
  clear hk7 hk5 hg5 hQ5 hG5 hb6 hQ6 hG6 hr7 hg7 hG7 hG20 hG2d hQ2d HRW HWR HN HKE HS HR2 HBY HI HCP
  go_wp2_with fail
  go_ret
  exact HZ.out
set_option maxRecDepth 100000 in
set_option maxHeartbeats 4000000 in
theorem do_read (i : DoIn ea g gd gm h B N D va vc bs ka kc ks ta tc ts w) {an : Int} (hn1 : -9223372036854775808 ≤ an) (hn2 : an ≤ 9223372036854775807) :
    DoCall g h 1 an va vc bs ka kc ks ta tc ts w (DoP g gd gm h B N D w) := by
  obtain ⟨W1, hW1, i1, hcP, hn, hg1, hs1⟩ := i.box 1 an
  have hbW : Below w.heap.size w W1 := by rw [hW1]; exact (Below.refl _ _).alloc (Nat.le_refl _) _
  have hx := (i1.ha W1 (Grew.refl _ _)).1
  have hR := read_any ea i1.hk (x := an) hn1 hn2 hx.e1 hx.e17
  have hK := readK_le D an
  have hrd : ∀ W, Below W1.heap.size W1 W → Calls Tryd.prog 30 #[.pointer (some ⟨h, 0, none⟩), .int .i64 an] W fun e w' => e = .returned (.tuple #[.string (strB (readV D an)), .int .i64 (readK D an)]) ∧ W = w' := fun W hW => rread_any (i1.hr.stays hW) i1.hk.ok hn1 hn2
  have hlv : (readV D an).length ≤ 64 := by
    unfold readV
    split
    · rw [i1.hk.ok.get]; exact Nat.le_refl _
    · simp
  obtain ⟨V, hV⟩ : ∃ V, V = readV D an := ⟨_, rfl⟩
  obtain ⟨K, hKe⟩ : ∃ K, K = readK D an := ⟨_, rfl⟩
  rw [← hV] at hlv
  rw [← hKe] at hK
  rw [← hV, ← hKe] at hR
  simp only [← hV, ← hKe] at hrd
  rw [hW1] at hR
  have HR := Lib.hid hR
  have HRD := Lib.hid hrd
  have HI := Lib.hid i1
  have HW1 := Lib.hid hW1
  have HCP := Lib.hid hcP
  have HBW := Lib.hid hbW
  clear i i1 hcP hn hg1 hs1 hW1 hR hrd hV hKe hx hbW
  go_enter Tryd.func14, Tryd.ntmps14
  go_wp2_with fail
  refine HR.out.mono ?_
  rintro e w2 ⟨v2, rfl, ho2, hb2⟩
  rw [← HW1.out] at ho2 hb2
  have hcP2 := HCP.out.stays hb2
  have c21 := hcP2.cell 1 (v := .int .i64 an) rfl
  have HRD2 := Lib.hid (HRD.out w2 hb2)
  obtain ⟨a2, c2, rfl, hcl2, -⟩ := ho2.row.gen.shape
  have hb2' := HBW.out.trans (hb2.mono HBW.out.size)
  have HO2 := Lib.hid ho2
  have HB2 := Lib.hid hb2
  clear HR hcP2 ho2 hb2 HRD hb2'
  go_wp2_with fail
  refine HRD2.out.mono ?_
  rintro e w3 ⟨rfl, rfl⟩
  have hi2 := HI.out.stays HB2.out
  have HN := Lib.hid (num_any ea K hK w2 (hi2.ha w2 (Grew.refl _ _)).1)
  clear hi2 HRD2 c21
  go_wp2_with fail
  refine HN.out.mono ?_
  rintro e w4 ⟨rfl, hb4⟩
  have ho4 := HO2.out.stays hb4
  have s4 := convert_str ho4.row
  have bK : ((K : Int) == K) = true := by simp
  have bV : ((strB V).toList == (strB V).toList) = true := by simp
  have hb14 := HB2.out.trans (hb4.mono HB2.out.size)
  have hsz4 : W1.heap.size ≤ w4.heap.size := hb14.size
  have HO4 := Lib.hid ho4
  have HB14 := Lib.hid hb14
  clear HN hb4 ho4 HO2 HB2 hb14
  unfold maxLen at hcl2
  go_wp2_with fail
  clear s4 bV
  go_loopw [74] (fun i wr => ∃ (k : Nat) (Y : List UInt8), k ≤ V.length ∧ i = .int .i64 k ∧ Hid (Y.length = V.length) ∧ OwnB W1.heap.size wr (.slice a2 V.length c2) Y ∧ Below W1.heap.size W1 wr) (fun i _ => V.length - (Go.RowKit.intOf i).toNat)
  case atStart => exact ⟨0, V, Nat.zero_le _, rfl, rfl, HO4.out, HB14.out⟩
  case round =>
    clear HO4 HB14
    obtain ⟨k, Y, hk, rfl, HY, ho, hb⟩ := hrel
    by_cases hlt : k < V.length
    · obtain ⟨y, hy⟩ : ∃ y, Y[k]? = some y := ⟨_, List.getElem?_eq_getElem (by rw [HY.out]; exact hlt)⟩
      obtain ⟨gb, cb, hv, hgb, hgl, hcb, hfr, hcell⟩ := OwnL.block (f := BV) (E := 5) ho (by intro h; rw [h] at hy; cases hy)
      obtain rfl : a2 = some ⟨gb, 0, none⟩ := by injection hv
      have hck : wr.cell? ⟨gb, k, none⟩ = some (.int .u8 (y.toNat : Int)) := hcell k y hy
      have hfk := hfr k
      have hyb : (y.toNat : Int) < 256 := by have := y.toNat_lt; omega
      have HO := Lib.hid ho
      have HB := Lib.hid hb
      have hsb : W1.heap.size ≤ wr.heap.size := hb.size
      have hx8 : bits .xor .u8 (y.toNat : Int) 255 = ((b8 (y.toNat ^^^ 255)).toNat : Int) := by
        rw [b8_toNat, Nat.mod_eq_of_lt (Nat.xor_lt_two_pow (n := 8) (by omega) (by decide))]
        exact u8_xor_nat y.toNat 255 (by omega) (by decide)
      generalize b8 (y.toNat ^^^ 255) = z at hx8
      have HX8 := Lib.hid hx8
      clear hcell hfr hv ho hb hy hx8
      go_wp2_with fail
      go_roundw
      case rel =>
        rw [HX8.out]
        exact ⟨k + 1, Y.set k z, by omega, by go_num, by show _ = _; rw [List.length_set]; exact HY.out, OwnL.set (f := BV) (E := 5) HO.out k z, HB.out.setCell (p := ⟨gb, k, none⟩) hgb _⟩
      case measure => simp [Go.RowKit.intOf]; omega
    · obtain rfl : k = V.length := by omega
      have hgr : Grew [g, gd, gm, h] w wr := Grew.ofBelow (HBW.out.trans (hb.mono HBW.out.size))
      have HZ := Lib.hid ((HI.out.stays hb).idle (W' := wr) hgr)
      clear ho hb hgr
      go_wp2_with fail
      go_ret
      exact HZ.out
end
end Go.Proofs.YtalebgnnlgcglaaDoor
