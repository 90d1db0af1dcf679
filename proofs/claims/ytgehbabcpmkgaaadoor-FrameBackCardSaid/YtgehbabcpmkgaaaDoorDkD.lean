/- The document's frame.Read, walked. -/
import Derived.Test.YtgehbabcpmkgaaaDoorDkX
import Derived.Test.YtgehbabcpmkgaaaDoorDkC
import Derived.Deep.RegionHeld3
namespace Go.Proofs.YtgehbabcpmkgaaaDoor
open Go Go.RowKit
set_option linter.unusedVariables false
def rfrV (F : Fr) : Value := .agg #[.int .i64 F.at', .int .i64 F.many, .int .u32 F.gen, .string (strB F.load)]
def RFRead (d : Dm) (a e : Int) (w : World) (e' : Ending) (w' : World) : Prop :=
  e' = .returned (.tuple #[rfrV (frameRV d a e), .int .i64 (frameRK d a e)]) ∧ Below w.heap.size w w'
theorem RFRead.bad {d : Dm} {a e : Int} {w w' : World} (k : Int) (hk : (frameRK d a e : Int) = k) (h0 : k ≠ 0) (hb : Below w.heap.size w w') :
    RFRead d a e w (.returned (.tuple #[.agg #[.int .i64 0, .int .i64 0, .int .u32 0, .string ⟨#[]⟩], .int .i64 k])) w' := by
  have hv : frameRV d a e = Fr.none := frameRV_bad (by omega)
  exact ⟨by rw [hv, hk]; rfl, hb⟩
theorem RFRead.good {d : Dm} {a e : Int} {w w' : World} (hk : frameRK d a e = 0) (n gen : Nat) (hn : n = (longV d a + 75) / 64) (hg : gen = num4 (getV d a) 0) (P : List UInt8) (hP : (frameAt d a).load = P) (hb : Below w.heap.size w w') :
    RFRead d a e w (.returned (.tuple #[.agg #[.int .i64 a, .int .i64 n, .int .u32 gen, .string (strB P)], .int .i64 0])) w' := by
  have hv : frameRV d a e = frameAt d a := frameRV_ok hk
  refine ⟨?_, hb⟩
  subst hn
  subst hg
  subst hP
  rw [hv, hk]; rfl
theorem Rd2.c0 {w : World} {B h N : Nat} {d : Dm} (r : Rd2 w B h N d) : w.cell? ⟨h, 0, none⟩ = some (.int .i64 d.dur.length) := by
  obtain ⟨m, vd, vw, k, sim, h64⟩ := r
  have := k.cells.cell 0 (v := .int .i64 m.size) rfl
  rw [sim.size] at this
  exact this
theorem conv_bytesQ (bs : List UInt8) (w : World) (hl : bs.length ≤ 1000000) : ∃ p : Nat × World, (convert 9 23 (.string (strB bs))).run Tryd.prog w = .ok (.slice (some ⟨w.heap.size, 0, none⟩) bs.length p.1) p.2 ∧ RowB p.2 (.slice (some ⟨w.heap.size, 0, none⟩) bs.length p.1) bs ∧ Below w.heap.size w p.2 := by
  have hsz := strB_size bs
  have hrun := run_bytes_of_string (P := Tryd.prog) w 9 23 5 (strB bs) Tryd.underlying9 Tryd.underlying23 Tryd.underlying5
  have hge := grownCap_ge w (strB bs).size 0 5
  have hle := grownCap_le_maxLen w (strB bs).size 0 5 (by rw [hsz]; unfold maxLen; omega)
  generalize grownCap w (strB bs).size 0 5 = C at *
  rw [hsz] at hrun
  refine ⟨(C, _), hrun, ?_, ((Below.refl _ _).drew).alloc (Nat.le_refl _) _⟩
  rw [hsz] at hge
  have hh := heap_alloc_new w.drew (.cells (bytesRow (strB bs) C) 5 ((bytesRow (strB bs) C).size, (bytesRow (strB bs) C).size + 1))
  refine .inr ⟨w.heap.size, 0, C, rfl, hge, hle, lt_of_block hh, fun j u hu => ?_⟩
  rw [Nat.zero_add]
  refine (cell_of_row _ _ _ _ _ _ hh).trans ?_
  rw [List.getElem?_map] at hu
  obtain ⟨x, hx, rfl⟩ := Option.map_eq_some_iff.1 hu
  obtain ⟨hj, rfl⟩ := List.getElem?_eq_some_iff.1 hx
  rw [bytesRow_at (strB bs) C j (by simpa [strB] using hj)]
  simp [strB, BV]
set_option maxRecDepth 100000 in
set_option maxHeartbeats 8000000 in
theorem rfread_any {w : World} {B h N : Nat} {d : Dm} (r : Rd2 w B h N d) (hok : d.Ok) (hf : d.fuse ≠ 0) {a e : Int} (ha1 : -9223372036854775808 ≤ a) (ha2 : a ≤ 9223372036854775807) (he1 : -9223372036854775808 ≤ e) (he2 : e ≤ 9223372036854775807) :
    Calls Tryd.prog 63 #[.pointer (some ⟨h, 0, none⟩), .int .i64 a, .int .i64 e] w (RFRead d a e w) := by
  have hb0 : Below w.heap.size w (w.alloc (.cells #[.int .i64 0, .int .i64 0, .int .u32 0, .string ⟨#[]⟩] 126)) := (Below.refl _ _).alloc (Nat.le_refl _) _
  have hc0 := CellsAt.new w #[.int .i64 0, .int .i64 0, .int .u32 0, .string ⟨#[]⟩] 126
  have hr0 := r.stays hb0
  have hsz := hok.size
  have q0 := hr0.c0
  have HB0 := Lib.hid hb0
  by_cases hrange : a < 0 ∨ (d.dur.length : Int) < e
  · have HK1 : Hid ((frameRK d a e : Int) = 1) := by show _ = _; unfold frameRK; rw [if_pos hrange]; rfl
    by_cases ha : a < 0
    · clear r hr0 hrange hb0 hc0 hf hok q0
      go_enter Tryd.func63, Tryd.ntmps63
      go_wp2_with fail
      exact bodyPost_ret (v := .tuple #[.agg #[.int .i64 0, .int .i64 0, .int .u32 0, .string ⟨#[]⟩], .int .i64 1]) (by simp [results, Tryd.results63, go_sem]) rfl (RFRead.bad 1 HK1.out (by decide) HB0.out)
    · have hlt : (d.dur.length : Int) < e := by omega
      clear r hr0 hrange hb0 hc0 hf hok
      go_enter Tryd.func63, Tryd.ntmps63
      go_wp2_with fail
      exact bodyPost_ret (v := .tuple #[.agg #[.int .i64 0, .int .i64 0, .int .u32 0, .string ⟨#[]⟩], .int .i64 1]) (by simp [results, Tryd.results63, go_sem]) rfl (RFRead.bad 1 HK1.out (by decide) HB0.out)
  · have hn1 : 0 ≤ a := by omega
    have hn1' : ¬ a < 0 := by omega
    have hn2 : e ≤ d.dur.length := by omega
    have hn2' : ¬ ((d.dur.length : Int) < e) := by omega
    by_cases hea : e ≤ a
    · have HK1 : Hid ((frameRK d a e : Int) = 15) := by show _ = _; unfold frameRK; rw [if_neg hrange, if_pos hea]; rfl
      clear r hr0 hrange hb0 hc0 hf hok
      go_enter Tryd.func63, Tryd.ntmps63
      go_wp2_with fail
      exact bodyPost_ret (v := .tuple #[.agg #[.int .i64 0, .int .i64 0, .int .u32 0, .string ⟨#[]⟩], .int .i64 15]) (by simp [results, Tryd.results63, go_sem]) rfl (RFRead.bad 15 HK1.out (by decide) HB0.out)
    · have hlt0 : a < e := by omega
      have HHAS : Hid (∀ k : Nat, a + k < d.dur.length → readK d (a + k) = 0 ∧ readV d (a + k) = getV d (a + k)) := fun k hk => by
        have h1 : readK d (a + k) = 0 := readK_of ⟨by omega, by omega⟩ hf
        exact ⟨h1, by unfold readV; rw [if_pos h1]⟩
      have HRR : Hid (∀ w' (k : Nat), Rd2 w' B h N d → a + k < d.dur.length → Calls Tryd.prog 52 #[.pointer (some ⟨h, 0, none⟩), .int .i64 (a + k)] w' fun e w'' => e = .returned (.tuple #[.string (strB (getV d (a + k))), .int .i64 0]) ∧ w' = w'') := fun w' k hr hk => by
        obtain ⟨h1, h2⟩ := HHAS.out k hk
        have := rread_any hr hok (x := a + k) (by omega) (by omega)
        rw [h1, h2] at this
        exact this
      have hR0 := HRR.out _ 0 hr0 (by omega)
      rw [show a + ((0 : Nat) : Int) = a from by omega] at hR0
      obtain ⟨X, hX⟩ : ∃ X, X = getV d a := ⟨_, rfl⟩
      obtain ⟨L, hL⟩ : ∃ L, L = longV d a := ⟨_, rfl⟩
      obtain ⟨G, hG⟩ : ∃ G, G = num4 (getV d a) 0 := ⟨_, rfl⟩
      have hgl := hok.get a
      have hLX : num4 X 4 = L := by rw [hL, hX]; rfl
      have hLb := num4_le X 4
      have hGb := num4_le X 0
      rw [hLX] at hLb
      have hGX : num4 X 0 = G := by rw [hG, hX]
      rw [hGX] at hGb
      rw [← hX] at hR0 hgl
      obtain ⟨v1, w1, hcv, hrB, hb1⟩ := conv_bytes X (w.alloc (.cells #[.int .i64 0, .int .i64 0, .int .u32 0, .string ⟨#[]⟩] 126)) (by omega)
      have hF1 := rfixed_any v1 X 4 4 w1 hrB (by omega) (by decide) (by omega)
      rw [show fixedV ((X.drop 4).take 4) = num4 X 4 from rfl, hLX, show ((4 : Nat) : Int) = 4 from rfl] at hF1
      have hbe1 := hb0.trans (hb1.mono hb0.size)
      have hc1 := hc0.stays hb1
      have HR1 := Lib.hid (hr0.stays hb1)
      have HR0 := Lib.hid hR0
      have HF1 := Lib.hid hF1
      have HFR : Hid (frameRK d a e = if 8192 < L ∨ e - a < ((L + 75) / 64 : Nat) then 18 else if sumOk d a then 0 else 18) := by show _ = _; unfold frameRK; rw [if_neg hrange, if_neg hea, ← hL]
      have HG := Lib.hid hG
      have HL := Lib.hid hL
      have HOK := Lib.hid hok
      have hLi : (L : Int) ≤ 4294967295 := by omega
      clear r hr0 hrange hc0 hf hX hL hG hLX hGX hgl hea hok hb0 hR0 hF1 hrB hb1
      by_cases hbig : 8192 < L
      · have HK18 : Hid ((frameRK d a e : Int) = 18) := by show _ = _; rw [HFR.out, if_pos (.inl hbig)]; rfl
        have c0 := hc1.cell 0 (v := .int .i64 0) rfl
        have c1 := hc1.cell 1 (v := .int .i64 0) rfl
        have c2 := hc1.cell 2 (v := .int .u32 0) rfl
        have c3 := hc1.cell 3 (v := .string ⟨#[]⟩) rfl
        have f0 := hc1.free 0
        have f1 := hc1.free 1
        have f2 := hc1.free 2
        have f3 := hc1.free 3
        have hlt := hc1.lt
        clear HFR
        go_enter Tryd.func63, Tryd.ntmps63
        go_wp2_with fail
        refine HR0.out.mono ?_
        rintro e' w2 ⟨rfl, rfl⟩
        go_wp2_with fail
        refine HF1.out.mono ?_
        rintro e' w2 ⟨rfl, rfl⟩
        go_wp2_with fail
        exact bodyPost_ret (v := .tuple #[.agg #[.int .i64 0, .int .i64 0, .int .u32 0, .string ⟨#[]⟩], .int .i64 18]) (by simp [results, Tryd.results63, go_sem, c0, c1, c2, c3]) rfl (RFRead.bad 18 HK18.out (by decide) ((((hbe1.setCell (Nat.le_refl _) _).setCell (Nat.le_refl _) _).setCell (Nat.le_refl _) _).setCell (Nat.le_refl _) _))
      · have HSC : Hid (∀ w', Calls Tryd.prog 21 #[.int .i64 L] w' fun e' w'' => e' = .returned (.int .i64 (((L + 75) / 64 : Nat) : Int)) ∧ w' = w'') := fun w' => by
          have := rsectors_any (L : Int) w' (by omega) (by omega)
          rw [sectorsV_small hbig] at this
          exact this
        obtain ⟨n, hn⟩ : ∃ n, n = (L + 75) / 64 := ⟨_, rfl⟩
        rw [← hn] at HSC HFR
        have hnL : L + 12 ≤ 64 * n := by omega
        have hn200 : n ≤ 200 := by omega
        have HNN := Lib.hid hn
        clear hn
        by_cases hfit : e - a < (n : Int)
        · have HK18 : Hid ((frameRK d a e : Int) = 18) := by show _ = _; rw [HFR.out, if_pos (.inr hfit)]; rfl
          have c0 := hc1.cell 0 (v := .int .i64 0) rfl
          have c1 := hc1.cell 1 (v := .int .i64 0) rfl
          have c2 := hc1.cell 2 (v := .int .u32 0) rfl
          have c3 := hc1.cell 3 (v := .string ⟨#[]⟩) rfl
          have f0 := hc1.free 0
          have f1 := hc1.free 1
          have f2 := hc1.free 2
          have f3 := hc1.free 3
          have hlt := hc1.lt
          clear HFR
          go_enter Tryd.func63, Tryd.ntmps63
          go_wp2_with fail
          refine HR0.out.mono ?_
          rintro e' w2 ⟨rfl, rfl⟩
          go_wp2_with fail
          refine HF1.out.mono ?_
          rintro e' w2 ⟨rfl, rfl⟩
          go_wp2_with fail
          refine (HSC.out _).mono ?_
          rintro e' w2 ⟨rfl, rfl⟩
          go_wp2_with fail
          exact bodyPost_ret (v := .tuple #[.agg #[.int .i64 0, .int .i64 0, .int .u32 0, .string ⟨#[]⟩], .int .i64 18]) (by simp [results, Tryd.results63, go_sem, c0, c1, c2, c3]) rfl (RFRead.bad 18 HK18.out (by decide) ((((hbe1.setCell (Nat.le_refl _) _).setCell (Nat.le_refl _) _).setCell (Nat.le_refl _) _).setCell (Nat.le_refl _) _))
        · have hAl := loadV_len HOK.out a n
          have hop : sumOk d a ↔ csum ((loadV d a n).take (8 + L)) = fixedV (((loadV d a n).drop (8 + L)).take 4) := by
            unfold sumOk; rw [← HL.out, ← HNN.out]
          have hload : (frameAt d a).load = ((loadV d a n).take (8 + L)).drop 8 := by unfold frameAt; rw [← HL.out, ← HNN.out]
          have HHL : Hid (∀ k, (loadV d a k).length = 64 * k ∧ (getV d (a + k)).length = 64) := fun k => ⟨loadV_len HOK.out a k, HOK.out.get _⟩
          have hgen : G = num4 (loadV d a n) 0 := by
            obtain ⟨m, rfl⟩ : ∃ m, n = m + 1 := ⟨n - 1, by omega⟩
            rw [HG.out, ← loadV_take HOK.out a m]
            unfold num4
            rw [List.drop_zero, List.drop_zero, List.take_take]; rfl
          obtain ⟨A, hA⟩ : ∃ A, A = loadV d a n := ⟨_, rfl⟩
          rw [← hA] at hAl hop hload hgen
          have HA := Lib.hid hA
          -- the conversions behind the loop
          have hzA : (strB A).size = A.length := strB_size A
          have hA1 : L + 12 ≤ A.length := by omega
          have hA2 : A.length ≤ 100000 := by omega
          have hxT := strB_take A (8 + L)
          have hTl : (A.take (8 + L)).length = 8 + L := by rw [List.length_take]; omega
          have hxP : (strB A).extract 8 (8 + L) = strB ((A.take (8 + L)).drop 8) := by
            apply ByteArray.ext
            simp [strB, ByteArray.data_extract]
            rw [List.drop_take, Nat.add_sub_cancel_left]
          obtain ⟨T, hT⟩ : ∃ T, T = A.take (8 + L) := ⟨_, rfl⟩
          rw [← hT] at hop hload hxT hTl hxP
          obtain ⟨v2, w2, hcv2, hrB2, hb2⟩ := conv_bytes T w1 (by omega)
          obtain ⟨v3, w3, hcv3, hrB3, hb3⟩ := conv_bytes A w2 (by omega)
          have hSm := rsum_any v2 T w2 hrB2 (by omega)
          have hF3 := rfixed_any v3 A (8 + L) 4 w3 hrB3 (by omega) (by decide) (by omega)
          rw [show ((4 : Nat) : Int) = 4 from rfl, show ((8 + L : Nat) : Int) = 8 + (L : Int) from by omega] at hF3
          have hSl := csum_lt T
          obtain ⟨S, hS⟩ : ∃ S, S = csum T := ⟨_, rfl⟩
          obtain ⟨F, hF⟩ : ∃ F, F = fixedV ((A.drop (8 + L)).take 4) := ⟨_, rfl⟩
          rw [← hS] at hSm hop hSl
          rw [← hF] at hF3 hop
          have hSi : (S : Int) ≤ 4294967295 := by omega
          have hbe2 := hbe1.trans (hb2.mono hbe1.size)
          have hbe3 := hbe2.trans (hb3.mono hbe2.size)
          have hc3 := (hc1.stays hb2).stays hb3
          have HSm := Lib.hid hSm
          have HF3 := Lib.hid hF3
          have HLD := Lib.hid hload
          have HOP := Lib.hid hop
          have HAL := Lib.hid hAl
          have HTL := Lib.hid hTl
          have hw8 : (8 : Int) + L ≤ A.length := by omega
          have HC3 := Lib.hid hc3
          have HBE3 := Lib.hid hbe3
          have HGN := Lib.hid hgen
          clear hA hAl hop hload hSm hF3 hSl hS hF hrB2 hb2 hb3 hrB3 hT hc1 hbe1 hbe2 hTl hc3 hbe3 hgen
          go_enter Tryd.func63, Tryd.ntmps63
          go_wp2_with fail
          refine HR0.out.mono ?_
          rintro e' w4 ⟨rfl, rfl⟩
          go_wp2_with fail
          refine HF1.out.mono ?_
          rintro e' w4 ⟨rfl, rfl⟩
          go_wp2_with fail
          refine (HSC.out _).mono ?_
          rintro e' w4 ⟨rfl, rfl⟩
          go_wp2_with fail
          refine (HSC.out _).mono ?_
          rintro e' w4 ⟨rfl, rfl⟩
          clear HR0 HF1 HSC q0 hcv
          go_wp2_with fail
          go_loopw [13, 12] (fun i s wr => ∃ k : Nat, k ≤ n ∧ i = .int .i64 k ∧ s = .string (strB (loadV d a k)) ∧ w1 = wr) (fun i _ _ => n - (intOf i).toNat)
          case atStart => exact ⟨0, Nat.zero_le _, rfl, rfl, rfl⟩
          case round =>
            obtain ⟨k, hkn, rfl, rfl, rfl⟩ := hrel
            by_cases hlt : k < n
            · have HRk := Lib.hid (HRR.out w1 k HR1.out (by omega))
              have hlk := (HHL.out k).1
              have hlg := (HHL.out k).2
              have hadd := str_add (loadV d a k) (getV d (a + k)) (by omega)
              have HLK : Hid (loadV d a (k + 1) = loadV d a k ++ getV d (a + k)) := rfl
              generalize getV d (a + k) = Y at *
              generalize loadV d a k = Z at *
              clear hcv2 hcv3 hxT hxP hlk hlg
              go_wp2_with fail
              refine HRk.out.mono ?_
              rintro e' w4 ⟨rfl, rfl⟩
              go_wp2_with fail
              go_roundw
              case rel => exact ⟨k + 1, by omega, by go_num, by rw [HLK.out], trivial⟩
              case measure => simp [intOf]; omega
            · obtain rfl : k = n := by omega
              rw [← HA.out]
              clear HRR HR1 HHL HHAS
              have hHSK : S = F → frameRK d a e = 0 := fun h => by rw [HFR.out, if_neg (by omega), if_pos (HOP.out.2 h)]
              have hHSN : S ≠ F → (frameRK d a e : Int) = 18 := fun h => by rw [HFR.out, if_neg (by omega), if_neg (fun h' => h (HOP.out.1 h'))]; rfl
              by_cases hq : S = F
              · have hsf : ((S : Int) != (F : Int)) = false := by simp; omega
                have HK0 := Lib.hid (hHSK hq)
                clear hHSK hHSN hq
                go_wp2_with fail
                refine HSm.out.mono ?_
                rintro e' w4 ⟨rfl, rfl⟩
                go_wp2_with fail
                refine HF3.out.mono ?_
                rintro e' w4 ⟨rfl, rfl⟩
                obtain ⟨cv, hcv4⟩ := Classical.axiomOfChoice (fun W => conv_bytesQ A W (by omega))
                have hq1 : ∀ W : World, (convert 9 23 (.string (strB A))).run Tryd.prog W = .ok (.slice (some ⟨W.heap.size, 0, none⟩) A.length (cv W).1) (cv W).2 := fun W => (hcv4 W).1
                have HQ2 : Hid (∀ W : World, RowB (cv W).2 (.slice (some ⟨W.heap.size, 0, none⟩) A.length (cv W).1) A ∧ Below W.heap.size W (cv W).2) := fun W => (hcv4 W).2
                have HFX : Hid (∀ W : World, Calls Tryd.prog 88 #[.slice (some ⟨W.heap.size, 0, none⟩) A.length (cv W).1, .int .i64 0, .int .i64 4] (cv W).2 fun e w' => e = .returned (.int .u64 G) ∧ (cv W).2 = w') := fun W => by
                  have := rfixed_any _ A 0 4 (cv W).2 (HQ2.out W).1 (by omega) (by decide) (by omega)
                  rw [show fixedV ((A.drop 0).take 4) = num4 A 0 from rfl, ← HGN.out] at this
                  exact this
                have HFY : Hid (Calls Tryd.prog 88 #[.slice (some ⟨w3.heap.size, 0, none⟩) A.length (cv w3.drew).1, .int .i64 0, .int .i64 4] (cv w3.drew).2 fun e w' => e = .returned (.int .u64 G) ∧ (cv w3.drew).2 = w') := HFX.out w3.drew
                have hsl : ∀ W : World, (Instr.slice 9 (.string (strB A)) (some (.int .i64 8)) (some (.int .i64 (8 + (L : Int)))) none).run Tryd.prog W = .ok (.string (strB (T.drop 8))) W := fun W => by
                  have h1 := run_slice_string (P := Tryd.prog) W 9 (strB A) .i64 .i64 8 (8 + (L : Int)) Tryd.underlying9 (by omega) (by omega) (by omega)
                  rw [h1, ← hxP]; congr
                have hbd : Below w3.heap.size w3 (cv w3.drew).2 := ((Below.refl _ _).drew).trans ((HQ2.out w3.drew).2)
                have hcC := HC3.out.stays hbd
                have hbC := HBE3.out.trans (hbd.mono HBE3.out.size)
                have hGi : (G : Int) ≤ 4294967295 := by omega
                have c0 := hcC.cell 0 (v := .int .i64 0) rfl
                have c1 := hcC.cell 1 (v := .int .i64 0) rfl
                have c2 := hcC.cell 2 (v := .int .u32 0) rfl
                have c3 := hcC.cell 3 (v := .string ⟨#[]⟩) rfl
                have f0 := hcC.free 0
                have f1 := hcC.free 1
                have f2 := hcC.free 2
                have f3 := hcC.free 3
                have hlt := hcC.lt
                have hGw : IntKind.u32.wrap (G : Int) = G := IntWalk.u32_in _ (by omega)
                clear hcv2 hcv3 hcv4 HSm HF3 hbd hcC HC3 hGb
                go_wp2_with fail
                go_region_with ((go_at_call 88; (with_reducible refine HFY.out.mono ?_); rintro e' wA ⟨rfl, rfl⟩))
                all_goals go_wp2_with fail
                all_goals exact bodyPost_ret (v := .tuple #[.agg #[.int .i64 a, .int .i64 k, .int .u32 G, .string (strB (T.drop 8))], .int .i64 0]) (by simp [results, Tryd.results63, go_sem, c0, c1, c2, c3]) rfl (RFRead.good HK0.out k G (by rw [← HL.out]; exact HNN.out) HG.out (T.drop 8) HLD.out ((((hbC.setCell (Nat.le_refl _) _).setCell (Nat.le_refl _) _).setCell (Nat.le_refl _) _).setCell (Nat.le_refl _) _))
              · have hsf : ((S : Int) != (F : Int)) = true := by simp; omega
                have HK18 := Lib.hid (hHSN hq)
                clear hHSK hHSN hq
                have hcB := HC3.out
                have hbB := HBE3.out
                have c0 := hcB.cell 0 (v := .int .i64 0) rfl
                have c1 := hcB.cell 1 (v := .int .i64 0) rfl
                have c2 := hcB.cell 2 (v := .int .u32 0) rfl
                have c3 := hcB.cell 3 (v := .string ⟨#[]⟩) rfl
                have f0 := hcB.free 0
                have f1 := hcB.free 1
                have f2 := hcB.free 2
                have f3 := hcB.free 3
                have hlt := hcB.lt
                clear hcB
                go_wp2_with fail
                refine HSm.out.mono ?_
                rintro e' w4 ⟨rfl, rfl⟩
                go_wp2_with fail
                refine HF3.out.mono ?_
                rintro e' w4 ⟨rfl, rfl⟩
                go_wp2_with fail
                exact bodyPost_ret (v := .tuple #[.agg #[.int .i64 0, .int .i64 0, .int .u32 0, .string ⟨#[]⟩], .int .i64 18]) (by simp [results, Tryd.results63, go_sem, c0, c1, c2, c3]) rfl (RFRead.bad 18 HK18.out (by decide) ((((hbB.setCell (Nat.le_refl _) _).setCell (Nat.le_refl _) _).setCell (Nat.le_refl _) _).setCell (Nat.le_refl _) _))
end Go.Proofs.YtgehbabcpmkgaaaDoor
