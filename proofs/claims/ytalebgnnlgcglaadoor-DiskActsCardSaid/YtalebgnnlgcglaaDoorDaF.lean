/- A crash by layer 31's law, 'do'; every act. -/
import Derived.Test.YtalebgnnlgcglaaDoorDaE
namespace Go.Proofs.YtalebgnnlgcglaaDoor
open Go Go.RowKit
set_option linter.unusedVariables false
section
variable {ea : Nat → Addr} {g gd gm h B N : Nat} {D : Dm} {va : Option Addr} {vc : Nat} {bs : List UInt8} {ka : Option Addr} {kc : Nat} {ks : List Int} {ta : Option Addr} {tc : Nat} {ts : List Int} {w : World}
set_option maxRecDepth 100000 in
set_option maxHeartbeats 4000000 in
theorem do_crash (i : DoIn ea g gd gm h B N D va vc bs ka kc ks ta tc ts w) {an : Int} :
    DoCall g h 4 an va vc bs ka kc ks ta tc ts w (DoP g gd gm h B N D w) := by
  obtain ⟨W1, hW1, i1, hcP, hn, hg1, hs1⟩ := i.box 4 an
  obtain ⟨P, hP⟩ : ∃ P, P = w.heap.size := ⟨_, rfl⟩
  rw [← hP] at hcP hn
  obtain ⟨W2, hW2⟩ : ∃ W, W = W1.alloc (.cells #[] 40) := ⟨_, rfl⟩
  obtain ⟨W3, hW3⟩ : ∃ W, W = W2.alloc (.cells #[] 76) := ⟨_, rfl⟩
  have hb2 : Below W1.heap.size W1 W2 := by rw [hW2]; exact (Below.refl _ _).alloc (Nat.le_refl _) _
  have hb3 : Below W1.heap.size W1 W3 := by rw [hW3]; exact hb2.alloc hb2.size _
  have ho2 : OwnS 40 2 toC W1.heap.size W3 (.slice (some ⟨W1.heap.size, 0, none⟩) 0 0) [] := by
    rw [hW3, hW2]
    exact OwnS.alloc (show OwnS 40 2 toC W1.heap.size (W1.alloc (.cells #[] 40)) (.slice (some ⟨W1.heap.size, 0, none⟩) 0 0) [] from World.ownsRow_made (base := W1.heap.size) (e := 40) (size := 2) W1 #[] 0 (Nat.le_refl _) (Nat.zero_le _) rfl) _
  have hs2 : W2.heap.size = W1.heap.size + 1 := by rw [hW2]; simp
  have ho3 : OwnW W1.heap.size W3 (.slice (some ⟨W2.heap.size, 0, none⟩) 0 0) [] := by
    rw [hW3]
    exact OwnS.mono (show OwnS 76 2 wrC W2.heap.size (W2.alloc (.cells #[] 76)) (.slice (some ⟨W2.heap.size, 0, none⟩) 0 0) [] from World.ownsRow_made (base := W2.heap.size) (e := 76) (size := 2) W2 #[] 0 (Nat.le_refl _) (Nat.zero_le _) rfl) (by omega)
  rw [hs2] at ho3
  have p4 := (hcP.stays hb3).cell 4 (v := .slice ta ts.length tc) rfl
  rw [hs1] at ho3 ho2 hb3
  have hso : W1.heap.size = w.heap.size + 1 := hs1
  have HS1 := Lib.hid hs1
  have hwl : w.heap.size + 1 + 1 + 1 = W3.heap.size := by rw [hW3]; simp; omega
  rw [hW3, hW2, hW1] at p4
  have hW3' : W3 = ((w.alloc (.cells #[.int .i64 4, .int .i64 an, .slice va bs.length vc, .slice ka ks.length kc, .slice ta ts.length tc] 37)).alloc (.cells #[] 40)).alloc (.cells #[] 76) := by rw [hW3, hW2, hW1]
  have HI := Lib.hid i1
  have HW3 := Lib.hid hW3'
  have HCP := Lib.hid hcP
  have HNP := Lib.hid hn
  have HO2 := Lib.hid ho2
  have HO3 := Lib.hid ho3
  have HB3 := Lib.hid hb3
  have HG1 := Lib.hid hg1
  have hvl := i.hvc
  have hl := i.hl
  have htl := i.htl
  have hkl := i.hkl
  have HP := Lib.hid hP
  clear i i1 hcP hn hg1 hs1 hW1 hW2 hW3 hW3' hb2 hb3 ho2 ho3 hs2 hwl hP hso
  go_enter Tryd.func14, Tryd.ntmps14
  go_wp2_with fail
  rw [← HW3.out]
  clear HW3 p4
  go_loopw [113, 15, 16] (fun i v v' wi => ∃ j : Nat, j ≤ ts.length ∧ i = .int .i64 j ∧ OwnS 40 2 toC (w.heap.size + 1) wi v ((ts.take j).map fun t => (⟨t, .slice va bs.length vc, bs⟩ : To)) ∧ OwnW (w.heap.size + 1) wi v' ((ts.take j).map fun t => (t, bs)) ∧ Below (w.heap.size + 1) W1 wi) (fun i _ _ _ => ts.length - (Go.RowKit.intOf i).toNat)
  case atStart => exact ⟨0, Nat.zero_le _, rfl, HO2.out, HO3.out, HB3.out⟩
  case round =>
    clear HO2 HO3 HB3
    obtain ⟨j, hj, rfl, ho, ho', hb⟩ := hrel
    rw [← HS1.out] at hb
    have hi := HI.out.stays hb
    have hcW := HCP.out.stays hb
    rw [HP.out] at hcW
    have p2 := hcW.cell 2 (v := .slice va bs.length vc) rfl
    have p3 := hcW.cell 3 (v := .slice ka ks.length kc) rfl
    have hltP := hcW.lt
    have hszw := hb.size
    rw [HS1.out] at hszw
    clear hcW
    by_cases hjt : j < ts.length
    · obtain ⟨t, hjt'⟩ : ∃ t, ts[j]? = some t := ⟨_, List.getElem?_eq_getElem hjt⟩
      obtain ⟨_, _, hve, -, hin⟩ := ((hi.ha wr (Grew.refl _ _)).2.2.2).shape
      cases hve
      obtain ⟨tb, tof, rfl, htc⟩ := hin j t hjt'
      replace htc : wr.cell? ⟨tb, tof + j, none⟩ = some (.int .i64 t) := htc
      have hlen : ((ts.take j).map fun t => (⟨t, .slice va bs.length vc, bs⟩ : To)).length ≤ 100000000 := by simp; omega
      have hlen' : ((ts.take j).map fun t => (t, bs)).length ≤ 100000000 := by simp; omega
      have HJ := Lib.hid hjt'
      have HB := Lib.hid hb
      have HIR := Lib.hid hi
      have HO' := Lib.hid ho'
      have HCW := HCP.out.stays hb
      rw [HP.out] at HCW
      have HCW := Lib.hid HCW
      clear hin hjt' hb hi ho'
      go_wp2_with (at_builtin; go_must (refine wpList_pushX toC_len Tryd.underlying38 infoT rfl (by decide) ho ⟨t, .slice va bs.length vc, bs⟩ rfl hlen hszw rfl _ _ rfl (by rfl) _ _ _ (by rfl) (by rfl) ?_))
      intro v9 w9 o9 g9 n9
      have hap := OwnS.apart ho HO'.out (by decide)
      have hd9 : ∀ k, v9.ownBlock = some k → u16.ownBlock ≠ some k := fun k hk e => by
        rcases n9 k hk with h1 | h1
        · exact hap k h1 e
        · have := (World.ownsRow.lt HO'.out k e).2; omega
      have ho9' := HO'.out.kept g9 hap
      have hb9 := OwnS.below (B := W1.heap.size) (by rw [HS1.out]; exact ho) HB.out g9 (by rw [HS1.out]; exact hszw)
      have hi9 := HI.out.stays hb9
      have q2 := HCP.out.stays hb9
      rw [HP.out] at q2
      replace q2 := q2.cell 2 (v := .slice va bs.length vc) rfl
      have s9 := convert_str (hi9.ha w9 (Grew.refl _ _)).2.1
      have hszw9 := hb9.size
      rw [HS1.out] at hszw9
      have hv9 : ∀ k, v9.ownBlock = some k → k < w9.heap.size := fun k hk => (World.ownsRow.lt o9 k hk).2
      have HV9 := Lib.hid hv9
      have HD9 := Lib.hid hd9
      have HO9 := Lib.hid o9
      have HB9 := Lib.hid hb9
      clear g9 n9 ho htc hap hi9 hb9 hv9 hd9 o9 HO'
      go_wp2_with (at_builtin; go_must (refine wpList_pushX wrC_len Tryd.underlying46 infoW rfl (by decide) ho9' ((t, bs) : Int × List UInt8) rfl hlen' hszw9 rfl _ _ rfl (by rfl) _ _ _ (by rfl) (by rfl) ?_))
      intro v8 w8 o8 g8 n8
      have hap8 : ∀ k, u16.ownBlock = some k → v9.ownBlock ≠ some k := fun k h1 h2 => HD9.out k h2 h1
      have hk9 := HO9.out.kept g8 hap8
      have hb8 := OwnS.below (B := W1.heap.size) (by rw [HS1.out]; exact ho9') HB9.out g8 (by rw [HS1.out]; exact hszw9)
      rw [HS1.out] at hb8
      clear g8 n8 ho9' hap8
      go_wp2_with fail
      go_roundw
      case rel => exact ⟨j + 1, by omega, by go_num, by rw [List.take_add_one, HJ.out, List.map_append, List.map_take]; exact hk9, by rw [List.take_add_one, HJ.out, List.map_append, List.map_take]; exact o8, hb8⟩
      case measure => simp [Go.RowKit.intOf]; omega
    · obtain rfl : j = ts.length := by omega
      rw [List.take_length] at ho ho'
      have hC := crash_any hi.hk (.slice ka ks.length kc) ks u15 (ts.map fun t => (⟨t, .slice va bs.length vc, bs⟩ : To)) (fun W hW => by
        have hx := hi.ha W (hW.mono (by simp))
        refine ⟨hx.2.2.1, OwnS.row (ho.grew hW (fun k hk => by have := (World.ownsRow.lt ho k hk).1; have := HI.out.hk.lt; have := HS1.out; simp; omega)), fun t ht => ?_⟩
        obtain ⟨q, _, rfl⟩ := List.mem_map.1 ht
        exact hx.2.1) hi.hkb (fun t ht => by
        obtain ⟨q, hq, rfl⟩ := List.mem_map.1 ht
        refine ⟨hi.htb q hq, ?_⟩
        show bs.length ≤ 1000000
        omega)
      have hmp : (ts.map fun t => (⟨t, .slice va bs.length vc, bs⟩ : To)).map To.p = ts.map fun t => (t, bs) := by
        rw [List.map_map]; rfl
      rw [hmp] at hC
      have hlc := crashM_len hi.hk.ok ks (ts.map fun t => (t, bs))
      have hRC : ∀ W, Grew [g, gd, gm] wr W → Calls Tryd.prog 33 #[.pointer (some ⟨h, 0, none⟩), .slice ka ks.length kc, u16] W fun e w' => e = .returned (.tuple #[]) ∧ Rd2 w' B h (N + 41) (crashM D ks (ts.map fun t => (t, bs))) ∧ Grew [h] W w' := fun W hW => by
        have hx := hi.ha W (hW.mono (by simp))
        exact rcrash_any (hi.hr.past hi.hk hW) hi.hk.ok (Nat.le_trans hi.hB hW.size) _ ks hx.2.2.1 _ _ (OwnS.row (ho'.grew hW (fun k hk => by have := (World.ownsRow.lt ho' k hk).1; have := HI.out.hk.lt; have := HS1.out; simp; omega))) hi.hkb (fun t ht => by
          obtain ⟨q, hq, rfl⟩ := List.mem_map.1 ht
          refine ⟨hi.htb q hq, ?_⟩
          show bs.length ≤ 1000000
          omega) (by simp; omega) hi.hN
      have hq3 : ∀ W, Grew [g, gd, gm] wr W → W.cell? ⟨P, 3, none⟩ = some (.slice ka ks.length kc) := fun W hW => ((HCP.out.stays hb).grew hW (by have := HNP.out; simp at this ⊢; omega)).cell 3 (v := .slice ka ks.length kc) rfl
      rw [HP.out] at hq3
      have HQ3 := Lib.hid hq3
      have HC := Lib.hid hC
      have HRC := Lib.hid hRC
      have HIR := Lib.hid hi
      have HLC := Lib.hid hlc
      have HGW := Lib.hid (HG1.out.add hb)
      clear hC ho ho' hb hi hmp hRC hq3 hlc
      go_wp2_with fail
      refine HC.out.mono ?_
      rintro e wa ⟨rfl, hk', hga⟩
      have q3 := HQ3.out wa hga
      have HRA := Lib.hid (HRC.out wa hga)
      have hra := HIR.out.hr.past HIR.out.hk hga
      have HK' := Lib.hid hk'
      have HRA' := Lib.hid hra
      have HGA := Lib.hid (HGW.out.trans (hga.mono (by simp)))
      clear HC HQ3 HRC hk' hga hra
      go_wp2_with fail
      refine HRA.out.mono ?_
      rintro e wb ⟨rfl, hr', hgb⟩
      have hk'' := HK'.out.past HRA'.out hgb
      have HZ := Lib.hid (DoP.mk (N := N) (w := w) (D := D) _ hk'' hr' HLC.out (by show D.writes ≤ _; omega) (HGA.out.trans (hgb.mono (by simp))))
      clear hk'' hr' hgb HK' HRA' HGA HRA
      go_wp2_with fail
      go_ret
      exact HZ.out
theorem do_any (i : DoIn ea g gd gm h B N D va vc bs ka kc ks ta tc ts w) {ak an : Int} (hn1 : -9223372036854775808 ≤ an) (hn2 : an ≤ 9223372036854775807) :
    DoCall g h ak an va vc bs ka kc ks ta tc ts w (DoP g gd gm h B N D w) := by
  by_cases h0 : ak = 0
  · subst h0; exact do_write i hn1 hn2
  · by_cases h1 : ak = 1
    · subst h1; exact do_read i hn1 hn2
    · by_cases h2 : ak = 2
      · subst h2; exact do_sync i
      · by_cases h3 : ak = 3
        · subst h3; exact do_fuse i hn1 hn2
        · by_cases h4 : ak = 4
          · subst h4; exact do_crash i
          · exact do_else i h0 h1 h2 h3 h4
end
theorem new_bad (ea : Nat → Addr) (x : Int) (w : World) (hx : x < 1 ∨ 1024 < x) (he1 : ErrAt w 0 (ea 1)) :
    Calls Tryd.prog 7 #[.int .i64 x] w fun e w' => e = .returned (.tuple #[.pointer none, EV ea 1]) ∧ Below w.heap.size w w' := by
  rw [EV_pos ea (by decide)]
  unfold ErrAt at he1
  rcases hx with hx | hx
  · go_enter Tryd.func7, Tryd.ntmps7
    go_wp2_with fail
    go_quiet (fail)
    go_wp2_with fail
    go_ret2
    exact ⟨rfl, below_drewQ (Below.refl _ _)⟩
  · have hx' : ¬ x < 1 := by omega
    go_enter Tryd.func7, Tryd.ntmps7
    go_wp2_with fail
    go_quiet (fail)
    go_wp2_with fail
    go_ret2
    exact ⟨rfl, below_drewQ (Below.refl _ _)⟩
def pwB (D : Dm) : Bool := D.fuse != 0
theorem power_any {w : World} {g gd gm : Nat} {d : Dm} (h : Dk w g gd gm d) : Calls Tryd.prog 19 #[.pointer (some ⟨g, 0, none⟩)] w fun e w' => e = .returned (.bool (pwB d)) ∧ w = w' := by
  by_cases hf : d.fuse = 0
  · rw [show pwB d = false from by unfold pwB; simpa using hf]
    exact power_no h hf
  · rw [show pwB d = true from by unfold pwB; simpa using hf]
    exact power_yes h hf
end Go.Proofs.YtalebgnnlgcglaaDoor
