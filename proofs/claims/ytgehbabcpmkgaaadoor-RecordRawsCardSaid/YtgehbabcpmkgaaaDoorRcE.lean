/- record.Parse: the record with which bytes begin. At most 1000000 bytes. -/
import Derived.Test.YtgehbabcpmkgaaaDoorRcD
namespace Go.Proofs.YtgehbabcpmkgaaaDoor
open Go Go.RowKit
set_option linter.unusedVariables false
theorem rnum_1 (w : World) : Calls Tryd.prog 91 #[.int .i64 1] w fun e w' => e = .returned (.func (.func 128) #[] #[]) ∧ w = w' := by
  go_enter Tryd.func91, Tryd.ntmps91
  go_wp2_with fail
  go_ret
  exact ⟨rfl, rfl⟩
theorem rnum_5 (w : World) : Calls Tryd.prog 91 #[.int .i64 5] w fun e w' => e = .returned (.func (.func 129) #[] #[]) ∧ w = w' := by
  go_enter Tryd.func91, Tryd.ntmps91
  go_wp2_with fail
  go_ret
  exact ⟨rfl, rfl⟩
theorem rnum_0 (w : World) : Calls Tryd.prog 91 #[.int .i64 0] w fun e w' => e = .returned (.func (.func 124) #[] #[]) ∧ w = w' := by
  go_enter Tryd.func91, Tryd.ntmps91
  go_wp2_with fail
  go_ret
  exact ⟨rfl, rfl⟩
section
variable (ea : Nat → Addr) (v : Value) (bs : List UInt8) (w : World) (hr : RowB w v bs) (hlen : bs.length ≤ 1000000) (he1 : ErrAt w 2 (ea 1)) (he2 : ErrAt w 3 (ea 2)) (he4 : ErrAt w 9 (ea 4)) (he5 : ErrAt w 10 (ea 5)) (he6 : ErrAt w 11 (ea 6)) (he12 : ErrAt w 1 (ea 12))
include hr hlen he2 he4 he5 he6 he12
theorem rcParse_bad (k : Nat) (hk : k ≠ 0) (ht : tparse bs = (0, 0, 0, k)) :
    Calls Tryd.prog 42 #[v] w fun e w' => e = .returned (.tuple #[.agg #[.int .i64 0, .int .i64 0, .int .u64 0, .string { data := #[] }, .string { data := #[] }], .int .i64 0, EV ea k]) ∧ Below w.heap.size w w' := by
  have hb : Below w.heap.size w (w.alloc (.cells #[.int .i64 0, .int .i64 0, .int .u64 0, .string { data := #[] }, .string { data := #[] }] 69)) := (Below.refl _ _).alloc (Nat.le_refl _) _
  have hp := tParse_any ea v bs _ (hr.stays hb) hlen (he2.stays hb) (he4.stays hb) (he5.stays hb) (he6.stays hb) (he12.stays hb)
  rw [ht] at hp
  have HP := Lib.hid hp
  have hc := CellsAt.new w #[.int .i64 0, .int .i64 0, .int .u64 0, .string { data := #[] }, .string { data := #[] }] 69
  have HC := Lib.hid hc
  have HB := Lib.hid hb
  clear hp hr he2 he4 he5 he6 he12 ht hc hb
  rw [EV_pos ea hk] at HP ⊢
  go_enter Tryd.func42, Tryd.ntmps42
  go_wp2_with fail
  refine HP.out.mono ?_
  rintro e w1 ⟨rfl, hb1⟩
  have hc1 := HC.out.stays hb1
  have hba : Below w1.heap.size w1 (w1.alloc (.cells #[.int .i64 0, .int .i64 0] 66)) := (Below.refl _ _).alloc (Nat.le_refl _) _
  have hc2 := hc1.stays hba
  have d0 := hc2.cell 0 (v := .int .i64 0) rfl
  have d1 := hc2.cell 1 (v := .int .i64 0) rfl
  have d2 := hc2.cell 2 (v := .int .u64 0) rfl
  have d3 := hc2.cell 3 (v := .string { data := #[] }) rfl
  have d4 := hc2.cell 4 (v := .string { data := #[] }) rfl
  have g0 := hc2.free 0
  have g1 := hc2.free 1
  have g2 := hc2.free 2
  have g3 := hc2.free 3
  have g4 := hc2.free 4
  have hbe : Below w.heap.size w (w1.alloc (.cells #[.int .i64 0, .int .i64 0] 66)) := (HB.out.trans (hb1.mono HB.out.size)).trans (hba.mono (HB.out.trans (hb1.mono HB.out.size)).size)
  have HBE := Lib.hid hbe
  clear hc1 hc2 hba hbe hb1 HP
  go_wp2_with fail
  exact bodyPost_ret (v := .tuple #[.agg #[.int .i64 0, .int .i64 0, .int .u64 0, .string { data := #[] }, .string { data := #[] }], .int .i64 0, .iface 248 (.pointer (some (ea k)))]) (by simp [results, Tryd.results42, go_sem, d0, d1, d2, d3, d4]) rfl ⟨rfl, ((((HBE.out.setCell (Nat.le_refl _) _).setCell (Nat.le_refl _) _).setCell (Nat.le_refl _) _).setCell (Nat.le_refl _) _).setCell (Nat.le_refl _) _⟩
include he1
set_option maxRecDepth 100000 in
set_option maxHeartbeats 8000000 in
theorem rcParse_ok (n k : Int) (p : Nat) (ht : tparse bs = (n, k, p, 0)) (hk : k = 0 ∨ k = 1 ∨ k = 2 ∨ k = 5) (hp1 : 1 ≤ p) (hp2 : p ≤ bs.length) :
    Calls Tryd.prog 42 #[v] w fun e w' => e = .returned (.tuple #[rcV (rparse bs).1, .int .i64 (rparse bs).2.1, EV ea (rparse bs).2.2]) ∧ Below w.heap.size w w' := by
  have hb : Below w.heap.size w (w.alloc (.cells #[.int .i64 0, .int .i64 0, .int .u64 0, .string { data := #[] }, .string { data := #[] }] 69)) := (Below.refl _ _).alloc (Nat.le_refl _) _
  have hp := tParse_any ea v bs _ (hr.stays hb) hlen (he2.stays hb) (he4.stays hb) (he5.stays hb) (he6.stays hb) (he12.stays hb)
  rw [ht, EV_zero] at hp
  have HP := Lib.hid hp
  have hc := CellsAt.new w #[.int .i64 0, .int .i64 0, .int .u64 0, .string { data := #[] }, .string { data := #[] }] 69
  have HC := Lib.hid hc
  have HB := Lib.hid hb
  have HE1 := Lib.hid he1
  have HE2 := Lib.hid he2
  have HE4 := Lib.hid he4
  have HRW := Lib.hid hr
  have HT := Lib.hid ht
  obtain ⟨a, c, rfl, -, -⟩ := hr.gen.shape
  have hcap := hr.gen.cap
  clear hp hr he1 he2 he4 he5 he6 he12 ht hc hb
  go_enter Tryd.func42, Tryd.ntmps42
  go_wp2_with fail
  refine HP.out.mono ?_
  rintro e w1 ⟨rfl, hb1⟩
  have hc1 := HC.out.stays hb1
  have hg1 := hc1.lt
  have hbe1 := HB.out.trans (hb1.mono HB.out.size)
  have d0 := hc1.cell 0 (v := .int .i64 0) rfl
  have d1 := hc1.cell 1 (v := .int .i64 0) rfl
  have d2 := hc1.cell 2 (v := .int .u64 0) rfl
  have d3 := hc1.cell 3 (v := .string { data := #[] }) rfl
  have d4 := hc1.cell 4 (v := .string { data := #[] }) rfl
  have g0 := hc1.free 0
  have g1 := hc1.free 1
  have g2 := hc1.free 2
  have g3 := hc1.free 3
  have g4 := hc1.free 4
  have HC1 := Lib.hid hc1
  have HBE1 := Lib.hid hbe1
  clear hc1 hb1 hbe1 HP HC HB
  go_upto_if 25 with fail
  have hR2 : CellsAt (((((w1.setCell ⟨w.heap.size, 0, none⟩ (.int .i64 n)).setCell ⟨w.heap.size, 1, none⟩ (.int .i64 k)).setCell ⟨w.heap.size, 2, none⟩ (.int .u64 0)).setCell ⟨w.heap.size, 3, none⟩ (.string { data := #[] })).setCell ⟨w.heap.size, 4, none⟩ (.string { data := #[] })) w.heap.size 69 #[.int .i64 n, .int .i64 k, .int .u64 0, .string { data := #[] }, .string { data := #[] }] := ((((HC1.out.set 0 (.int .i64 n)).set 1 (.int .i64 k)).set 2 (.int .u64 0)).set 3 (.string { data := #[] })).set 4 (.string { data := #[] })
  have hB2 : Below w.heap.size w (((((w1.setCell ⟨w.heap.size, 0, none⟩ (.int .i64 n)).setCell ⟨w.heap.size, 1, none⟩ (.int .i64 k)).setCell ⟨w.heap.size, 2, none⟩ (.int .u64 0)).setCell ⟨w.heap.size, 3, none⟩ (.string { data := #[] })).setCell ⟨w.heap.size, 4, none⟩ (.string { data := #[] })) := (((((HBE1.out.setCell (Nat.le_refl _) _).setCell (Nat.le_refl _) _).setCell (Nat.le_refl _) _).setCell (Nat.le_refl _) _).setCell (Nat.le_refl _) _)
  have hS2 : (((((w1.setCell ⟨w.heap.size, 0, none⟩ (.int .i64 n)).setCell ⟨w.heap.size, 1, none⟩ (.int .i64 k)).setCell ⟨w.heap.size, 2, none⟩ (.int .u64 0)).setCell ⟨w.heap.size, 3, none⟩ (.string { data := #[] })).setCell ⟨w.heap.size, 4, none⟩ (.string { data := #[] })).heap.size = w1.heap.size := by simp
  generalize ((((w1.setCell ⟨w.heap.size, 0, none⟩ (.int .i64 n)).setCell ⟨w.heap.size, 1, none⟩ (.int .i64 k)).setCell ⟨w.heap.size, 2, none⟩ (.int .u64 0)).setCell ⟨w.heap.size, 3, none⟩ (.string { data := #[] })).setCell ⟨w.heap.size, 4, none⟩ (.string { data := #[] }) = w2 at hR2 hB2 hS2 ⊢
  rw [← hS2] at hg1 ⊢
  obtain ⟨hct, hcz, hba⟩ : CellsAt ((w2.alloc (.cells #[.int .i64 n, .int .i64 k] 66)).alloc (.cells #[.slice a bs.length c, .int .i64 p, .nilIface] 177)) w2.heap.size 66 #[.int .i64 n, .int .i64 k] ∧ CellsAt ((w2.alloc (.cells #[.int .i64 n, .int .i64 k] 66)).alloc (.cells #[.slice a bs.length c, .int .i64 p, .nilIface] 177)) (w2.heap.size + 1) 177 #[.slice a bs.length c, .int .i64 p, .nilIface] ∧ Below w2.heap.size w2 ((w2.alloc (.cells #[.int .i64 n, .int .i64 k] 66)).alloc (.cells #[.slice a bs.length c, .int .i64 p, .nilIface] 177)) := by
    refine ⟨(CellsAt.new w2 _ _).stays ((Below.refl _ _).alloc (Nat.le_refl _) _), ?_, ((Below.refl _ _).alloc (Nat.le_refl _) _).alloc (by simp) _⟩
    have := CellsAt.new (w2.alloc (.cells #[.int .i64 n, .int .i64 k] 66)) #[.slice a bs.length c, .int .i64 p, .nilIface] 177
    simpa using this
  have hR3 := hR2.stays hba
  have hB3 := hB2.trans (hba.mono hB2.size)
  clear hR2 hB2 hS2 HC1 HBE1 hba d0 d1 d2 d3 d4 g0 g1 g2 g3 g4
  generalize (w2.alloc (.cells #[.int .i64 n, .int .i64 k] 66)).alloc (.cells #[.slice a bs.length c, .int .i64 p, .nilIface] 177) = w3 at hR3 hB3 hct hcz ⊢
  have hz3 : Pz ea w3 (w2.heap.size + 1) (.slice a bs.length c) bs p 0 := ⟨by rw [EV_zero]; exact hcz, HRW.out.stays hB3, hp2, fun h e => by
    have := Row.block_lt HRW.out (List.length_pos_iff.2 h) _ e
    omega, hlen⟩
  have hgT : w2.heap.size < w3.heap.size := hct.lt
  generalize w2.heap.size = gt at hg1 hct hcz hz3 hgT ⊢
  have hAP : bs ≠ [] → (Value.slice a bs.length c).ownBlock ≠ some w.heap.size := apart_new HRW.out
  have hv1 : ErrAt w3 _ _ := HE1.out.stays hB3
  have hv2 : ErrAt w3 _ _ := HE2.out.stays hB3
  have hv4 : ErrAt w3 _ _ := HE4.out.stays hB3
  have HV1 := Lib.hid hv1
  have HV2 := Lib.hid hv2
  have HV4 := Lib.hid hv4
  have HAP := Lib.hid hAP
  have HR3 := Lib.hid hR3
  have HB3 := Lib.hid hB3
  have HZ3 := Lib.hid hz3
  have t1 := hct.cell 1 (v := .int .i64 k) rfl
  have HCT := Lib.hid hct
  clear hR3 hB3 hct hcz hz3 hv1 hv2 hv4 hAP
  go_cut [] from 25 to 34 (fun wx => ∃ (bits : Nat) (text : List UInt8) (P K : Nat), CellsAt wx w.heap.size 69 #[.int .i64 n, .int .i64 k, .int .u64 bits, .string (strB text), .string { data := #[] }] ∧ Pz ea wx (gt + 1) (.slice a bs.length c) bs P K ∧ Hid (K ≠ 0 → rparse bs = (rcZ, 0, K)) ∧ Hid (K = 0 → rparse bs = (⟨n, k, bits, text, bs.take P⟩, P, 0)) ∧ Hid (bits < 18446744073709551616) ∧ Below w.heap.size w wx)
  case first =>
    rcases hk with rfl | rfl | rfl | rfl
    · have hrp := rparse_0 HT.out rfl
      unfold rvar at hrp
      have HN := Lib.hid (fun W => rnum_0 W)
      have hpf := pvarint_any ea (gt + 1) _ bs p w3 HZ3.out HV2.out HV4.out
      have hvb : (vparse 0 0 (bs.drop p)).1 < 18446744073709551616 := by
        rcases vparse_cases (bs.drop p) with ⟨q, sz, hv, hs1, hs2, hvn⟩ | ⟨e, he, h19, hv⟩
        · rw [hv]; exact hvn
        · rw [hv]; show (0 : Nat) < _; omega
      generalize vparse 0 0 (bs.drop p) = T at hrp hpf hvb
      obtain ⟨X, sz, K⟩ := T
      have HPF := Lib.hid hpf
      have HXB : Hid (X < 18446744073709551616) := hvb
      have HGO : Hid (K = 0 → rparse bs = (⟨n, 0, X, [], bs.take (p + sz)⟩, p + sz, 0)) := fun h => by rw [hrp]; simp [h]
      have HBA : Hid (K ≠ 0 → rparse bs = (rcZ, 0, K)) := fun h => by rw [hrp]; simp [h]
      clear hpf hrp hvb
      go_wp2_with fail
      refine (HN.out _).mono ?_
      rintro e w4 ⟨rfl, rfl⟩
      go_wp2_with fail
      refine HPF.out.mono ?_
      rintro e w4 ⟨rfl, hz4, hg4⟩
      clear HN HPF
      have hR4 := HR3.out.grown hg4 (fun h => by have := Option.some.inj h; omega)
      have c2 := hR4.cell 2 rfl
      have f2 := hR4.free 2
      have HR4 := Lib.hid hR4
      have HZ4 := Lib.hid hz4
      have HB4 := Lib.hid (HB3.out.grown hg4 HB3.out.size (fun i h => by have := Option.some.inj h; omega))
      clear hR4 hz4 hg4
      go_wp2_with fail
      go_meet
      have hgs : ∀ (W : World) (u : Value), W.grownBy (W.setCell ⟨w.heap.size, 2, none⟩ u) (some w.heap.size) := fun W u => grownBy_setCell (grownBy_refl _ _) ⟨w.heap.size, 2, none⟩ (.inl rfl) u
      case rel => exact ⟨X, [], p + sz, K, HR4.out.set 2 _, pz_other HZ4.out (hgs _ _) (by omega) HAP.out, HBA.out, HGO.out, HXB.out, HB4.out.setCell (Nat.le_refl _) _⟩
    · have HN := Lib.hid (fun W => rnum_1 W)
      have hpf := pfix64_any ea (gt + 1) _ bs p w3 HZ3.out HV1.out HV2.out
      have hrp := rparse_1 HT.out rfl
      obtain ⟨P, K, X, hP, hK, hX, hgood, hbad⟩ : ∃ P K X, P = p + rat (bs.drop p) 0 8 ∧ K = ask (bs.drop p) 0 8 ∧ X = fixedV (rgot (bs.drop p) 0 8) ∧ (K = 0 → rparse bs = (⟨n, 1, X, [], bs.take P⟩, P, 0)) ∧ (K ≠ 0 → rparse bs = (rcZ, 0, K)) := by
        refine ⟨_, _, _, rfl, rfl, rfl, ?_, ?_⟩
        all_goals
          rw [hrp]
          unfold rfix
          try unfold rat
          try unfold rgot
          intro h0
          by_cases hs : bs.length - p < 8
          · have hq : ask (bs.drop p) 0 8 = 2 := ask_short (by omega) (by rw [List.length_drop]; omega)
            first
              | exact absurd h0 (by rw [hq]; decide)
              | rw [if_pos hs, hq]
          · have hq : ask (bs.drop p) 0 8 = 0 := ask_ok (by omega) (by rw [List.length_drop]; omega)
            first
              | exact absurd hq h0
              | (rw [if_neg hs, hq]; simp)
      have hXb : X < 18446744073709551616 := by
        have h1 := rgot_len (bs.drop p) 0 8
        rw [hX]
        exact fixedV_lt8 _ (by have : (8 : Int).toNat = 8 := rfl; omega)
      rw [← hP, ← hK, ← hX] at hpf
      have HPF := Lib.hid hpf
      have HGO := Lib.hid hgood
      have HBA := Lib.hid hbad
      have HXB := Lib.hid hXb
      clear hpf hrp hP hK hX hgood hbad hXb
      go_wp2_with fail
      refine (HN.out _).mono ?_
      rintro e w4 ⟨rfl, rfl⟩
      go_wp2_with fail
      refine HPF.out.mono ?_
      rintro e w4 ⟨rfl, hz4, hg4⟩
      clear HN HPF
      have hR4 := HR3.out.grown hg4 (fun h => by have := Option.some.inj h; omega)
      have c2 := hR4.cell 2 rfl
      have f2 := hR4.free 2
      have HR4 := Lib.hid hR4
      have HZ4 := Lib.hid hz4
      have HB4 := Lib.hid (HB3.out.grown hg4 HB3.out.size (fun i h => by have := Option.some.inj h; omega))
      clear hR4 hz4 hg4
      go_wp2_with fail
      go_meet
      have hgs : ∀ (W : World) (u : Value), W.grownBy (W.setCell ⟨w.heap.size, 2, none⟩ u) (some w.heap.size) := fun W u => grownBy_setCell (grownBy_refl _ _) ⟨w.heap.size, 2, none⟩ (.inl rfl) u
      case rel => exact ⟨X, [], P, K, HR4.out.set 2 _, pz_other HZ4.out (hgs _ _) (by omega) HAP.out, HBA.out, HGO.out, HXB.out, HB4.out.setCell (Nat.le_refl _) _⟩
    · have hrp := rparse_2 HT.out rfl
      unfold rtxt at hrp
      rcases vparse_cases (bs.drop p) with ⟨q, sz, hv, hs1, hs2, hvn⟩ | ⟨e, he, h19, hv⟩
      · rw [List.length_drop] at hs2
        rw [hv] at hrp
        simp only [ne_eq, not_true, if_false] at hrp
        obtain ⟨R, hR⟩ : ∃ R, p + sz = R := ⟨_, rfl⟩
        rw [hR] at hrp
        by_cases hsh : bs.length - R < q
        · rw [if_pos hsh] at hrp
          have HPB := Lib.hid (pbytes_short ea (gt + 1) _ bs p w3 HZ3.out HV1.out HV2.out HV4.out q sz R hR hv (by omega) hvn hsh)
          have HRP := Lib.hid hrp
          clear hrp hv hsh hs1 hs2 hvn hR
          go_wp2_with fail
          refine HPB.out.mono ?_
          rintro e w4 ⟨rfl, hz4, hg4⟩
          clear HPB
          have hR4 := HR3.out.grown hg4 (fun h => by have := Option.some.inj h; omega)
          have c3 := hR4.cell 3 rfl
          have f3 := hR4.free 3
          have HR4 := Lib.hid hR4
          have HZ4 := Lib.hid hz4
          have HB4 := Lib.hid (HB3.out.grown hg4 HB3.out.size (fun i h => by have := Option.some.inj h; omega))
          clear hR4 hz4 hg4
          go_wp2_with fail
          go_meet
          have hgs : ∀ (W : World) (u : Value), W.grownBy (W.setCell ⟨w.heap.size, 3, none⟩ u) (some w.heap.size) := fun W u => grownBy_setCell (grownBy_refl _ _) ⟨w.heap.size, 3, none⟩ (.inl rfl) u
          case rel => exact ⟨0, [], R, 2, HR4.out.set 3 _, pz_other HZ4.out (hgs _ _) (by omega) HAP.out, fun _ => HRP.out, fun h => absurd h (by decide), by show (0 : Nat) < _; omega, HB4.out.setCell (Nat.le_refl _) _⟩
        · rw [if_neg hsh] at hrp
          have HPB := Lib.hid (pbytes_ok ea (gt + 1) _ bs p w3 HZ3.out HV1.out HV2.out HV4.out q sz R hR hv (by omega) (by omega))
          have HRP := Lib.hid hrp
          clear hrp hv hsh hs1 hs2 hvn hR
          obtain ⟨X, hX⟩ : ∃ X, X = (bs.drop R).take q := ⟨_, rfl⟩
          rw [← hX] at HPB HRP
          clear hX
          go_wp2_with fail
          refine HPB.out.mono ?_
          rintro e w4 ⟨rfl, hz4, hg4⟩
          clear HPB
          have hR4 := HR3.out.grown hg4 (fun h => by have := Option.some.inj h; omega)
          have c3 := hR4.cell 3 rfl
          have f3 := hR4.free 3
          have HR4 := Lib.hid hR4
          have HZ4 := Lib.hid hz4
          have HB4 := Lib.hid (HB3.out.grown hg4 HB3.out.size (fun i h => by have := Option.some.inj h; omega))
          clear hR4 hz4 hg4
          go_wp2_with fail
          go_meet
          have hgs : ∀ (W : World) (u : Value), W.grownBy (W.setCell ⟨w.heap.size, 3, none⟩ u) (some w.heap.size) := fun W u => grownBy_setCell (grownBy_refl _ _) ⟨w.heap.size, 3, none⟩ (.inl rfl) u
          case rel => exact ⟨0, X, R + q, 0, HR4.out.set 3 _, pz_other HZ4.out (hgs _ _) (by omega) HAP.out, fun h => absurd rfl h, fun _ => HRP.out, by show (0 : Nat) < _; omega, HB4.out.setCell (Nat.le_refl _) _⟩
      · rw [hv] at hrp
        rw [if_pos he] at hrp
        have HPB := Lib.hid (pbytes_bad ea (gt + 1) _ bs p w3 HZ3.out HV2.out HV4.out e he hv)
        have HRP := Lib.hid hrp
        clear hrp hv
        go_wp2_with fail
        refine HPB.out.mono ?_
        rintro e' w4 ⟨rfl, hz4, hg4⟩
        clear HPB
        have hR4 := HR3.out.grown hg4 (fun h => by have := Option.some.inj h; omega)
        have c3 := hR4.cell 3 rfl
        have f3 := hR4.free 3
        have HR4 := Lib.hid hR4
        have HZ4 := Lib.hid hz4
        have HB4 := Lib.hid (HB3.out.grown hg4 HB3.out.size (fun i h => by have := Option.some.inj h; omega))
        clear hR4 hz4 hg4
        go_wp2_with fail
        go_meet
        have hgs : ∀ (W : World) (u : Value), W.grownBy (W.setCell ⟨w.heap.size, 3, none⟩ u) (some w.heap.size) := fun W u => grownBy_setCell (grownBy_refl _ _) ⟨w.heap.size, 3, none⟩ (.inl rfl) u
        case rel => exact ⟨0, [], p, e, HR4.out.set 3 _, pz_other HZ4.out (hgs _ _) (by omega) HAP.out, fun _ => HRP.out, fun h => absurd h he, by show (0 : Nat) < _; omega, HB4.out.setCell (Nat.le_refl _) _⟩
    · have HN := Lib.hid (fun W => rnum_5 W)
      have hpf := pfix32_any ea (gt + 1) _ bs p w3 HZ3.out HV1.out HV2.out
      have hrp := rparse_5 HT.out rfl
      obtain ⟨P, K, X, hP, hK, hX, hgood, hbad⟩ : ∃ P K X, P = p + rat (bs.drop p) 0 4 ∧ K = ask (bs.drop p) 0 4 ∧ X = fixedV (rgot (bs.drop p) 0 4) ∧ (K = 0 → rparse bs = (⟨n, 5, X, [], bs.take P⟩, P, 0)) ∧ (K ≠ 0 → rparse bs = (rcZ, 0, K)) := by
        refine ⟨_, _, _, rfl, rfl, rfl, ?_, ?_⟩
        all_goals
          rw [hrp]
          unfold rfix
          try unfold rat
          try unfold rgot
          intro h0
          by_cases hs : bs.length - p < 4
          · have hq : ask (bs.drop p) 0 4 = 2 := ask_short (by omega) (by rw [List.length_drop]; omega)
            first
              | exact absurd h0 (by rw [hq]; decide)
              | rw [if_pos hs, hq]
          · have hq : ask (bs.drop p) 0 4 = 0 := ask_ok (by omega) (by rw [List.length_drop]; omega)
            first
              | exact absurd hq h0
              | (rw [if_neg hs, hq]; simp)
      have hXb : X < 18446744073709551616 := by
        have h1 := rgot_len (bs.drop p) 0 4
        rw [hX]
        exact fixedV_lt8 _ (by have : (4 : Int).toNat = 4 := rfl; omega)
      rw [← hP, ← hK, ← hX] at hpf
      have HPF := Lib.hid hpf
      have HGO := Lib.hid hgood
      have HBA := Lib.hid hbad
      have HXB := Lib.hid hXb
      clear hpf hrp hP hK hX hgood hbad hXb
      go_wp2_with fail
      refine (HN.out _).mono ?_
      rintro e w4 ⟨rfl, rfl⟩
      go_wp2_with fail
      refine HPF.out.mono ?_
      rintro e w4 ⟨rfl, hz4, hg4⟩
      clear HN HPF
      have hR4 := HR3.out.grown hg4 (fun h => by have := Option.some.inj h; omega)
      have c2 := hR4.cell 2 rfl
      have f2 := hR4.free 2
      have HR4 := Lib.hid hR4
      have HZ4 := Lib.hid hz4
      have HB4 := Lib.hid (HB3.out.grown hg4 HB3.out.size (fun i h => by have := Option.some.inj h; omega))
      clear hR4 hz4 hg4
      go_wp2_with fail
      go_meet
      have hgs : ∀ (W : World) (u : Value), W.grownBy (W.setCell ⟨w.heap.size, 2, none⟩ u) (some w.heap.size) := fun W u => grownBy_setCell (grownBy_refl _ _) ⟨w.heap.size, 2, none⟩ (.inl rfl) u
      case rel => exact ⟨X, [], P, K, HR4.out.set 2 _, pz_other HZ4.out (hgs _ _) (by omega) HAP.out, HBA.out, HGO.out, HXB.out, HB4.out.setCell (Nat.le_refl _) _⟩
  case rest =>
    clear HR3 HB3 HZ3 HV1 HV2 HV4 t1 HCT
    obtain ⟨bits, text, P, K, hR4, hz4, HBA, HGO, HXB, hB4⟩ := hcut
    obtain ⟨w5, rfl⟩ : ∃ w5 : World, w5 = wc := ⟨_, rfl⟩
    have d0 := hR4.cell 0 (v := .int .i64 n) rfl
    have d1 := hR4.cell 1 (v := .int .i64 k) rfl
    have d2 := hR4.cell 2 (v := .int .u64 bits) rfl
    have d3 := hR4.cell 3 (v := .string (strB text)) rfl
    have d4 := hR4.cell 4 (v := .string { data := #[] }) rfl
    have g0 := hR4.free 0
    have g1 := hR4.free 1
    have g2 := hR4.free 2
    have g3 := hR4.free 3
    have g4 := hR4.free 4
    have e1 := hz4.cells.cell 1 (v := .int .i64 P) rfl
    have e2 := hz4.cells.cell 2 (v := EV ea K) rfl
    have hPl := hz4.le
    have hneg : (w.heap.size == gt + 1) = false := by simp; omega
    have hneg' : (gt + 1 == w.heap.size) = false := by simp; omega
    have HB4 := Lib.hid hB4
    by_cases hK : K = 0
    · have HG := Lib.hid (HGO.out hK)
      subst hK
      rw [EV_zero] at e2
      have hcv := convert_str (slice_to hz4.row P hPl)
      obtain ⟨raw, hraw⟩ : ∃ raw, raw = bs.take P := ⟨_, rfl⟩
      rw [← hraw] at hcv HG
      have i1 : (P : Int) ≤ bs.length := by omega
      have i2 : (P : Int) ≤ c := by omega
      clear HBA HGO hR4 hz4 hB4 hraw HT HRW HE1 HE2 HE4
      go_wp2_with fail
      go_region
      all_goals go_wp2_with fail
      all_goals exact bodyPost_ret (v := .tuple #[.agg #[.int .i64 n, .int .i64 k, .int .u64 bits, .string (strB text), .string (strB raw)], .int .i64 P, .nilIface]) (by simp [results, Tryd.results42, go_sem, d0, d1, d2, d3, d4]) rfl ⟨by rw [HG.out, rcV_def, EV_zero], ((((((HB4.out.setCell (Nat.le_refl _) _).setCell (Nat.le_refl _) _).setCell (Nat.le_refl _) _).setCell (Nat.le_refl _) _).setCell (Nat.le_refl _) _).setCell (Nat.le_refl _) _).drew⟩
    · have HG := Lib.hid (HBA.out hK)
      rw [EV_pos ea hK] at e2
      clear HBA HGO hR4 hz4 hB4 HT HRW HE1 HE2 HE4
      go_wp2_with fail
      go_region
      all_goals go_wp2_with fail
      all_goals exact bodyPost_ret (v := .tuple #[.agg #[.int .i64 0, .int .i64 0, .int .u64 0, .string { data := #[] }, .string { data := #[] }], .int .i64 0, .iface 248 (.pointer (some (ea K)))]) (by simp [results, Tryd.results42, go_sem, d0, d1, d2, d3, d4]) rfl ⟨by rw [HG.out, EV_pos ea hK]; rfl, (((((HB4.out.setCell (Nat.le_refl _) _).setCell (Nat.le_refl _) _).setCell (Nat.le_refl _) _).setCell (Nat.le_refl _) _).setCell (Nat.le_refl _) _).drew⟩
theorem rcParse_any :
    Calls Tryd.prog 42 #[v] w fun e w' => e = .returned (.tuple #[rcV (rparse bs).1, .int .i64 (rparse bs).2.1, EV ea (rparse bs).2.2]) ∧ Below w.heap.size w w' := by
  rcases tparse_cases bs with ⟨n, k, p, ht, hn1, hn2, hk, hp1, hp2⟩ | ⟨e, he, h19, ht⟩
  · exact rcParse_ok ea v bs w hr hlen he1 he2 he4 he5 he6 he12 n k p ht hk hp1 hp2
  · rw [rparse_bad (by rw [ht]; exact he), ht]
    exact rcParse_bad ea v bs w hr hlen he2 he4 he5 he6 he12 e he ht
end
end Go.Proofs.YtgehbabcpmkgaaaDoor
