/- The walk of RecordRaws: the raw texts of all records of bytes are these bytes; records that are put are as many, in their order. -/
import Derived.Test.YtgehbabcpmkgaaaDoorRcJ
import Derived.Test.YtgehbabcpmkgaaaDoorRcO
import Derived.Test.YtgehbabcpmkgaaaDoorWRecordParses
namespace Go.Proofs.YtgehbabcpmkgaaaDoor
open Go Go.RowKit
set_option linter.unusedVariables false
theorem rec_dec {H : Type} {enc : TypeId × Value → H} {w : World} {base : Nat} {spare : Nat → Bool} {held : Bool} (n : Nat) (cs : List Value) (y : DataW H × List MemPlace) (h : DataW.trod enc Tryd.prog w base spare held n 69 cs = some y) : ∃ r : Rc, cs = rcC r ∧ rcGood r := rec_open h
theorem raw_le : ∀ {L : List Rc} {r : Rc}, r ∈ L → r.raw.length ≤ ((L.map Rc.raw).flatten).length
  | x :: L, r, h => by
    rw [List.map_cons, List.flatten_cons, List.length_append]
    rcases List.mem_cons.1 h with rfl | h
    · omega
    · have := raw_le h
      omega
theorem below_drewNr {B : Nat} {w w' : World} (n : Nat) (h : Below B w w') : Below B w (w'.drewN n) := ⟨h.os, h.tape, h.output, h.size, h.block⟩
theorem strB_eq_of {a b : List UInt8} (h : a = b) : (strB a == strB b) = true := by subst h; have := strB_eq a a; rwa [decide_eq_true rfl] at this
theorem quiet_wanted {P : Program} {ops : Array Oper} {C : World → Prop} {o : Oper} {a : Act} {K : Act → Prop} {E : Prop} (h : Region.wanted o (yielded ops a.tmps) = true) (v : Value)
    (h1 : ∀ w, C w → o.quietAt P a C w v) (h2 : K (a.put o.dst v)) : if Region.wanted o (yielded ops a.tmps) then o.quiet P a C K else E := by rw [if_pos h]; exact ⟨v, h1, h2⟩
theorem quiet_unwanted {ops : Array Oper} {o : Oper} {a : Act} {K : Act → Prop} {E : Prop} (h : Region.wanted o (yielded ops a.tmps) = false)
    (h2 : K (a.put o.dst undef)) : if Region.wanted o (yielded ops a.tmps) then E else K (a.put o.dst undef) := by rw [if_neg (by rw [h]; exact Bool.false_ne_true)]; exact h2
theorem wp_region_quiet_in {P : Program} {C : World → Prop} {id : Nat} {Q : Exit → Act → World → Prop} {a : Act} {w : World} {l : List Oper} (hm : P.follows .mixedOrders = true) (hB : Region.lexB .any l.toArray = true) (hC : C w.drew)
    (h : wpQuiet P l.toArray C (fun a' => ∀ w', C w' → Q .normal a' w') l a) : (Code.region id l.toArray true).wp P Q a w := wp_region_quiet (C := C) hm hB hC (by simpa using h)
set_option hygiene false in
macro "qb_step " "(" tac:tactic ")" : tactic => `(tactic|
  (refine wpQuiet_step (fun K hK => ?_)
   first
     | (refine quiet_wanted ?_ ?_ (fun wq hwq => ?_) ?_
        focus (first | with_reducible rfl | (go_simp; done))
        rotate_left
        focus
          (have cvq := (HK2.out _ hwq).2
           go_simp
           try first
             | with_reducible rfl
             | (exact hwq)
             | ($tac:tactic))
        go_simp
        refine hK _ ?_
        clear hK K)
     | (refine quiet_unwanted ?_ ?_
        focus (first | with_reducible rfl | (go_simp; done))
        go_simp
        refine hK _ ?_
        clear hK K)))
set_option hygiene false in
macro "qb_go " "(" tac:tactic ")" : tactic => `(tactic| repeat (qb_step ($tac:tactic)))
set_option maxRecDepth 100000 in
set_option maxHeartbeats 16000000 in
theorem walkRecordRaws (w : World) (va : Value) (bs : List UInt8) (hra : RowB w va bs) (vl : Value) (rs : List Rc) (hrl : RowS rcC w vl rs) (hgood : ∀ r ∈ rs, rcGood r) (ea : Nat → Addr) (he : ErrsAll ea w) :
    Calls Tryd.prog 14 #[va, vl] w fun e w' => e = .returned (.bool true) ∧ Below w.heap.size w w' := by
  obtain ⟨a, c, rfl, -, -⟩ := hra.gen.shape
  obtain ⟨al, cl, rfl, -, hil⟩ := RowS.shape hrl rcC_len
  have HIL := Lib.hid hil
  have HA := Lib.hid (alive04 ea w he)
  have HE : Hid (∀ w', Below w.heap.size w w' → ErrsAll ea w') := fun w' hb => he.stays hb
  have HROW : Hid (∀ w', Below w.heap.size w w' → RowB w' (.slice a bs.length c) bs) := fun w' hb => hra.stays hb
  have HRL : Hid (∀ w', Below w.heap.size w w' → RowS rcC w' (.slice al rs.length cl) rs) := fun w' hb => hrl.stays hb
  have HG := Lib.hid hgood
  clear he hra hrl hil hgood
  go_enter Tryd.func14, Tryd.ntmps14
  go_wp2_with fail
  refine HA.out.mono ?_
  rintro e w1 ⟨rfl, hb1⟩
  clear HA
  by_cases hl1 : 400 < bs.length
  · go_wp2_with fail
    go_ret
    exact ⟨rfl, hb1⟩
  · by_cases hl2 : 20 < rs.length
    · go_wp2_with fail
      go_ret
      exact ⟨rfl, hb1⟩
    · have hE1 := HE.out _ hb1
      have hal := rcAll_any ea _ bs w1 (HROW.out _ hb1) (by omega) hE1.e1 hE1.e2 hE1.e4 hE1.e5 hE1.e6 hE1.e12
      have hll : (rall bs).1.length ≤ 400 := by have := rallA_len bs.length [] bs; simp at this; unfold rall; omega
      have hrw : (rall bs).2 = 0 → ((rall bs).1.map Rc.raw).flatten = bs := rall_raws
      have hbn : (rall bs).2 ≠ 0 → (rall bs).1 = [] := rallA_bad_nil _ _ _
      generalize rall bs = TT at hal hll hrw hbn
      obtain ⟨L, K⟩ := TT
      replace hll : L.length ≤ 400 := hll
      have HAL : Hid (Calls Tryd.prog 45 #[.slice a bs.length c] w1 fun e w' => ∃ v', e = .returned (.tuple #[v', EV ea K]) ∧ OwnRc w1.heap.size w' v' L ∧ Below w1.heap.size w1 w') := hal
      have HRW : Hid (K = 0 → (L.map Rc.raw).flatten = bs) := hrw
      have HBN : Hid (K ≠ 0 → L = []) := hbn
      obtain ⟨E, hE⟩ : ∃ E, E = EV ea K := ⟨_, rfl⟩
      rw [← hE] at HAL
      have hEs : (K = 0 ∧ E = .nilIface) ∨ (K ≠ 0 ∧ ∃ ad, E = .iface 248 (.pointer (some ad))) := by
        by_cases h : K = 0
        · exact .inl ⟨h, by rw [hE, h]; rfl⟩
        · exact .inr ⟨h, _, by rw [hE]; exact EV_pos ea h⟩
      have HES := Lib.hid hEs
      clear hE1 hal hrw hbn hE hEs
      go_wp2_with fail
      refine HAL.out.mono ?_
      rintro e w2 ⟨v5, rfl, ho5, hb2⟩
      have hbe2 := hb1.trans (hb2.mono hb1.size)
      obtain ⟨a5, c5, rfl, -, -⟩ := RowS.shape ho5.row rcC_len
      have HBE2 := Lib.hid hbe2
      have HO5 : Hid (∀ w', Below w2.heap.size w2 w' → RowS rcC w' (.slice a5 L.length c5) L) := fun w' h => RowS.stays ho5.row h
      clear HAL hb1 hb2 hbe2 ho5
      go_upto_region 6 with fail
      go_cut [49] from 32 to 49 (fun v wx => v = .bool false ∧ Below w2.heap.size w2 wx)
      case first =>
        rcases HES.out with ⟨rfl, rfl⟩ | ⟨hK, ad, rfl⟩
        · have hq := HRW.out rfl
          have hbd : Below w2.heap.size w2 w2.drew := (Below.refl _ _).drew
          have HRA : Hid (∀ w', Below w2.heap.size w2 w' → Calls Tryd.prog 71 #[.slice a5 L.length c5] w' fun e w'' => e = .returned (.string (strB (L.map Rc.raw).flatten)) ∧ Below w'.heap.size w' w'') := fun w' h => rcRaws_any _ L w' (HO5.out w' h) (by omega) (fun r hr => by
            have h2 := raw_le hr
            rw [hq] at h2
            omega)
          rw [hq] at HRA
          have HK2 : Hid (∀ w', Below w2.heap.size w2 w' → Below w2.heap.size w2 w' ∧ (convert 23 9 (.slice a bs.length c)).run Tryd.prog w' = .ok (.string (strB bs)) w') := fun w' hb => ⟨hb, convert_str (HROW.out w' (HBE2.out.trans (hb.mono HBE2.out.size)))⟩
          have se := strB_eq_of (rfl : bs = bs)
          have se' : (strB bs != strB bs) = false := by unfold bne; rw [se]; rfl
          clear hq
          refine wp_region_quiet_in (C := fun w' => Below w2.heap.size w2 w') (by kernel_rfl) (by kernel_rfl) hbd ?_
          clear hbd
          qb_go (((with_reducible refine (HRA.out _ hwq).mono ?_); rintro e wA ⟨rfl, hbA⟩; refine ⟨?_, hwq.trans (hbA.mono hwq.size)⟩; with_reducible rfl))
          refine wpQuiet_nil ?_
          intro wB hbB
          clear HK2 HRA
          go_wp2_with fail
          go_meet
          case rel => exact ⟨rfl, hbB⟩
        · obtain rfl := HBN.out hK
          go_quiet (fail)
          go_wp2_with fail
          go_meet
          case rel => exact ⟨rfl, below_drewNr _ (Below.refl _ _)⟩
      case rest =>
        obtain ⟨rfl, hb3⟩ := hcut
        obtain ⟨w3, rfl⟩ : ∃ w3 : World, w3 = wc := ⟨_, rfl⟩
        have hbe3 := HBE2.out.trans (hb3.mono HBE2.out.size)
        have HBE3 := Lib.hid hbe3
        clear HRW HBN HBE2 hb3 hbe3 HO5 hll
        go_wp2_with fail
        go_loopw [52] (fun i wr => ∃ m : Nat, m ≤ rs.length ∧ i = .int .i64 m ∧ Hid (∀ r ∈ rs.take m, r.text.length ≤ 100) ∧ Below w3.heap.size w3 wr) (fun i _ => rs.length - (intOf i).toNat)
        case atStart => exact ⟨0, Nat.zero_le _, rfl, fun r h => by simp at h, Below.refl _ _⟩
        case round =>
          obtain ⟨m, hm, rfl, HT, hbr⟩ := hrel
          have hbw := HBE3.out.trans (hbr.mono HBE3.out.size)
          by_cases h1 : m < rs.length
          · obtain ⟨⟨n, k, bits, text, raw⟩, hq⟩ : ∃ r, rs[m]? = some r := ⟨_, List.getElem?_eq_getElem h1⟩
            obtain ⟨gb, ob, rfl, hc⟩ := HIL.out m _ hq
            have d0 := cell_below hbw (hc 0 (.int .i64 n) rfl)
            have d1 := cell_below hbw (hc 1 (.int .i64 k) rfl)
            have d2 := cell_below hbw (hc 2 (.int .u64 bits) rfl)
            have d3 := cell_below hbw (hc 3 (.string (strB text)) rfl)
            have d4 := cell_below hbw (hc 4 (.string (strB raw)) rfl)
            rw [Nat.add_zero] at d0
            rw [← Nat.add_assoc] at d1 d2 d3 d4
            have hs1 := strB_size text
            have hs2 := strB_size raw
            have hba : Below wr.heap.size wr (wr.alloc (.cells #[.int .i64 n, .int .i64 k, .int .u64 bits, .string (strB text), .string (strB raw)] 69)) := (Below.refl _ _).alloc (Nat.le_refl _) _
            have hbr2 := hbr.trans (hba.mono hbr.size)
            have hbw2 := hbw.trans (hba.mono hbw.size)
            have HQ := Lib.hid hq
            have HBR2 := Lib.hid hbr2
            have HBW2 := Lib.hid hbw2
            clear hc hq hbr hbw hba hbr2 hbw2
            by_cases t1 : 100 < text.length
            · go_wp2_with fail
              go_ret
              exact ⟨rfl, HBW2.out⟩
            · by_cases t2 : 100 < raw.length
              · go_wp2_with fail
                go_ret
                exact ⟨rfl, HBW2.out⟩
              · have HT2 : Hid (∀ r ∈ rs.take (m + 1), r.text.length ≤ 100) := fun r h => by
                  rw [List.take_add_one, HQ.out] at h
                  rcases List.mem_append.1 h with h | h
                  · exact HT.out r h
                  · simp at h; rw [h]; show text.length ≤ 100; omega
                go_wp2_with fail
                go_roundw
                case rel => exact ⟨m + 1, by omega, by go_num, HT2, HBR2.out⟩
                case measure => simp only [intOf]; omega
          · obtain rfl : rs.length = m := by omega
            have HTX : Hid (∀ r ∈ rs, r.text.length ≤ 100) := by have := HT.out; rwa [List.take_length] at this
            have HBW := Lib.hid hbw
            have HPA := Lib.hid (rcPutAll_any ea _ rs wr (HRL.out _ hbw) (by omega) (fun r h => ⟨HG.out r h, Nat.le_trans (HTX.out r h) (by decide)⟩) (HE.out _ hbw))
            clear HT hbr hbw HBE3
            go_wp2_with fail
            refine HPA.out.mono ?_
            rintro e w4 ⟨v9, rfl, ho9, hb4⟩
            have hbe4 := HBW.out.trans (hb4.mono HBW.out.size)
            have HBE4 := Lib.hid hbe4
            have HO9 := Lib.hid ho9
            clear HPA hb4 hbe4 ho9 HBW
            go_wp2_with fail
            go_loopw [74] (fun i wr => ∃ m : Nat, m ≤ rs.length ∧ i = .int .i64 m ∧ Hid (∀ r ∈ rs.take m, rcheck r = 0) ∧ Below w4.heap.size w4 wr) (fun i _ => rs.length - (intOf i).toNat)
            case atStart => exact ⟨0, Nat.zero_le _, rfl, fun r h => by simp at h, Below.refl _ _⟩
            case round =>
              obtain ⟨m, hm, rfl, HC, hbr⟩ := hrel
              have hbw := HBE4.out.trans (hbr.mono HBE4.out.size)
              by_cases h1 : m < rs.length
              · obtain ⟨⟨n, k, bits, text, raw⟩, hq⟩ : ∃ r, rs[m]? = some r := ⟨_, List.getElem?_eq_getElem h1⟩
                obtain ⟨gb, ob, rfl, hc⟩ := HIL.out m _ hq
                have d0 := cell_below hbw (hc 0 (.int .i64 n) rfl)
                have d1 := cell_below hbw (hc 1 (.int .i64 k) rfl)
                have d2 := cell_below hbw (hc 2 (.int .u64 bits) rfl)
                have d3 := cell_below hbw (hc 3 (.string (strB text)) rfl)
                have d4 := cell_below hbw (hc 4 (.string (strB raw)) rfl)
                rw [Nat.add_zero] at d0
                rw [← Nat.add_assoc] at d1 d2 d3 d4
                have hba : Below wr.heap.size wr (wr.alloc (.cells #[.int .i64 n, .int .i64 k, .int .u64 bits, .string (strB text), .string (strB raw)] 69)) := (Below.refl _ _).alloc (Nat.le_refl _) _
                have hbr2 := hbr.trans (hba.mono hbr.size)
                have hbw2 := hbw.trans (hba.mono hbw.size)
                have hE := HE.out _ hbw2
                have hgd : rcGood ⟨n, k, bits, text, raw⟩ := HG.out _ (List.mem_of_getElem? hq)
                have htl : text.length ≤ 100 := HTX.out _ (List.mem_of_getElem? hq)
                have hck := rcCheck_any n k bits text raw (wr.alloc (.cells #[.int .i64 n, .int .i64 k, .int .u64 bits, .string (strB text), .string (strB raw)] 69)) hgd.1.1 hgd.1.2 hgd.2.1.1 hgd.2.1.2 hgd.2.2 (by omega) ea hE.e1 hE.e5 hE.e6 hE.e9 hE.e12
                have hkk := rcheck_le ⟨n, k, bits, text, raw⟩
                have HQ := Lib.hid hq
                have HBR2 := Lib.hid hbr2
                have HBW2 := Lib.hid hbw2
                have HKK := Lib.hid hkk
                have HCK := Lib.hid hck
                clear hc hq hbr hbw hba hbr2 hbw2 hE hck hkk hgd
                by_cases hc0 : rcheck ⟨n, k, bits, text, raw⟩ = 0
                · have HC2 : Hid (∀ r ∈ rs.take (m + 1), rcheck r = 0) := fun r h => by
                    rw [List.take_add_one, HQ.out] at h
                    rcases List.mem_append.1 h with h | h
                    · exact HC.out r h
                    · simp at h; rw [h]; exact hc0
                  rw [hc0, EV_zero] at HCK
                  clear hc0
                  go_wp2_with fail
                  refine HCK.out.mono ?_
                  rintro e w5 ⟨rfl, hb5⟩
                  have HBR3 := Lib.hid (HBR2.out.trans (hb5.mono HBR2.out.size))
                  clear HCK hb5
                  go_wp2_with fail
                  go_roundw
                  case rel => exact ⟨m + 1, by omega, by go_num, HC2, HBR3.out⟩
                  case measure => simp only [intOf]; omega
                · have HBD := rbad_at HC.out HQ.out hc0
                  have ho9 := HO9.out
                  rw [putsV_bad (by rw [HBD]; exact hc0)] at ho9
                  obtain ⟨a9, c9, rfl, -, -⟩ := ho9.row.gen.shape
                  rw [HBD]
                  generalize rcheck ⟨n, k, bits, text, raw⟩ = KK at HCK HKK hc0
                  have HN := Lib.hid (fun W (h : Below w.heap.size w W) => num_any ea KK HKK.out W (HE.out W h))
                  rw [EV_pos ea hc0] at HCK HN ⊢
                  have bK : ((KK : Int) == KK) = true := by simp
                  have bK' : ((KK : Int) != KK) = false := by simp
                  clear hc0 ho9 HO9 HBD
                  go_wp2_with fail
                  refine HCK.out.mono ?_
                  rintro e w5 ⟨rfl, hb5⟩
                  have hbe5 := HBW2.out.trans (hb5.mono HBW2.out.size)
                  have HN5 := Lib.hid (HN.out _ hbe5)
                  clear HCK hb5
                  go_wp2_with fail
                  refine HN5.out.mono ?_
                  rintro e w6 ⟨rfl, hb6⟩
                  have hbe6 := hbe5.trans (hb6.mono hbe5.size)
                  have HN6 := Lib.hid (HN.out _ hbe6)
                  clear HN5 hb6 HN hbe5
                  go_wp2_with fail
                  refine HN6.out.mono ?_
                  rintro e w7 ⟨rfl, hb7⟩
                  have hbe7 := hbe6.trans (hb7.mono hbe6.size)
                  clear HN6 hb7
                  go_wp2_with fail
                  go_ret
                  exact ⟨rfl, hbe7⟩
              · obtain rfl : rs.length = m := by omega
                have hall : ∀ r ∈ rs, rcheck r = 0 := by have := HC.out; rwa [List.take_length] at this
                have hbd0 := rbad_all hall
                have ho9 := HO9.out
                rw [putsV_ok hbd0] at ho9
                rw [hbd0, EV_zero]
                have hpl := rputs_len rs hall (fun r h => ⟨(HG.out r h).2.2, Nat.le_trans (HTX.out r h) (by decide)⟩)
                have hrp := rall_puts rs (fun r h => ⟨hall r h, (HG.out r h).2.2, by have := HTX.out r h; omega⟩)
                obtain ⟨X, hX⟩ : ∃ X, X = rputs rs := ⟨_, rfl⟩
                rw [← hX] at ho9 hpl hrp
                have hE := HE.out _ hbw
                have hox := OwnB.stays ho9 hbr
                have hal := rcAll_any ea v9 X wr hox.row (by omega) hE.e1 hE.e2 hE.e4 hE.e5 hE.e6 hE.e12
                rw [hrp] at hal
                obtain ⟨a9, c9, rfl, -, -⟩ := hox.row.gen.shape
                have HAL2 : Hid (Calls Tryd.prog 45 #[.slice a9 X.length c9] wr fun e w' => ∃ v', e = .returned (.tuple #[v', .nilIface]) ∧ OwnRc wr.heap.size w' v' (rs.map fun r => ({ r with raw := rput r } : Rc)) ∧ Below wr.heap.size wr w') := hal
                have HBW := Lib.hid hbw
                clear HC hall hbd0 ho9 HO9 hpl hrp hX hE hox hal hbr hbw HBE4
                go_wp2_with fail
                refine HAL2.out.mono ?_
                rintro e w5 ⟨v13, rfl, ho13, hb5⟩
                have hbe5 := HBW.out.trans (hb5.mono HBW.out.size)
                obtain ⟨a13, c13, hv13, -, hi13⟩ := RowS.shape ho13.row rcC_len
                rw [List.length_map] at hv13
                subst hv13
                have HI13 := Lib.hid hi13
                have HBE5 := Lib.hid hbe5
                clear HAL2 ho13 hb5 hi13 hbe5 HBW
                go_wp2_with fail
                go_loopw [113] (fun i wr => ∃ m : Nat, m ≤ rs.length ∧ i = .int .i64 m ∧ Below w5.heap.size w5 wr) (fun i _ => rs.length - (intOf i).toNat)
                case atStart => exact ⟨0, Nat.zero_le _, rfl, Below.refl _ _⟩
                case round =>
                  obtain ⟨m, hm, rfl, hbr⟩ := hrel
                  have hbw := HBE5.out.trans (hbr.mono HBE5.out.size)
                  by_cases h1 : m < rs.length
                  · obtain ⟨⟨n, k, bits, text, raw⟩, hq⟩ : ∃ r, rs[m]? = some r := ⟨_, List.getElem?_eq_getElem h1⟩
                    obtain ⟨gb, ob, rfl, hc⟩ := HIL.out m _ hq
                    have d0 := cell_below hbw (hc 0 (.int .i64 n) rfl)
                    have d1 := cell_below hbw (hc 1 (.int .i64 k) rfl)
                    have d2 := cell_below hbw (hc 2 (.int .u64 bits) rfl)
                    have d3 := cell_below hbw (hc 3 (.string (strB text)) rfl)
                    have d4 := cell_below hbw (hc 4 (.string (strB raw)) rfl)
                    rw [Nat.add_zero] at d0
                    rw [← Nat.add_assoc] at d1 d2 d3 d4
                    obtain ⟨Y, hY⟩ : ∃ Y, Y = rput ⟨n, k, bits, text, raw⟩ := ⟨_, rfl⟩
                    obtain ⟨gx, ox, rfl, hcx⟩ := HI13.out m ⟨n, k, bits, text, Y⟩ (by rw [List.getElem?_map, hq, hY]; rfl)
                    have x0 := cell_below hbr (hcx 0 (.int .i64 n) rfl)
                    have x1 := cell_below hbr (hcx 1 (.int .i64 k) rfl)
                    have x2 := cell_below hbr (hcx 2 (.int .u64 bits) rfl)
                    have x3 := cell_below hbr (hcx 3 (.string (strB text)) rfl)
                    have x4 := cell_below hbr (hcx 4 (.string (strB Y)) rfl)
                    rw [Nat.add_zero] at x0
                    rw [← Nat.add_assoc] at x1 x2 x3 x4
                    have hba : Below wr.heap.size wr (wr.alloc (.cells #[.int .i64 n, .int .i64 k, .int .u64 bits, .string (strB text), .string (strB Y)] 69)) := (Below.refl _ _).alloc (Nat.le_refl _) _
                    have hcc := CellsAt.new wr #[.int .i64 n, .int .i64 k, .int .u64 bits, .string (strB text), .string (strB Y)] 69
                    have y0 := cell_below hba d0
                    have y1 := cell_below hba d1
                    have y2 := cell_below hba d2
                    have y3 := cell_below hba d3
                    have hbr2 := hbr.trans (hba.mono hbr.size)
                    have hmi : (m : Int) < rs.length := by omega
                    clear hc hcx hq hY hbr hbw hba d0 d1 d2 d3 d4
                    go_upto_region 28 with fail
                    generalize wr.alloc (.cells #[.int .i64 n, .int .i64 k, .int .u64 bits, .string (strB text), .string (strB Y)] 69) = W7 at hcc y0 y1 y2 y3 hbr2 ⊢
                    generalize wr.heap.size = gz at hcc ⊢
                    have z0 := hcc.cell 0 (v := .int .i64 n) rfl
                    have z1 := hcc.cell 1 (v := .int .i64 k) rfl
                    have z2 := hcc.cell 2 (v := .int .u64 bits) rfl
                    have z3 := hcc.cell 3 (v := .string (strB text)) rfl
                    have se := strB_eq_of (rfl : text = text)
                    have se' : (strB text != strB text) = false := by unfold bne; rw [se]; rfl
                    have b0' : (n != n) = false := by simp
                    have b1' : (k != k) = false := by simp
                    have b2' : ((bits : Int) != bits) = false := by simp
                    have b0 : (n == n) = true := by simp
                    have b1 : (k == k) = true := by simp
                    have b2 : ((bits : Int) == bits) = true := by simp
                    have HBR2 := Lib.hid hbr2
                    clear hcc x0 x1 x2 x3 x4 hbr2
                    go_quiet (fail)
                    go_wp2_with fail
                    go_roundw
                    case rel => exact ⟨m + 1, by omega, by go_num, below_drewNr _ HBR2.out⟩
                    case measure => simp only [intOf]; omega
                  · obtain rfl : rs.length = m := by omega
                    go_wp2_with fail
                    go_ret
                    exact ⟨rfl, hbw⟩
end Go.Proofs.YtgehbabcpmkgaaaDoor
