/- Paths: the parser's key. -/
import Derived.Test.YtcjflglpkpkflaaGreatDoorPaB
import Derived.Test.YtcjflglpkpkflaaGreatDoorWide
import Derived.Test.YtcjflglpkpkflaaGreatDoorVy
import Derived.Deep.RegionHeld3
namespace Go.Proofs.YtcjflglpkpkflaaGreatDoor
open Go Go.RowKit
set_option linter.unusedVariables false
def idxI (o : Option Nat) : Int := match o with | some d => d | none => -1
theorem idx_hexAll : ((List.range 256).all fun n => Lib.indexByte hexS (UInt8.ofNat n) == idxI (unhexD (UInt8.ofNat n))) = true := by decide +kernel
theorem idx_hex (c : UInt8) : Lib.indexByte hexS c = idxI (unhexD c) := by
  have h := List.all_eq_true.1 idx_hexAll c.toNat (List.mem_range.2 c.toNat_lt)
  have e : UInt8.ofNat c.toNat = c := UInt8.ofNat_toNat
  rw [e] at h
  simpa using h
theorem idx_any (c : UInt8) (d : Nat) (hd : unhexD c = some d) (w : World) : Calls Tryz.prog 73 #[.string ⟨#[48, 49, 50, 51, 52, 53, 54, 55, 56, 57, 97, 98, 99, 100, 101, 102]⟩, .int .u8 ((c.toNat : Nat) : Int)] w fun e w' => e = .returned (.int .i64 (d : Int)) ∧ w' = w := by
  have h := Any.strings_IndexByte Tryz.lays137 ⟨#[48, 49, 50, 51, 52, 53, 54, 55, 56, 57, 97, 98, 99, 100, 101, 102]⟩ ((c.toNat : Nat) : Int) w
  have e : ((c.toNat : Nat) : Int).toNat.toUInt8 = c := by
    rw [Int.toNat_natCast]
    exact UInt8.ofNat_toNat
  rw [e, show (⟨#[48, 49, 50, 51, 52, 53, 54, 55, 56, 57, 97, 98, 99, 100, 101, 102]⟩ : ByteArray).data.toList = hexS from rfl, idx_hex, hd] at h
  exact h
theorem or16All : ((List.range 16).all fun a => (List.range 16).all fun b => IntKind.u8.wrap (bits .or .i64 (IntKind.i64.wrap (((a : Nat) : Int) * 16)) ((b : Nat) : Int)) == ((a * 16 + b : Nat) : Int)) = true := by decide +kernel
theorem or16 {a b : Nat} (ha : a < 16) (hb : b < 16) : Value.int .u8 (IntKind.u8.wrap (bits .or .i64 (IntKind.i64.wrap ((a : Int) * 16)) (b : Int))) = BV (UInt8.ofNat (a * 16 + b)) := by
  have h := List.all_eq_true.1 (List.all_eq_true.1 or16All a (List.mem_range.2 ha)) b (List.mem_range.2 hb)
  have h2 : IntKind.u8.wrap (bits .or .i64 (IntKind.i64.wrap ((a : Int) * 16)) (b : Int)) = ((a * 16 + b : Nat) : Int) := by simpa only [beq_iff_eq] using h
  rw [h2]
  unfold BV
  rw [of_nat (by omega)]
/-- all hex, an even number of signs: the bytes -/
theorem unhex_ex : ∀ s : Bs, (∀ c ∈ s, isHx c = true) → s.length % 2 = 0 → ∃ t, unhex s = some t ∧ s.length = 2 * t.length ∧ ∀ i, i < t.length → ∃ x y a b, s[2 * i]? = some x ∧ s[2 * i + 1]? = some y ∧ unhexD x = some a ∧ unhexD y = some b ∧ t[i]? = some (UInt8.ofNat (a * 16 + b))
  | [], _, _ => ⟨[], rfl, rfl, fun i h => by simp at h⟩
  | [_], _, h => by simp at h
  | x :: y :: s, hs, h => by
    obtain ⟨t, h1, h2, h3⟩ := unhex_ex s (fun c hc => hs c (by simp [hc])) (by simp only [List.length_cons] at h; omega)
    obtain ⟨a, ha⟩ := Option.isSome_iff_exists.1 (hs x (by simp))
    obtain ⟨b, hb⟩ := Option.isSome_iff_exists.1 (hs y (by simp))
    refine ⟨UInt8.ofNat (a * 16 + b) :: t, by rw [unhex, ha, hb, h1], by simp; omega, fun i hi => ?_⟩
    cases i with
    | zero => exact ⟨x, y, a, b, rfl, rfl, ha, hb, rfl⟩
    | succ i =>
      obtain ⟨x', y', a', b', k1, k2, k3, k4, k5⟩ := h3 i (by simpa using hi)
      exact ⟨x', y', a', b', by rw [show 2 * (i + 1) = 2 * i + 1 + 1 from by omega]; simpa using k1, by rw [show 2 * (i + 1) + 1 = 2 * i + 1 + 1 + 1 from by omega]; simpa using k2, k3, k4, by simpa using k5⟩
theorem unhex_odd {s : Bs} (h : s.length % 2 = 1) : unhex s = none := by
  cases hu : unhex s with
  | none => rfl
  | some l =>
    have h1 := hexB_len l
    rw [hex_unhex s l hu] at h1
    omega
theorem block_next {n m : Nat} {t : Bs} {y : UInt8} (hn : t.length = n) (hm : m < n) (hy : t[m]? = some y) : (t.take m ++ List.replicate (n - m) (b8 0)).set m y = t.take (m + 1) ++ List.replicate (n - (m + 1)) (b8 0) := by
  have hl : (t.take m).length = m := by rw [List.length_take]; omega
  rw [List.set_append_right _ _ (by omega), hl, Nat.sub_self, show n - m = (n - (m + 1)) + 1 from by omega, List.replicate_succ, List.set_cons_zero, List.take_add_one, hy, Option.toList_some, List.append_assoc, List.singleton_append]
theorem sizeVV : (Tryz.prog.info? 38).map (·.size) = some 7 := by kernel_rfl
/-- a value with no rows, by its cells -/
def leafA (k : Int) (n : Nat) (t : Bs) : Array Value := #[.int .i64 k, .int .u64 (n : Int), .string (strB t), .slice none 0 0, .string (strB []), .slice none 0 0, .slice none 0 0]
def leafV (k : Int) (n : Nat) (t : Bs) : V := .mk k n t [] [] [] []
theorem leafA_size (k : Int) (n : Nat) (t : Bs) : (leafA k n t).size = 7 := rfl
theorem leafA_one (k : Int) (n : Nat) (t : Bs) : (leafA k n t).all (·.oneCell') = true := by simp [leafA, Value.oneCell']
theorem num_leaf (x : Nat) (w : World) : Calls Tryz.prog 71 #[.int .u64 (x : Int)] w fun e w' => e = .returned (.agg (leafA 1 x [])) ∧ Below w.heap.size w w' := num_lit x w
theorem str_leaf (x : Bs) (w : World) : Calls Tryz.prog 62 #[.string (strB x)] w fun e w' => e = .returned (.agg (leafA 2 0 x)) ∧ Below w.heap.size w w' := str_lit x w
def keyOk (o : Option (V × Bs)) (k : Int) (n : Nat) (t l' : Bs) (b' b : Bool) : Prop := match o with | some (v, r) => v = leafV k n t ∧ r = l' ∧ b' = b | none => b' = true
/-- what key answers -/
def KeyP (o : Option (V × Bs)) (b : Bool) (g L : Nat) (w : World) (e : Ending) (w' : World) : Prop :=
  ∃ (k : Int) (n : Nat) (t l' : Bs) (b' : Bool), e = .returned (.agg (leafA k n t)) ∧ (0 ≤ k ∧ k ≤ 2) ∧ n < 18446744073709551616 ∧ t.length ≤ L ∧ PC w' g l' b' ∧ l'.length ≤ L ∧ Grew [g] w w' ∧ keyOk o k n t l' b' b
theorem grown_grew {w w' : World} {r : Nat} (h : w.grownBy w' (some r)) : Grew [r] w w' := Grew.ofGrown h
set_option maxRecDepth 100000 in
set_option maxHeartbeats 4000000 in
theorem key_any {w : World} {g : Nat} {l : Bs} {b : Bool} (hE : ErrsN w) (h : PC w g l b) (hl : l.length ≤ 1000000) :
    Calls Tryz.prog 51 #[.pointer (some ⟨g, 0, none⟩)] w (KeyP (keyP l) b g l.length w) := by
  obtain ⟨W0, hW0⟩ : ∃ W0, W0 = w.alloc (.cells #[.int .i64 0, .int .u64 0, .string ⟨#[]⟩, .slice none 0 0, .string ⟨#[]⟩, .slice none 0 0, .slice none 0 0] 38) := ⟨_, rfl⟩
  obtain ⟨gr, hgr⟩ : ∃ gr, gr = w.heap.size := ⟨_, rfl⟩
  have hb0 : Below w.heap.size w W0 := by rw [hW0]; exact (Below.refl _ _).alloc (Nat.le_refl _) _
  have hg0 : Grew [g] w W0 := Grew.ofBelow hb0
  have hcr : CellsAt W0 gr 38 (leafA 0 0 []) := by rw [hW0, hgr]; exact CellsAt.new w _ _
  have h0 : PC W0 g l b := CellsAt.stays h hb0
  have hlt := CellsAt.lt h
  have hne : gr ∉ [g] := by simp; omega
  have hE0 : ErrsN W0 := hE.stays hb0
  have HST : Hid (∀ w', Grew [g] W0 w' → CellsAt w' gr 38 (leafA 0 0 []) ∧ Grew [g] w w' ∧ ErrsN w') := fun w' hg => ⟨hcr.grew hg hne, hg0.trans hg, hE0.grew h0 hg⟩
  have HWR : Hid (∀ w1 w2, Grew [g] w w1 → w1.grownBy w2 (some gr) → ∀ {l' b'}, PC w1 g l' b' → Grew [g] w w2 ∧ PC w2 g l' b') := fun w1 w2 h1 h2 l' b' h3 =>
    ⟨h1.grown h2 (fun i hi => by cases hi; right; omega), CellsAt.grown h3 h2 (fun e => by cases e; omega)⟩
  have HTake := Lib.hid (take_any h0 39)
  have HW := Lib.hid hW0
  have HGR := Lib.hid hgr
  have HKP : Hid (keyP l = match takeS 39 l with
    | none => match numP l with
      | some (u, r) => some (leafV 1 u [], r)
      | none => none
    | some l1 => match unhex (l1.takeWhile isHx), takeS 39 (l1.dropWhile isHx) with
      | some t, some r => some (leafV 2 0 t, r)
      | _, _ => none) := rfl
  cases ht : takeS 39 l with
  | none =>
    rw [ht] at HTake HKP
    have HNum : Hid (∀ w1, ErrsN w1 → PC w1 g l b → Calls Tryz.prog 70 #[.pointer (some ⟨g, 0, none⟩)] w1 (NumP (numP l) b g (l.dropWhile isDg) w1)) := fun w1 h1 h2 => number_any h1 h2 hl
    have hdl := drop_le (p := isDg) l
    have HDL := Lib.hid hdl
    have HK : Hid (∀ (u : Nat) b', numOk (numP l) u b' b (l.dropWhile isDg) → keyOk (keyP l) 1 u [] (l.dropWhile isDg) b' b) := fun u b' ho => by
      rw [HKP.out]
      revert ho
      cases numP l with
      | none => exact fun ho => ho
      | some p =>
        obtain ⟨n, r'⟩ := p
        rintro ⟨rfl, h2, h3⟩
        exact ⟨rfl, h3, h2⟩
    clear h hE hl hW0 hgr hb0 hg0 hcr h0 hlt hne hE0 HKP ht hdl
    generalize keyP l = KP at HK ⊢
    generalize numP l = NP at HK HNum
    generalize l.dropWhile isDg = r at HK HNum HDL
    go_enter Tryz.func51, Tryz.ntmps51
    go_upto_region 1 with fail
    rw [← HW.out, ← HGR.out]
    clear HW HGR
    go_wp2_with fail
    refine HTake.out.mono ?_
    rintro e w1 ⟨rfl, hc1, hg1⟩
    obtain ⟨k1, k2, k3⟩ := HST.out w1 hg1
    have HC := Lib.hid (HNum.out w1 k3 hc1)
    have HG1 := Lib.hid hg1
    clear HTake HNum hc1 hg1 k1 k2 k3
    go_wp2_with fail
    refine HC.out.mono ?_
    rintro e w2 ⟨u, b', rfl, hu, hc2, hg2, ho⟩
    have HN := Lib.hid (num_leaf u w2)
    have hOK := HK.out u b' ho
    have HOK := Lib.hid hOK
    have HU := Lib.hid hu
    have HC2 := Lib.hid hc2
    have HG2 := Lib.hid (HG1.out.trans hg2)
    have hsA : (leafA 1 u []).size = 7 := rfl
    have hoA := leafA_one 1 u []
    generalize hKK : leafA 1 u [] = KK at HN hsA hoA
    have HKK := Lib.hid hKK
    clear HC HG1 hu hc2 hg2 ho hOK HK hKK
    go_wp2_with fail
    refine HN.out.mono ?_
    rintro e w3 ⟨rfl, hb3⟩
    obtain ⟨hcr3, hg3, -⟩ := HST.out w3 (HG2.out.add hb3)
    have HC3 := Lib.hid (CellsAt.stays HC2.out hb3)
    have HG3 := Lib.hid hg3
    clear HN HG2 HC2 hb3 hg3
    go_wp2_with (refine wpList_storeW rfl 38 _ _ rfl gr (by rfl) KK (by rfl) 38 _ hcr3 (by rw [hsA]; rfl) (by rw [hsA]; exact sizeVV) hoA ?_; intro w4 hc4 hg4)
    obtain ⟨q1, q2⟩ := HWR.out w3 w4 HG3.out hg4 HC3.out
    exact bodyPost_ret (v := .agg KK) (results_cell_row rfl _ w4 gr 38 KK (0, 0) _ rfl hc4 Tryz.underlying38 rfl (by rw [hsA]; exact sizeVV)) rfl
      ⟨1, u, [], r, b', by rw [HKK.out], ⟨by decide, by decide⟩, HU.out, Nat.zero_le _, q2, HDL.out, q1, HOK.out⟩
  | some l1 =>
    rw [ht] at HTake HKP
    have hl1 := takeS_some ht
    have hL1 : l1.length ≤ l.length := by rw [hl1]; simp
    have HRun : Hid (∀ w1, PC w1 g l1 b → Calls Tryz.prog 72 #[.pointer (some ⟨g, 0, none⟩), .string ⟨#[48, 49, 50, 51, 52, 53, 54, 55, 56, 57, 97, 98, 99, 100, 101, 102]⟩] w1 fun e w' => e = .returned (.string (strB (l1.takeWhile isHx))) ∧ PC w' g (l1.dropWhile isHx) b ∧ Grew [g] w1 w') := fun w1 h1 => run_any h1 (by omega) hexS isHx rfl (by decide) hx_is
    have hlen := len_tw isHx l1
    have hall := takeW_dg isHx l1
    simp only at HKP
    clear ht hl1 h hE hW0 hgr hb0 hg0 hcr h0 hlt hne hE0
    generalize keyP l = KP at HKP ⊢
    generalize l.length = L at hL1 hl ⊢
    generalize l1.takeWhile isHx = s at HRun HKP hlen hall
    generalize l1.dropWhile isHx = r at HRun HKP hlen
    have HMust : Hid (∀ w1, PC w1 g r b → Calls Tryz.prog 52 #[.pointer (some ⟨g, 0, none⟩), .string ⟨#[39]⟩] w1 fun e w' => e = .returned (.tuple #[]) ∧ PC w' g ((takeS 39 r).getD r) ((takeS 39 r).isNone || b) ∧ Grew [g] w1 w') := fun w1 h1 => must_any h1 39
    have hr2 := takeS_len 39 r
    have HR2 : Hid (((takeS 39 r).getD r).length ≤ L) := by show _ ≤ _; omega
    have HSL : Hid (s.length ≤ L) := by show _ ≤ _; omega
    have hs6 : s.length ≤ 1000000 := by omega
    have hsz : (strB s).size = s.length := strB_size s
    obtain ⟨o2, ho2⟩ : ∃ o, o = takeS 39 r := ⟨_, rfl⟩
    rw [← ho2] at HMust HR2 HKP
    obtain ⟨r2, hr2e⟩ : ∃ r2, r2 = o2.getD r := ⟨_, rfl⟩
    rw [← hr2e] at HMust HR2
    have HRR := Lib.hid hr2e
    clear ho2 hr2 hlen hL1 hl hr2e
    by_cases hodd : s.length % 2 = 1
    · have HN : Hid (KP = none) := by
        show _ = _
        rw [HKP.out, unhex_odd hodd]
      have em : Int.tmod (s.length : Int) 2 = 1 := by rw [Int.tmod_eq_emod_of_nonneg (by omega)]; omega
      generalize s.length = SL at em hsz hs6 HSL
      clear hall hodd HKP HRR
      go_enter Tryz.func51, Tryz.ntmps51
      go_upto_region 1 with fail
      rw [← HW.out, ← HGR.out]
      clear HW HGR
      go_wp2_with fail
      refine HTake.out.mono ?_
      rintro e w1 ⟨rfl, hc1, hg1⟩
      have HC := Lib.hid (HRun.out w1 hc1)
      have HG1 := Lib.hid hg1
      clear HTake HRun hc1 hg1
      go_wp2_with fail
      refine HC.out.mono ?_
      rintro e w2 ⟨rfl, hc2, hg2⟩
      have HM := Lib.hid (HMust.out w2 hc2)
      have HG2 := Lib.hid (HG1.out.trans hg2)
      clear HC HG1 HMust hc2 hg2
      go_wp2_with fail
      refine HM.out.mono ?_
      rintro e w3 ⟨rfl, hc3, hg3⟩
      have c1 := CellsAt.cell hc3 1 (v := .bool (o2.isNone || b)) rfl
      have f1 := CellsAt.free hc3 1
      obtain ⟨hcr3, hg3, -⟩ := HST.out _ ((HG2.out.trans hg3).one 1 (.bool true))
      have HC3 := Lib.hid (hc3.turn true)
      have HG3 := Lib.hid hg3
      have hsA : (leafA 0 0 []).size = 7 := rfl
      have hoA := leafA_one 0 0 []
      generalize hKK : leafA 0 0 [] = KK at hcr3 hsA hoA
      clear HM HG2 hc3 hg3
      go_wp2_with (refine wpList_storeW rfl 38 _ _ rfl gr (by rfl) KK (by subst hKK; rfl) 38 _ hcr3 rfl (by rw [hsA]; exact sizeVV) hoA ?_; intro w4 hc4 hg4)
      obtain ⟨q1, q2⟩ := HWR.out _ w4 HG3.out hg4 HC3.out
      exact bodyPost_ret (v := .agg KK) (results_cell_row rfl _ w4 gr 38 KK (0, 0) _ rfl hc4 Tryz.underlying38 rfl (by rw [hsA]; exact sizeVV)) rfl
        ⟨0, 0, [], r2, true, by rw [hKK], ⟨by decide, by decide⟩, by decide, Nat.zero_le _, q2, HR2.out, q1, by rw [HN.out]; rfl⟩
    · obtain ⟨t, ht, hst, hti⟩ := unhex_ex s hall (by omega)
      have em : Int.tmod (s.length : Int) 2 = 0 := by rw [Int.tmod_eq_emod_of_nonneg (by omega)]; omega
      have ed : Int.tdiv (s.length : Int) 2 = (t.length : Int) := by rw [Int.tdiv_eq_ediv_of_nonneg (by omega)]; omega
      have HOK : Hid (keyOk KP 2 0 t r2 (o2.isNone || b) b) := by
        show keyOk KP 2 0 t r2 (o2.isNone || b) b
        rw [HKP.out, ht, HRR.out]
        cases o2 with
        | none => rfl
        | some q => exact ⟨rfl, rfl, rfl⟩
      have HTL : Hid (t.length ≤ L) := by show _ ≤ _; have := HSL.out; omega
      have HTI := Lib.hid hti
      obtain ⟨N, hN⟩ : ∃ N, N = t.length := ⟨_, rfl⟩
      rw [← hN] at ed HTI hst
      have hN6 : N ≤ 1000000 := by omega
      have HNT := Lib.hid hN
      have HS2 := Lib.hid hst
      clear hall hodd HKP HRR ht hti hN hst
      go_enter Tryz.func51, Tryz.ntmps51
      go_upto_region 1 with fail
      rw [← HW.out, ← HGR.out]
      clear HW HGR
      go_wp2_with fail
      refine HTake.out.mono ?_
      rintro e w1 ⟨rfl, hc1, hg1⟩
      have HC := Lib.hid (HRun.out w1 hc1)
      have HG1 := Lib.hid hg1
      clear HTake HRun hc1 hg1
      go_wp2_with fail
      refine HC.out.mono ?_
      rintro e w2 ⟨rfl, hc2, hg2⟩
      have HM := Lib.hid (HMust.out w2 hc2)
      have HG2 := Lib.hid (HG1.out.trans hg2)
      clear HC HG1 HMust hc2 hg2
      go_wp2_with fail
      refine HM.out.mono ?_
      rintro e w3 ⟨rfl, hc3, hg3⟩
      obtain ⟨hcr3, hg3', -⟩ := HST.out _ (HG2.out.trans hg3)
      have HC3 := Lib.hid hc3
      have HG3 := Lib.hid hg3'
      have HR3 := Lib.hid hcr3
      have HG03 := Lib.hid (HG2.out.trans hg3)
      clear HM HG2 hc3 hg3 hcr3 hg3'
      go_wp2_with (at_make; go_must (refine wpList_makeB rfl _ _ rfl _ _ _ _ N N rfl rfl rfl rfl (Nat.le_refl _) (by omega) ?_))
      intro w4 hbl hb4
      obtain ⟨gb, hgb⟩ : ∃ gb, gb = w3.heap.size := ⟨_, rfl⟩
      rw [← hgb] at hbl hb4 ⊢
      have hgg : g < gb := by rw [hgb]; exact CellsAt.lt HC3.out
      have hgrb : gr < gb := by rw [hgb]; exact CellsAt.lt HR3.out
      have HX : Hid (∀ W, Below gb w4 W → PC W g r2 (o2.isNone || b) ∧ CellsAt W gr 38 (leafA 0 0 []) ∧ Grew [g] w W ∧ gb ≤ W.heap.size) := fun W hW => by
        have h1 := hb4.trans hW
        have h2 : Below w3.heap.size w3 W := by rw [← hgb]; exact h1
        exact ⟨CellsAt.stays HC3.out h2, HR3.out.stays h2, HG3.out.add h2, by have := h2.size; omega⟩
      have HBL := Lib.hid hbl
      have hbe : Below gb w4 w4 := Below.refl _ _
      have HBW := Lib.hid hbe
      clear hbl hb4 hgb hgrb hgg HC3 HG3 HR3 HG03 HST hbe
      go_wp2_with fail
      go_loopw [30] (fun i wr => ∃ m : Nat, m ≤ N ∧ i = .int .i64 m ∧ Hid (BlockB wr gb (t.take m ++ List.replicate (N - m) (b8 0))) ∧ Hid (Below gb w4 wr)) (fun i _ => N - (intOf i).toNat)
      case atStart => exact ⟨0, Nat.zero_le _, rfl, HBL.out, HBW.out⟩
      case round =>
        clear HBL HBW
        obtain ⟨m, hm, rfl, HB, HBE⟩ := hrel
        by_cases h1 : m < N
        · obtain ⟨x, y, a, c, hx, hy, ha, hc, hv⟩ := HTI.out m h1
          have hbb := HB.out
          have hnx := block_next HNT.out.symm h1 hv
          have hsl := HS2.out
          obtain ⟨i2, hi2⟩ : ∃ i2, i2 = 2 * m := ⟨_, rfl⟩
          rw [← hi2] at hx hy
          have hix : ∀ h, (strB s)[i2]'h = x := fun h => by
            have e := List.getElem?_eq_getElem (l := s) (i := i2) (by omega)
            rw [hx] at e
            exact (Option.some.inj e).symm
          have hiy : ∀ h, (strB s)[i2 + 1]'h = y := fun h => by
            have e := List.getElem?_eq_getElem (l := s) (i := i2 + 1) (by omega)
            rw [hy] at e
            exact (Option.some.inj e).symm
          obtain ⟨old, hold⟩ : ∃ z, (t.take m ++ List.replicate (N - m) (b8 0))[m]? = some z := ⟨b8 0, by
            have hl : (t.take m).length = m := by rw [List.length_take, ← HNT.out]; omega
            rw [List.getElem?_append_right (by omega), hl, Nat.sub_self, List.getElem?_replicate, if_pos (by omega)]⟩
          have hc0 : ∀ W, BlockB W gb (t.take m ++ List.replicate (N - m) (b8 0)) → W.cell? ⟨gb, m, none⟩ = some (BV old) ∧ W.frozen? ⟨gb, m, none⟩ = false := fun W h => ⟨h.cell hold, h.free m⟩
          have HIX := Lib.hid (idx_any x a ha)
          have HIY := Lib.hid (idx_any y c hc)
          obtain ⟨a16, -⟩ := unhexD_some ha
          obtain ⟨c16, -⟩ := unhexD_some hc
          have HU8 : Hid (Value.int .u8 (IntKind.u8.wrap (bits .or .i64 (IntKind.i64.wrap ((a : Int) * 16)) (c : Int))) = BV (UInt8.ofNat (a * 16 + c))) := by
            show _ = _
            exact or16 a16 c16
          have e1 : IntKind.i64.wrap (2 * (m : Int)) = (i2 : Int) := by rw [IntKind.wrap_i64]; omega
          have e2 : IntKind.i64.wrap ((i2 : Int) + 1) = (i2 : Int) + 1 := by rw [IntKind.wrap_i64]; omega
          have e3 : ((i2 : Nat) : Int).toNat = i2 := Int.toNat_natCast _
          have e4 : ((i2 : Int) + 1).toNat = i2 + 1 := by omega
          have hlt2 : i2 + 1 < s.length := by omega
          have hv0 : (0 : Int) ≤ (i2 : Int) ∧ (i2 : Int) < s.length ∧ (0 : Int) ≤ (i2 : Int) + 1 ∧ (i2 : Int) + 1 < s.length := by omega
          obtain ⟨v0, v1, v2, v3⟩ := hv0
          have hm1 : (m : Int) < N := by omega
          have HSET := Lib.hid (BlockB.set hbb m (UInt8.ofNat (a * 16 + c)))
          obtain ⟨cc, cf⟩ := hc0 wr hbb
          have HY2 := Lib.hid hi2
          have HNX := Lib.hid hnx
          clear hx hy ha hc hv hbb hnx hold hc0 hi2 HTI a16 c16 hsl HB
          go_wp2_with fail
          go_region_held3 (fun _ => True) (exact trivial)
            (first
              | (go_at_call 73; (with_reducible refine (HIX.out _).mono ?_); rintro e w6 ⟨rfl, rfl⟩)
              | (go_at_call 73; (with_reducible refine (HIY.out _).mono ?_); rintro e w7 ⟨rfl, rfl⟩))
          all_goals
            rw [HU8.out]
            rw [HNX.out] at HSET
            have HBE2 : Hid (Below gb w4 (wr.setCell ⟨gb, m, none⟩ (BV (UInt8.ofNat (a * 16 + c)))).drew) := (HBE.out.setCell (p := ⟨gb, m, none⟩) (Nat.le_refl _) _).drew
            have HSD : Hid (BlockB (wr.setCell ⟨gb, m, none⟩ (BV (UInt8.ofNat (a * 16 + c)))).drew gb (t.take (m + 1) ++ List.replicate (N - (m + 1)) (b8 0))) := HSET.out
            generalize (wr.setCell ⟨gb, m, none⟩ (BV (UInt8.ofNat (a * 16 + c)))).drew = wz at HBE2 HSD ⊢
            clear HU8 HNX HSET HIX HIY hix hiy e1 e2 e3 e4 v0 v1 v2 v3 hlt2 cc cf
            go_wp2_with fail
            go_roundw
            case rel => exact ⟨m + 1, h1, by go_num, HSD.out, HBE2.out⟩
            case measure => simp only [intOf]; omega
        · obtain rfl : m = N := by omega
          have hbb := HB.out
          rw [Nat.sub_self, List.replicate_zero, List.append_nil, List.take_of_length_le (Nat.le_of_eq HNT.out.symm)] at hbb
          have how : RowB wr (.slice (some ⟨gb, 0, none⟩) m m) t := by
            have := BlockB.own (B := 0) (bs := t) (cs := []) (c := m) (by rw [List.append_nil]; exact hbb) (Nat.zero_le _) (by rw [HNT.out]; simp) (by unfold maxLen; omega)
            rw [← HNT.out] at this
            exact this.row
          have hcv := convert_str how
          obtain ⟨k1, k2, k3, k4⟩ := HX.out wr HBE.out
          have HS := Lib.hid (str_leaf t wr)
          have hsA : (leafA 2 0 t).size = 7 := rfl
          have hoA := leafA_one 2 0 t
          generalize hKK : leafA 2 0 t = KK at HS hsA hoA
          have HKK := Lib.hid hKK
          have HK1 := Lib.hid k1
          have HK2 := Lib.hid k2
          have HK3 := Lib.hid k3
          clear hbb how k1 k2 k3 k4 HX HB HBE HTI hKK
          go_wp2_with fail
          refine HS.out.mono ?_
          rintro e w5 ⟨rfl, hb5⟩
          have hcr5 := HK2.out.stays hb5
          have HC5 := Lib.hid (CellsAt.stays HK1.out hb5)
          have HG5 := Lib.hid (HK3.out.add hb5)
          clear HS HK1 HK2 HK3 hb5 hcv
          go_wp2_with (refine wpList_storeW rfl 38 _ _ rfl gr (by rfl) KK (by rfl) 38 _ hcr5 (by rw [hsA]; rfl) (by rw [hsA]; exact sizeVV) hoA ?_; intro w6 hc6 hg6)
          obtain ⟨q1, q2⟩ := HWR.out _ w6 HG5.out hg6 HC5.out
          exact bodyPost_ret (v := .agg KK) (results_cell_row rfl _ w6 gr 38 KK (0, 0) _ rfl hc6 Tryz.underlying38 rfl (by rw [hsA]; exact sizeVV)) rfl
            ⟨2, 0, t, r2, (o2.isNone || b), by rw [HKK.out], ⟨by decide, by decide⟩, by decide, HTL.out, q2, HR2.out, q1, HOK.out⟩
end Go.Proofs.YtcjflglpkpkflaaGreatDoor
