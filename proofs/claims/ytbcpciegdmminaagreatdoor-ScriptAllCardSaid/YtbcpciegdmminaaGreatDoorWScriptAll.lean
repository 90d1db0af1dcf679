/- The walk of ScriptAll: all acts of every text. -/
import Derived.Test.YtbcpciegdmminaaGreatDoorSrH
import Derived.Test.YtbcpciegdmminaaGreatDoorSrI
import Derived.Test.YtbcpciegdmminaaGreatDoorScZ
import Derived.Test.YtbcpciegdmminaaGreatDoorScAo
import Derived.Test.YtbcpciegdmminaaGreatDoorErrs
import Derived.Deep.RegionHeld3
namespace Go.Proofs.YtbcpciegdmminaaGreatDoor
open Go Go.RowKit
set_option linter.unusedVariables false
def stC (x : Bs) : List Value := [SV x]
theorem stC_len (x : Bs) : (stC x).length = 1 := rfl
def stG (x : Bs) : Prop := True
theorem flat_oneB (f : Bs → Value) : ∀ xs : List Bs, xs.flatMap (fun z => [f z]) = xs.map f
  | [] => rfl
  | x :: xs => by rw [List.flatMap_cons, flat_oneB f xs]; rfl
/-! ### plain -/
theorem bad_nil : badF [[]] = 0 := rfl
theorem acts_nil : actsOf [[]] = [] := rfl
theorem lines_all {L : List Bs} (h : ∀ x ∈ L, 10 ∉ x) : badF (spl 10 (joi 10 L)) = badF L ∧ actsOf (spl 10 (joi 10 L)) = actsOf L := by
  cases L with
  | nil => exact ⟨rfl, rfl⟩
  | cons x r => rw [spl_joi 10 (x :: r) (by simp) h]; exact ⟨rfl, rfl⟩
theorem joi_take {L : List Bs} {m : Nat} {x : Bs} (hx : L[m]? = some x) : joi 10 (L.take (m + 1)) = if m = 0 then x else joi 10 (L.take m) ++ 10 :: x := by
  rw [List.take_add_one, hx, Option.toList_some, joi_snoc]
  by_cases h : m = 0
  · rw [if_pos h, if_pos (by rw [h]; rfl)]
  · have hm : L ≠ [] := fun e => by rw [e] at hx; simp at hx
    have hne : L.take m ≠ [] := fun e => by
      rcases List.take_eq_nil_iff.1 e with e | e
      · exact h e
      · exact hm e
    rw [if_neg h, if_neg hne]
theorem joi_le (N : Nat) : ∀ (L : List Bs), (∀ x ∈ L, x.length ≤ N) → (joi 10 L).length ≤ (N + 1) * L.length
  | [], _ => by simp [joi]
  | [x], h => by have := h x (by simp); simp [joi]; omega
  | x :: y :: r, h => by
    have ih := joi_le N (y :: r) (fun z hz => h z (by simp [hz]))
    have h1 := h x (by simp)
    rw [joi_cons _ _ (by simp)]
    simp only [List.length_append, List.length_cons] at ih ⊢
    rw [Nat.mul_add, Nat.mul_add] at *
    omega
theorem acts_right : ∀ (L : List Bs) (a : Ac), a ∈ actsOf L → rightA a = true
  | [], a, h => by cases h
  | l :: r, a, h => by
    rw [actsOf] at h
    rcases List.mem_append.1 h with h | h
    · split at h
      · cases h
      · exact parse_right (by simpa using h)
    · exact acts_right r a h
/-! ### the document's acts in memory, many -/
abbrev RQ := Ac × ((Option Addr × Nat) × (Option Addr × Nat))
def rqK (y : RQ) : Value := .slice y.2.1.1 y.1.keep.length y.2.1.2
def rqT (y : RQ) : Value := .slice y.2.2.1 y.1.torn.length y.2.2.2
def rqC (y : RQ) : List Value := [.int .i64 y.1.k, .int .i64 y.1.a, .int .i64 y.1.b, .int .i64 y.1.c, .int .i64 y.1.n, .string (strB y.1.bs), rqK y, rqT y]
theorem rqC_len (y : RQ) : (rqC y).length = 8 := rfl
theorem rqC_one (y : RQ) : (rqC y).all Value.oneCell' = true := rfl
theorem infoRQ : (Tryz.prog.info? 31).map (fun i => (i.zero, i.size, i.bytes)) = some (some (.agg #[.int .i64 0, .int .i64 0, .int .i64 0, .int .i64 0, .int .i64 0, .string ⟨#[]⟩, .slice none 0 0, .slice none 0 0]), 8, 104) := by kernel_rfl
def RActS (S : Nat → Prop) (w : World) (vk vt : Value) (keep : List Int) (torn : List (Int × Bs)) : Prop := RowIn S w vk keep.length (keep.map IV) ∧ RowIn S w vt torn.length (torn.flatMap rtC)
theorem RActS.toI {S : Nat → Prop} {w : World} {vk vt : Value} {keep : List Int} {torn : List (Int × Bs)} (h : RActS S w vk vt keep torn) : RActI w vk vt keep torn := ⟨h.1.1, h.2.1⟩
theorem RActS.grown {S : Nat → Prop} {w w' : World} {vk vt : Value} {keep : List Int} {torn : List (Int × Bs)} {row : Option Nat} (h : RActS S w vk vt keep torn) (hg : w.grownBy w' row) (hS : ∀ q, S q → row ≠ some q) : RActS S w' vk vt keep torn := ⟨h.1.grown hg hS, h.2.grown hg hS⟩
theorem RActS.stays {S : Nat → Prop} {w w' : World} {vk vt : Value} {keep : List Int} {torn : List (Int × Bs)} (h : RActS S w vk vt keep torn) (hb : Below w.heap.size w w') : RActS S w' vk vt keep torn := ⟨h.1.stays hb, h.2.stays hb⟩
theorem RActI.toS {B : Nat} {w : World} {vk vt : Value} {keep : List Int} {torn : List (Int × Bs)} (h : RActI w vk vt keep torn) (hB : ∀ q, vk.ownBlock = some q ∨ vt.ownBlock = some q → B ≤ q) : RActS (fun q => B ≤ q ∧ q < w.heap.size) w vk vt keep torn :=
  ⟨.of h.1 map_nil (fun q hq => hB q (.inl hq)), .of h.2 (flat_nil (fun x => by simp [rtC])) (fun q hq => hB q (.inr hq))⟩
/-- the acts' rows lie apart from the row of the acts -/
def ELR (v : Value) (w : World) (acc : List RQ) : Prop := ∀ y ∈ acc, ∃ S : Nat → Prop, RActS S w (rqK y) (rqT y) y.1.keep y.1.torn ∧ ∀ q, S q → q < w.heap.size ∧ v.ownBlock ≠ some q
/-- what the loop over the lines has when it comes to line m -/
def AllAt (lines : List Bs) (m : Nat) (w0 : World) (w : World) (T : Bs) (v : Value) (bad : Nat) (acc : List RQ) : Prop :=
  T = joi 10 (lines.take m) ∧ bad = badF (lines.take m) ∧ (∀ x ∈ lines.take m, x.length ≤ 300 ∧ 10 ∉ x) ∧ Below w0.heap.size w0 w ∧
    OwnS 31 8 rqC w0.heap.size w v acc ∧ acc.length ≤ m ∧ ELR v w acc ∧ (bad = 0 → acc.map Prod.fst = actsOf (lines.take m))
section
variable {lines : List Bs} {m : Nat} {w0 w w' : World} {T : Bs} {v : Value} {bad : Nat} {x : Bs} {acc : List RQ}
theorem AllAt.join (h : AllAt lines m w0 w T v bad acc) (hx : lines[m]? = some x) : joi 10 (lines.take (m + 1)) = if m = 0 then x else T ++ 10 :: x := by rw [joi_take hx, h.1]
theorem AllAt.len (h : AllAt lines m w0 w T v bad acc) : T.length ≤ 301 * m := by
  rw [h.1]
  refine Nat.le_trans (joi_le 300 _ (fun x hx => (h.2.2.1 x hx).1)) ?_
  rw [List.length_take]
  exact Nat.mul_le_mul_left _ (Nat.min_le_left _ _)
theorem AllAt.ok (h : AllAt lines m w0 w T v bad acc) (hx : lines[m]? = some x) (hl : x.length ≤ 300) (h10 : 10 ∉ x) : ∀ y ∈ lines.take (m + 1), y.length ≤ 300 ∧ 10 ∉ y := by
  rw [List.take_add_one, hx, Option.toList_some]
  intro y hy
  rcases List.mem_append.1 hy with hy | hy
  · exact h.2.2.1 y hy
  · rw [List.mem_singleton.1 hy]; exact ⟨hl, h10⟩
theorem AllAt.bads (h : AllAt lines m w0 w T v bad acc) (hx : lines[m]? = some x) : badF (lines.take (m + 1)) = if bad ≠ 0 then bad else if badL x then m + 1 else 0 := by
  have hm : m < lines.length := by
    rcases Nat.lt_or_ge m lines.length with h | h
    · exact h
    · rw [List.getElem?_eq_none h] at hx; cases hx
  rw [List.take_add_one, hx, Option.toList_some, badF_app, ← h.2.1]
  by_cases hb : badL x = true
  · have h3 : badF [x] = 1 := by rw [badF, if_pos hb]
    rw [h3, if_pos hb, List.length_take, Nat.min_eq_left (Nat.le_of_lt hm)]
    rfl
  · have h3 : badF [x] = 0 := by rw [badF, if_neg hb]; rfl
    rw [h3, if_pos rfl, if_neg hb]
/-- a line with nothing to do -/
theorem AllAt.skip (h : AllAt lines m w0 w T v bad acc) (hx : lines[m]? = some x) (hl : x.length ≤ 300) (h10 : 10 ∉ x) (hs : skipL x = true ∨ bad ≠ 0) {T' : Bs} (hT : T' = if m = 0 then x else T ++ 10 :: x) : AllAt lines (m + 1) w0 w T' v bad acc := by
  have hj := h.join hx
  have hok := h.ok hx hl h10
  have hbd := h.bads hx
  obtain ⟨h1, h2, h3, h4, h5, h6, h7, h8⟩ := h
  refine ⟨hT.trans hj.symm, ?_, hok, h4, h5, by omega, h7, fun h0 => ?_⟩
  · rw [hbd]
    by_cases h0 : bad = 0
    · rw [if_neg (fun h => h h0), if_neg, h0]
      rcases hs with hs | hs
      · unfold badL; rw [hs]; simp
      · exact absurd h0 hs
    · rw [if_pos h0]
  · rcases hs with hs | hs
    · rw [h8 h0, acts_step hx, if_pos hs, List.append_nil]
    · exact absurd h0 hs
/-- a line whose act is put behind the others -/
theorem AllAt.push {wp : World} {v' : Value} {y : RQ} (h : AllAt lines m w0 w T v 0 acc) (hb : Below w.heap.size w wp) (hy : RActS (fun q => w.heap.size ≤ q ∧ q < wp.heap.size) wp (rqK y) (rqT y) y.1.keep y.1.torn)
    (ho : OwnS 31 8 rqC w0.heap.size w' v' (acc ++ [y])) (hg : wp.grownBy w' v.ownBlock) (hn : NewOrSame wp v v') (hx : lines[m]? = some x) (hl : x.length ≤ 300) (h10 : 10 ∉ x) (hs : skipL x = false)
    (hyp : badL x = false → parseA x = some y.1) {T' : Bs} (hT : T' = if m = 0 then x else T ++ 10 :: x) {bad' : Nat} (hbad : bad' = if badL x then m + 1 else 0) : AllAt lines (m + 1) w0 w' T' v' bad' (acc ++ [y]) := by
  have hj := h.join hx
  have hok := h.ok hx hl h10
  have hbd := h.bads hx
  obtain ⟨h1, h2, h3, h4, h5, h6, h7, h8⟩ := h
  have hq : ∀ q, v.ownBlock = some q → w0.heap.size ≤ q ∧ q < w.heap.size := fun q hq => World.ownsRow.lt h5 q hq
  have hs1 := hb.size
  have hs2 := hg.size
  have hs0 := h4.size
  refine ⟨hT.trans hj.symm, ?_, hok, (h4.trans (hb.mono hs0)).grown hg (Nat.le_trans hs0 hs1) (fun k hk => (hq k hk).1), ho, by simp; omega, fun z hz => ?_, fun h0 => ?_⟩
  · rw [hbd, if_neg (fun h => h rfl), hbad]
  · rcases List.mem_append.1 hz with hz | hz
    · obtain ⟨S, k1, k2⟩ := h7 z hz
      refine ⟨S, (k1.stays hb).grown hg (fun q hS => (k2 q hS).2), fun q hS => ⟨by have := (k2 q hS).1; omega, fun e => ?_⟩⟩
      rcases hn q e with e2 | e2
      · exact (k2 q hS).2 e2
      · have := (k2 q hS).1; omega
    · rw [List.mem_singleton] at hz
      subst hz
      refine ⟨_, hy.grown hg (fun q hS e => by have h1 := (hq q e).2; have h2 : w.heap.size ≤ q := hS.1; omega), fun q hS => ?_⟩
      have e1 : w.heap.size ≤ q := hS.1
      have e2 : q < wp.heap.size := hS.2
      refine ⟨by omega, fun e => ?_⟩
      rcases hn q e with e3 | e3
      · have := (hq q e3).2; omega
      · omega
  · have hb0 : badL x = false := by
      cases hbl : badL x with
      | false => rfl
      | true => rw [hbad, hbl, if_pos rfl] at h0; omega
    rw [List.map_append, h8 rfl, acts_step hx, hs, hyp hb0]; rfl
end
theorem st_dec {H : Type} {enc : TypeId × Value → H} {W : World} {base : Nat} {held : Bool} (n : Nat) (cs' : List Value) (y : DataW H × List MemPlace) (h : DataW.trod enc Tryz.prog W base (fun _ => true) held n 9 cs' = some y) : ∃ x, cs' = stC x ∧ stG x := by
  obtain ⟨t, q, -, -⟩ := DataW.trod_string Tryz.underlying9 h
  exact ⟨t.data.toList, by rw [q]; cases t; simp [stC, SV, strB], trivial⟩
set_option maxRecDepth 100000 in
set_option maxHeartbeats 16000000 in
theorem walkScriptAll (w : World) (v : Value) (lines : List Bs) (hr0 : RowS stC w v lines) (hg0 : ∀ x ∈ lines, stG x) (ea : Nat → Addr) (he : ErrsAll ea w) {aS aR aF : Addr} (hV : VarsP aS aR aF w) (hP : PowAt w) :
    Calls Tryz.prog 5 #[v] w fun e w' => e = .returned (.bool true) ∧ Below w.heap.size w w' := by
  have h9 := he.e9
  have h9' := hV.form
  unfold ErrAt at h9 h9'
  rw [h9] at h9'
  obtain rfl : aF = ea 9 := by simpa using h9'.symm
  have hrl : RowL SV w v lines := by unfold RowS at hr0; rw [show stC = (fun z => [SV z]) from rfl, flat_oneB] at hr0; exact hr0
  obtain ⟨al, cl, rfl, hln, -⟩ := hrl.shape
  have HRL : Hid (∀ W, Below w.heap.size w W → RowL SV W (.slice al lines.length cl) lines) := fun W h => Row.stays hrl h
  have HVV : Hid (∀ W, Below w.heap.size w W → VarsP aS aR (ea 9) W ∧ PowAt W ∧ ErrsAll ea W) := fun W h => ⟨hV.stays h, hP.stays h, he.stays h⟩
  have HAL := Lib.hid (alive39 hV hP)
  unfold maxLen at hln
  clear h9 h9' hV hP he hr0 hg0 hrl
  by_cases hl : 30 < lines.length
  · have t0 : decide ((30 : Int) < (lines.length : Int)) = true := decide_eq_true (by omega)
    clear HRL HVV
    go_enter Tryz.func5, Tryz.ntmps5
    go_wp2_with fail
    refine HAL.out.mono ?_
    rintro e w1 ⟨rfl, hb1⟩
    have HB1 := Lib.hid hb1
    clear hb1 HAL
    go_wp2_with fail
    go_ret
    exact ⟨rfl, HB1.out⟩
  have t0 : decide ((30 : Int) < (lines.length : Int)) = false := decide_eq_false (by omega)
  have hl30 : lines.length ≤ 30 := by omega
  clear hl hln
  go_enter Tryz.func5, Tryz.ntmps5
  go_wp2_with fail
  refine HAL.out.mono ?_
  rintro e w1 ⟨rfl, hb1⟩
  have HB1 := Lib.hid hb1
  clear hb1 HAL
  go_upto_region 7 with fail
  rw [show (Value.string ⟨#[]⟩) = Value.string (strB []) from rfl]
  have hst0 : AllAt lines 0 w1 (w1.alloc (.cells #[] 31)) [] (.slice (some ⟨w1.heap.size, 0, none⟩) 0 0) 0 [] :=
    ⟨by simp [joi], by simp [badF], fun x hx => by simp at hx, (Below.refl _ _).alloc (Nat.le_refl _) _, World.ownsRow_lit (base := w1.heap.size) (e := 31) (size := 8) w1 #[] 0 (Nat.le_refl _) (by unfold maxLen; omega) (by simp), Nat.le_refl _, fun y hy => by simp at hy, fun _ => by simp [actsOf]⟩
  have HST0 := Lib.hid hst0
  clear hst0
  go_wp2_with fail
  go_loopw [3, 4, 5, 24] (fun t v b i wr => ∃ (m : Nat) (T : Bs) (bad : Nat) (acc : List RQ), m ≤ lines.length ∧ t = .string (strB T) ∧ b = .int .i64 bad ∧ i = .int .i64 m ∧ Hid (AllAt lines m w1 wr T v bad acc)) (fun _ _ _ i _ => lines.length - (intOf i).toNat)
  case atStart => exact ⟨0, [], 0, [], Nat.zero_le _, rfl, rfl, rfl, HST0.out⟩
  case round =>
    clear HST0
    obtain ⟨m, T, bad, acc, hm, rfl, rfl, rfl, HA⟩ := hrel
    have hbel := HB1.out.trans (HA.out.2.2.2.1.mono HB1.out.size)
    have HBW := Lib.hid hbel
    by_cases h1 : m < lines.length
    · obtain ⟨x, hx⟩ : ∃ x, lines[m]? = some x := ⟨_, List.getElem?_eq_getElem h1⟩
      obtain ⟨b', o, hal, cx⟩ := rowCell (HRL.out wr hbel) hx
      subst hal
      replace cx : wr.cell? ⟨b', o + m, none⟩ = some (.string (strB x)) := cx
      have hsz := strB_size x
      have HX := Lib.hid hx
      have htl := HA.out.len
      clear hbel hx
      by_cases hx3 : 300 < x.length
      · have t1 : (300 : Int) < ((strB x).size : Int) := by omega
        have HF := HBW
        clear hsz
        go_wp2_with fail
        go_ret
        exact ⟨rfl, HF.out⟩
      · have t1 : ((strB x).size : Int) ≤ 300 := by omega
        have HXL : Hid (x.length ≤ 300) := by show _ ≤ _; omega
        have t2 : (strB x).size = x.length := hsz
        clear hsz
        go_wp2_with fail
        obtain ⟨wo, rfl⟩ : ∃ wo : World, wo = wr := ⟨_, rfl⟩
        go_loopw [8] (fun i wr => ∃ j : Nat, j ≤ x.length ∧ i = .int .i64 j ∧ Hid (∀ b ∈ x.take j, b ≠ 10) ∧ wr = wo) (fun i _ => x.length - (intOf i).toNat)
        case atStart => exact ⟨0, Nat.zero_le _, rfl, fun b hb => by simp at hb, rfl⟩
        case round =>
          obtain ⟨j, hj, rfl, HJ, rfl⟩ := hrel
          by_cases h2 : j < x.length
          · obtain ⟨y, hy⟩ : ∃ y, x[j]? = some y := ⟨_, List.getElem?_eq_getElem h2⟩
            have hix : ∀ h, (strB x)[j]'h = y := fun h => by
              have e := List.getElem?_eq_getElem h2
              rw [hy] at e
              exact (Option.some.inj e).symm
            have hj1 : (j : Int) < ((strB x).size : Int) := by omega
            have hj2 : j < (strB x).size := by omega
            have hxl := HXL.out
            by_cases h10 : y = 10
            · have hbi : (((y.toNat : Nat) : Int) == 10) = true := by rw [h10]; decide
              clear h10 hy
              go_wp2_with fail
              go_ret
              exact ⟨rfl, HBW.out⟩
            · have hbi : (((y.toNat : Nat) : Int) == 10) = false := by
                apply beq_eq_false_iff_ne.2
                intro h
                exact h10 (UInt8.toNat.inj (show y.toNat = 10 by omega))
              have HJ2 : Hid (∀ b ∈ x.take (j + 1), b ≠ 10) := fun b hb => by
                rw [List.take_add_one, hy, Option.toList_some] at hb
                rcases List.mem_append.1 hb with hb | hb
                · exact HJ.out b hb
                · rw [List.mem_singleton.1 hb]; exact h10
              clear h10 hy HJ
              go_wp2_with fail
              go_roundw
              case rel => exact ⟨j + 1, h2, by go_num, HJ2.out, trivial⟩
              case measure => simp only [intOf]; omega
          · obtain rfl : j = x.length := by omega
            have H10 : Hid (10 ∉ x) := fun h => HJ.out 10 (by rw [List.take_length]; exact h) rfl
            clear HJ
            by_cases hm0 : m = 0
            · obtain ⟨X', hX'⟩ : ∃ X, X = x := ⟨_, rfl⟩
              have HXT : Hid (X' = if m = 0 then x else T ++ 10 :: x) := by show _ = _; rw [if_pos hm0, hX']
              have hT0 : T = [] := by have := HA.out.1; rw [hm0] at this; simpa [joi] using this
              have a2 : ∀ W, (Op.stringOp .add (strB T) (strB x)).run Tryz.prog W = .ok (.string (strB X')) W := fun W => by rw [hX']; have := str_add T x (by rw [hT0]; have := HXL.out; simp; omega) W; rw [hT0] at this ⊢; exact this
              have t3 : decide ((0 : Int) < (m : Int)) = false := decide_eq_false (by omega)
              have t3n : decide (0 < m) = false := decide_eq_false (by omega)
              have HM0 := Lib.hid hm0
              clear hm0 hX' hT0
              by_cases hx0 : x = []
              · have hz0 : (strB x).size = 0 := by rw [t2, hx0]; rfl
                have HN := Lib.hid (HA.out.skip HX.out HXL.out H10.out (.inl (by rw [hx0]; rfl)) HXT.out)
                clear hx0 t2
                go_wp2_with fail
                go_roundw
                case rel => exact ⟨m + 1, X', bad, acc, h1, rfl, rfl, by go_num, HN.out⟩
                case measure => simp only [intOf]; omega
              obtain ⟨b, t, hbt⟩ : ∃ b t, x = b :: t := List.exists_cons_of_ne_nil hx0
              have hix : ∀ h, (strB x)[0]'h = b := by subst hbt; exact fun _ => rfl
              have hsz : 0 < (strB x).size := by rw [t2, hbt]; simp
              have hsz2 : (strB x).size ≠ 0 := Nat.ne_of_gt hsz
              have hsk : skipL x = (b == 35) := by rw [hbt]; simp [skipL]
              by_cases hb35 : b = 35
              · have hbi : (((b.toNat : Nat) : Int) == 35) = true := by rw [hb35]; decide
                have HN := Lib.hid (HA.out.skip HX.out HXL.out H10.out (.inl (by rw [hsk, hb35]; rfl)) HXT.out)
                clear hx0 hbt hb35 t2 hsk
                go_wp2_with fail
                go_roundw
                case rel => exact ⟨m + 1, X', bad, acc, h1, rfl, rfl, by go_num, HN.out⟩
                case measure => simp only [intOf]; omega
              have hbi : (((b.toNat : Nat) : Int) == 35) = false := by
                apply beq_eq_false_iff_ne.2
                intro h
                exact hb35 (UInt8.toNat.inj (show b.toNat = 35 by omega))
              replace hsk : skipL x = false := by rw [hsk]; simpa using hb35
              by_cases hbad : bad = 0
              · subst hbad
                have HSK := Lib.hid hsk
                have HPR := Lib.hid (rparse_any x (by have := HXL.out; omega) wr)
                have hrp := ref_parse x
                rw [hrp] at HPR
                clear hx0 hbt hb35 t2 hsk hrp
                go_wp2_with fail
                refine HPR.out.mono ?_
                rintro e w2 ⟨vk, vt, A, hA, rfl, hra, hqa, hb2⟩
                clear HPR hsz hsz2 hix hbi
                obtain ⟨k0, a0, b0, c0, n0, bs0, keep0, torn0⟩ := A
                replace hra : RActI w2 vk vt keep0 torn0 := hra
                obtain ⟨bk, dk, rfl, -, -⟩ := hra.1.shape
                obtain ⟨bt, dt, rfl, -, -⟩ := hra.2.shape rtC_len
                have hba : badL x = !(parseA x).isSome := by unfold badL; rw [HSK.out]; cases parseA x <;> rfl
                have hyp : badL x = false → parseA x = some ⟨k0, a0, b0, c0, n0, bs0, keep0, torn0⟩ := fun h => by
                  rw [hba] at h
                  cases hpa : parseA x with
                  | none => rw [hpa] at h; cases h
                  | some A => rw [hpa] at hA; exact congrArg some hA.symm
                have HYP := Lib.hid hyp
                dsimp only [rCells]
                generalize (parseA x).isSome = ok at hba ⊢
                have HBA := Lib.hid hba
                obtain ⟨W3, hW3⟩ : ∃ W3, W3 = w2.alloc (.cells #[.int .i64 k0, .int .i64 a0, .int .i64 b0, .int .i64 c0, .int .i64 n0, .string (strB bs0), .slice bk keep0.length dk, .slice bt torn0.length dt] 31) := ⟨_, rfl⟩
                obtain ⟨g9, hg9⟩ : ∃ g, g = w2.heap.size := ⟨_, rfl⟩
                have hb3 : Below w2.heap.size w2 W3 := by rw [hW3]; exact (Below.refl _ _).alloc (Nat.le_refl _) _
                have hc3 : CellsAt W3 g9 31 #[.int .i64 k0, .int .i64 a0, .int .i64 b0, .int .i64 c0, .int .i64 n0, .string (strB bs0), .slice bk keep0.length dk, .slice bt torn0.length dt] := by rw [hW3, hg9]; exact CellsAt.new w2 _ _
                have hbw3 : Below wr.heap.size wr W3 := hb2.trans (hb3.mono hb2.size)
                have how3 : OwnS 31 8 rqC w1.heap.size W3 u4 acc := OwnS.stays HA.out.2.2.2.2.1 hbw3
                have hws : w1.heap.size ≤ W3.heap.size := Nat.le_trans HA.out.2.2.2.1.size hbw3.size
                have hal : acc.length ≤ m := HA.out.2.2.2.2.2.1
                have HRS : Hid (RActS (fun q => wr.heap.size ≤ q ∧ q < W3.heap.size) W3 (.slice bk keep0.length dk) (.slice bt torn0.length dt) keep0 torn0) := (hra.stays hb3).toS hqa
                have HBW3 := Lib.hid hbw3
                have HW3 := Lib.hid hW3
                have HG9 := Lib.hid hg9
                have e0 := hc3.cell 0 (v := .int .i64 k0) rfl
                have e1 := hc3.cell 1 (v := .int .i64 a0) rfl
                have e2 := hc3.cell 2 (v := .int .i64 b0) rfl
                have e3 := hc3.cell 3 (v := .int .i64 c0) rfl
                have e4 := hc3.cell 4 (v := .int .i64 n0) rfl
                have e5 := hc3.cell 5 (v := .string (strB bs0)) rfl
                have e6 := hc3.cell 6 (v := .slice bk keep0.length dk) rfl
                have e7 := hc3.cell 7 (v := .slice bt torn0.length dt) rfl
                clear hA hra hqa hb2 hba hyp hW3 hg9 hb3 hc3 hbw3
                go_upto_region 22 with fail
                rw [← HW3.out, ← HG9.out]
                clear HW3 HG9
                cases ok with
                | true =>
                  go_wp2_with (at_builtin; go_must (refine wpList_pushS rqC_len rqC_one Tryz.underlying50 infoRQ rfl (by decide) how3 (((⟨k0, a0, b0, c0, n0, bs0, keep0, torn0⟩ : Ac), ((bk, dk), (bt, dt))) : RQ) (by omega) hws rfl _ _ rfl (by rfl) _ _ _ (by rfl) (by rfl) ?_))
                  intro v4 w4 ho4 hg4 hn4
                  have hnew := HA.out.push (y := (((⟨k0, a0, b0, c0, n0, bs0, keep0, torn0⟩ : Ac), ((bk, dk), (bt, dt))) : RQ)) HBW3.out HRS.out ho4 hg4 hn4 HX.out HXL.out H10.out HSK.out HYP.out HXT.out (bad' := 0) (by rw [HBA.out]; rfl)
                  have HN := Lib.hid hnew
                  clear hnew ho4 hg4 hn4 e0 e1 e2 e3 e4 e5 e6 e7 how3 hws
                  go_wp2_with fail
                  go_roundw
                  case rel => exact ⟨m + 1, X', 0, _, h1, rfl, by go_num, by go_num, HN.out⟩
                  case measure => simp only [intOf]; omega
                | false =>
                  go_wp2_with (at_builtin; go_must (refine wpList_pushS rqC_len rqC_one Tryz.underlying50 infoRQ rfl (by decide) how3 (((⟨k0, a0, b0, c0, n0, bs0, keep0, torn0⟩ : Ac), ((bk, dk), (bt, dt))) : RQ) (by omega) hws rfl _ _ rfl (by rfl) _ _ _ (by rfl) (by rfl) ?_))
                  intro v4 w4 ho4 hg4 hn4
                  have hnew := HA.out.push (y := (((⟨k0, a0, b0, c0, n0, bs0, keep0, torn0⟩ : Ac), ((bk, dk), (bt, dt))) : RQ)) HBW3.out HRS.out ho4 hg4 hn4 HX.out HXL.out H10.out HSK.out HYP.out HXT.out (bad' := (m + 1)) (by rw [HBA.out]; rfl)
                  have HN := Lib.hid hnew
                  clear hnew ho4 hg4 hn4 e0 e1 e2 e3 e4 e5 e6 e7 how3 hws
                  go_wp2_with fail
                  go_roundw
                  case rel => exact ⟨m + 1, X', (m + 1), _, h1, rfl, by go_num, by go_num, HN.out⟩
                  case measure => simp only [intOf]; omega
              · have hb0 : (0 : Int) < (bad : Int) := by omega
                have hb0n : 0 < bad := by omega
                have HN := Lib.hid (HA.out.skip HX.out HXL.out H10.out (.inr hbad) HXT.out)
                clear hx0 hbt hb35 t2 hsk hbad
                go_wp2_with fail
                go_roundw
                case rel => exact ⟨m + 1, X', bad, acc, h1, rfl, rfl, by go_num, HN.out⟩
                case measure => simp only [intOf]; omega
            · obtain ⟨T1, hT1⟩ : ∃ X, X = T ++ [10] := ⟨_, rfl⟩
              obtain ⟨X', hX'⟩ : ∃ X, X = T1 ++ x := ⟨_, rfl⟩
              have HXT : Hid (X' = if m = 0 then x else T ++ 10 :: x) := by show _ = _; rw [if_neg hm0, hX', hT1]; simp
              have htl1 : T1.length = T.length + 1 := by rw [hT1]; simp
              have a1 : ∀ W, (Op.stringOp .add (strB T) ⟨#[10]⟩).run Tryz.prog W = .ok (.string (strB T1)) W := fun W => by rw [hT1]; exact str_add T [10] (by simp; omega) W
              have a2 : ∀ W, (Op.stringOp .add (strB T1) (strB x)).run Tryz.prog W = .ok (.string (strB X')) W := fun W => by rw [hX']; exact str_add T1 x (by have := HXL.out; omega) W
              have t3 : decide ((0 : Int) < (m : Int)) = true := decide_eq_true (by omega)
              have t3n : decide (0 < m) = true := decide_eq_true (by omega)
              have HM0 := Lib.hid hm0
              clear hm0 hX' hT1 htl1
              by_cases hx0 : x = []
              · have hz0 : (strB x).size = 0 := by rw [t2, hx0]; rfl
                have HN := Lib.hid (HA.out.skip HX.out HXL.out H10.out (.inl (by rw [hx0]; rfl)) HXT.out)
                clear hx0 t2
                go_wp2_with fail
                go_roundw
                case rel => exact ⟨m + 1, X', bad, acc, h1, rfl, rfl, by go_num, HN.out⟩
                case measure => simp only [intOf]; omega
              obtain ⟨b, t, hbt⟩ : ∃ b t, x = b :: t := List.exists_cons_of_ne_nil hx0
              have hix : ∀ h, (strB x)[0]'h = b := by subst hbt; exact fun _ => rfl
              have hsz : 0 < (strB x).size := by rw [t2, hbt]; simp
              have hsz2 : (strB x).size ≠ 0 := Nat.ne_of_gt hsz
              have hsk : skipL x = (b == 35) := by rw [hbt]; simp [skipL]
              by_cases hb35 : b = 35
              · have hbi : (((b.toNat : Nat) : Int) == 35) = true := by rw [hb35]; decide
                have HN := Lib.hid (HA.out.skip HX.out HXL.out H10.out (.inl (by rw [hsk, hb35]; rfl)) HXT.out)
                clear hx0 hbt hb35 t2 hsk
                go_wp2_with fail
                go_roundw
                case rel => exact ⟨m + 1, X', bad, acc, h1, rfl, rfl, by go_num, HN.out⟩
                case measure => simp only [intOf]; omega
              have hbi : (((b.toNat : Nat) : Int) == 35) = false := by
                apply beq_eq_false_iff_ne.2
                intro h
                exact hb35 (UInt8.toNat.inj (show b.toNat = 35 by omega))
              replace hsk : skipL x = false := by rw [hsk]; simpa using hb35
              by_cases hbad : bad = 0
              · subst hbad
                have HSK := Lib.hid hsk
                have HPR := Lib.hid (rparse_any x (by have := HXL.out; omega) wr)
                have hrp := ref_parse x
                rw [hrp] at HPR
                clear hx0 hbt hb35 t2 hsk hrp
                go_wp2_with fail
                refine HPR.out.mono ?_
                rintro e w2 ⟨vk, vt, A, hA, rfl, hra, hqa, hb2⟩
                clear HPR hsz hsz2 hix hbi
                obtain ⟨k0, a0, b0, c0, n0, bs0, keep0, torn0⟩ := A
                replace hra : RActI w2 vk vt keep0 torn0 := hra
                obtain ⟨bk, dk, rfl, -, -⟩ := hra.1.shape
                obtain ⟨bt, dt, rfl, -, -⟩ := hra.2.shape rtC_len
                have hba : badL x = !(parseA x).isSome := by unfold badL; rw [HSK.out]; cases parseA x <;> rfl
                have hyp : badL x = false → parseA x = some ⟨k0, a0, b0, c0, n0, bs0, keep0, torn0⟩ := fun h => by
                  rw [hba] at h
                  cases hpa : parseA x with
                  | none => rw [hpa] at h; cases h
                  | some A => rw [hpa] at hA; exact congrArg some hA.symm
                have HYP := Lib.hid hyp
                dsimp only [rCells]
                generalize (parseA x).isSome = ok at hba ⊢
                have HBA := Lib.hid hba
                obtain ⟨W3, hW3⟩ : ∃ W3, W3 = w2.alloc (.cells #[.int .i64 k0, .int .i64 a0, .int .i64 b0, .int .i64 c0, .int .i64 n0, .string (strB bs0), .slice bk keep0.length dk, .slice bt torn0.length dt] 31) := ⟨_, rfl⟩
                obtain ⟨g9, hg9⟩ : ∃ g, g = w2.heap.size := ⟨_, rfl⟩
                have hb3 : Below w2.heap.size w2 W3 := by rw [hW3]; exact (Below.refl _ _).alloc (Nat.le_refl _) _
                have hc3 : CellsAt W3 g9 31 #[.int .i64 k0, .int .i64 a0, .int .i64 b0, .int .i64 c0, .int .i64 n0, .string (strB bs0), .slice bk keep0.length dk, .slice bt torn0.length dt] := by rw [hW3, hg9]; exact CellsAt.new w2 _ _
                have hbw3 : Below wr.heap.size wr W3 := hb2.trans (hb3.mono hb2.size)
                have how3 : OwnS 31 8 rqC w1.heap.size W3 u4 acc := OwnS.stays HA.out.2.2.2.2.1 hbw3
                have hws : w1.heap.size ≤ W3.heap.size := Nat.le_trans HA.out.2.2.2.1.size hbw3.size
                have hal : acc.length ≤ m := HA.out.2.2.2.2.2.1
                have HRS : Hid (RActS (fun q => wr.heap.size ≤ q ∧ q < W3.heap.size) W3 (.slice bk keep0.length dk) (.slice bt torn0.length dt) keep0 torn0) := (hra.stays hb3).toS hqa
                have HBW3 := Lib.hid hbw3
                have HW3 := Lib.hid hW3
                have HG9 := Lib.hid hg9
                have e0 := hc3.cell 0 (v := .int .i64 k0) rfl
                have e1 := hc3.cell 1 (v := .int .i64 a0) rfl
                have e2 := hc3.cell 2 (v := .int .i64 b0) rfl
                have e3 := hc3.cell 3 (v := .int .i64 c0) rfl
                have e4 := hc3.cell 4 (v := .int .i64 n0) rfl
                have e5 := hc3.cell 5 (v := .string (strB bs0)) rfl
                have e6 := hc3.cell 6 (v := .slice bk keep0.length dk) rfl
                have e7 := hc3.cell 7 (v := .slice bt torn0.length dt) rfl
                clear hA hra hqa hb2 hba hyp hW3 hg9 hb3 hc3 hbw3
                go_upto_region 22 with fail
                rw [← HW3.out, ← HG9.out]
                clear HW3 HG9
                cases ok with
                | true =>
                  go_wp2_with (at_builtin; go_must (refine wpList_pushS rqC_len rqC_one Tryz.underlying50 infoRQ rfl (by decide) how3 (((⟨k0, a0, b0, c0, n0, bs0, keep0, torn0⟩ : Ac), ((bk, dk), (bt, dt))) : RQ) (by omega) hws rfl _ _ rfl (by rfl) _ _ _ (by rfl) (by rfl) ?_))
                  intro v4 w4 ho4 hg4 hn4
                  have hnew := HA.out.push (y := (((⟨k0, a0, b0, c0, n0, bs0, keep0, torn0⟩ : Ac), ((bk, dk), (bt, dt))) : RQ)) HBW3.out HRS.out ho4 hg4 hn4 HX.out HXL.out H10.out HSK.out HYP.out HXT.out (bad' := 0) (by rw [HBA.out]; rfl)
                  have HN := Lib.hid hnew
                  clear hnew ho4 hg4 hn4 e0 e1 e2 e3 e4 e5 e6 e7 how3 hws
                  go_wp2_with fail
                  go_roundw
                  case rel => exact ⟨m + 1, X', 0, _, h1, rfl, by go_num, by go_num, HN.out⟩
                  case measure => simp only [intOf]; omega
                | false =>
                  go_wp2_with (at_builtin; go_must (refine wpList_pushS rqC_len rqC_one Tryz.underlying50 infoRQ rfl (by decide) how3 (((⟨k0, a0, b0, c0, n0, bs0, keep0, torn0⟩ : Ac), ((bk, dk), (bt, dt))) : RQ) (by omega) hws rfl _ _ rfl (by rfl) _ _ _ (by rfl) (by rfl) ?_))
                  intro v4 w4 ho4 hg4 hn4
                  have hnew := HA.out.push (y := (((⟨k0, a0, b0, c0, n0, bs0, keep0, torn0⟩ : Ac), ((bk, dk), (bt, dt))) : RQ)) HBW3.out HRS.out ho4 hg4 hn4 HX.out HXL.out H10.out HSK.out HYP.out HXT.out (bad' := (m + 1)) (by rw [HBA.out]; rfl)
                  have HN := Lib.hid hnew
                  clear hnew ho4 hg4 hn4 e0 e1 e2 e3 e4 e5 e6 e7 how3 hws
                  go_wp2_with fail
                  go_roundw
                  case rel => exact ⟨m + 1, X', (m + 1), _, h1, rfl, by go_num, by go_num, HN.out⟩
                  case measure => simp only [intOf]; omega
              · have hb0 : (0 : Int) < (bad : Int) := by omega
                have hb0n : 0 < bad := by omega
                have HN := Lib.hid (HA.out.skip HX.out HXL.out H10.out (.inr hbad) HXT.out)
                clear hx0 hbt hb35 t2 hsk hbad
                go_wp2_with fail
                go_roundw
                case rel => exact ⟨m + 1, X', bad, acc, h1, rfl, rfl, by go_num, HN.out⟩
                case measure => simp only [intOf]; omega
    · obtain rfl : m = lines.length := by omega
      have hA := HA.out
      unfold AllAt at hA
      rw [List.take_length] at hA
      obtain ⟨q1, q2, q3, q4, q5, q6, q7, q8⟩ := hA
      have htl := HA.out.len
      obtain ⟨r1, r2⟩ := lines_all (fun x hx => (q3 x hx).2)
      rw [← q1] at r1 r2
      rw [← q2] at r1
      obtain ⟨a4, c4, rfl, -, -⟩ := (OwnS.row q5).shape rqC_len
      have HPA := Lib.hid (sall_any (HVV.out wr hbel).1 T (by omega))
      have R1 := Lib.hid r1
      have R2 := Lib.hid r2
      have Q8 := Lib.hid q8
      have HWT : Hid (∀ W, Below wr.heap.size wr W → RowS rqC W (.slice a4 acc.length c4) acc ∧ ∀ y ∈ acc, RActI W (rqK y) (rqT y) y.1.keep y.1.torn) := fun W h => ⟨RowS.stays (OwnS.row q5) h, fun y hy => by obtain ⟨S, k1, -⟩ := q7 y hy; exact (k1.stays h).toI⟩
      clear q1 q2 q3 q4 q5 q7 q8 r1 r2 htl HA hbel
      go_upto_region 26 with fail
      go_wp2_with fail
      refine HPA.out.mono ?_
      rintro e w5 ⟨⟨h2, h3⟩, hb5⟩
      have HB5 := Lib.hid (HBW.out.trans (hb5.mono HBW.out.size))
      have HWB := Lib.hid hb5
      clear HPA hb5
      by_cases hbad : bad = 0
      · obtain ⟨av, cv, acc2, rfl, hown2, hact2, hmap2⟩ := h2 (R1.out.trans hbad)
        have hmm : acc2.map Prod.fst = acc.map Prod.fst := by rw [hmap2, R2.out, Q8.out hbad]
        have hlen : acc2.length = acc.length := by have := congrArg List.length hmm; simpa using this
        have HWL : Hid (∀ W, Below w5.heap.size w5 W → RowS aqC W (.slice av acc2.length cv) acc2 ∧ ∀ y ∈ acc2, ActI W (aqB y) (aqK y) (aqT y) y.1.bs y.1.keep y.1.torn) := fun W h => ⟨RowS.stays (OwnS.row hown2) h, fun y hy => (hact2 y hy).stays h⟩
        have HRT : Hid (∀ y ∈ acc, rightA y.1 = true) := fun y hy => acts_right lines y.1 (by rw [← Q8.out hbad]; exact List.mem_map.2 ⟨y, hy, rfl⟩)
        have HMM := Lib.hid hmm
        have HLEN := Lib.hid hlen
        subst hbad
        rw [hlen]
        clear h2 h3 hown2 hact2 hmap2 hmm hlen
        have HWT2 : Hid (∀ W, Below w5.heap.size w5 W → RowS rqC W (.slice a4 acc.length c4) acc ∧ ∀ y ∈ acc, RActI W (rqK y) (rqT y) y.1.keep y.1.torn) := fun W h => HWT.out W (HWB.out.trans (h.mono HWB.out.size))
        have hal : acc.length ≤ 30 := by omega
        have qn : ((acc.length : Int) != (acc.length : Int)) = false := by simp
        clear HWT HWB
        go_wp2_with fail
        go_loopw [111] (fun i wr => ∃ j : Nat, j ≤ acc.length ∧ i = .int .i64 j ∧ Hid (Below w5.heap.size w5 wr)) (fun i _ => acc.length - (intOf i).toNat)
        case atStart => exact ⟨0, Nat.zero_le _, rfl, Below.refl _ _⟩
        case round =>
          obtain ⟨j, hj, rfl, HB⟩ := hrel
          by_cases h1 : j < acc.length
          · obtain ⟨⟨A2, ⟨ab, cb⟩, ⟨ak, ck⟩, ⟨at', ct⟩⟩, hx2⟩ : ∃ x, acc2[j]? = some x := ⟨_, List.getElem?_eq_getElem (by have := HLEN.out; omega)⟩
            obtain ⟨⟨A1, ⟨bk, dk⟩, ⟨bt, dt⟩⟩, hx1⟩ : ∃ x, acc[j]? = some x := ⟨_, List.getElem?_eq_getElem h1⟩
            obtain rfl : A2 = A1 := by
              have e := congrArg (fun l => l[j]?) HMM.out
              simp only [List.getElem?_map, hx2, hx1, Option.map_some] at e
              exact Option.some.inj e
            obtain ⟨k0, a0, b0, c0, n0, bs0, keep0, torn0⟩ := A2
            have hact : ∀ W, Below w5.heap.size w5 W → ActI W (.slice ab bs0.length cb) (.slice ak keep0.length ck) (.slice at' torn0.length ct) bs0 keep0 torn0 := fun W h => (HWL.out W h).2 _ (List.mem_of_getElem? hx2)
            have hrac : ∀ W, Below w5.heap.size w5 W → RActI W (.slice bk keep0.length dk) (.slice bt torn0.length dt) keep0 torn0 := fun W h => (HWT2.out W h).2 _ (List.mem_of_getElem? hx1)
            obtain ⟨al2, cl2, hv2, -, hcl2⟩ := (HWL.out wr HB.out).1.shape aqC_len
            cases hv2
            obtain ⟨bl, ol, rfl, hc2⟩ := hcl2 j _ hx2
            have dd0 := hc2 0 _ rfl
            have dd1 := hc2 1 _ rfl
            have dd2 := hc2 2 _ rfl
            have dd3 := hc2 3 _ rfl
            have dd4 := hc2 4 _ rfl
            have dd5 := hc2 5 _ rfl
            have dd6 := hc2 6 _ rfl
            have dd7 := hc2 7 _ rfl
            replace dd0 : wr.cell? ⟨bl, ol + j * 8, none⟩ = some (.int .i64 k0) := dd0
            replace dd1 : wr.cell? ⟨bl, ol + j * 8 + 1, none⟩ = some (.int .i64 a0) := dd1
            replace dd2 : wr.cell? ⟨bl, ol + j * 8 + 2, none⟩ = some (.int .i64 b0) := dd2
            replace dd3 : wr.cell? ⟨bl, ol + j * 8 + 3, none⟩ = some (.int .i64 c0) := dd3
            replace dd4 : wr.cell? ⟨bl, ol + j * 8 + 4, none⟩ = some (.int .i64 n0) := dd4
            replace dd5 : wr.cell? ⟨bl, ol + j * 8 + 5, none⟩ = some (.slice ab bs0.length cb) := dd5
            replace dd6 : wr.cell? ⟨bl, ol + j * 8 + 6, none⟩ = some (.slice ak keep0.length ck) := dd6
            replace dd7 : wr.cell? ⟨bl, ol + j * 8 + 7, none⟩ = some (.slice at' torn0.length ct) := dd7
            obtain ⟨al1, cl1, hv1, -, -⟩ := (HWT2.out w5 (Below.refl _ _)).1.shape rqC_len
            cases hv1
            obtain ⟨al3, cl3, hv3, -, hcl3⟩ := (HWT2.out wr HB.out).1.shape rqC_len
            cases hv3
            obtain ⟨bw, ow, rfl, hc3⟩ := hcl3 j _ hx1
            have HCW : Hid (∀ W, Below wr.heap.size wr W → W.cell? ⟨bw, ow + j * 8, none⟩ = some (.int .i64 k0) ∧ W.cell? ⟨bw, ow + j * 8 + 1, none⟩ = some (.int .i64 a0) ∧ W.cell? ⟨bw, ow + j * 8 + 2, none⟩ = some (.int .i64 b0) ∧ W.cell? ⟨bw, ow + j * 8 + 3, none⟩ = some (.int .i64 c0) ∧ W.cell? ⟨bw, ow + j * 8 + 4, none⟩ = some (.int .i64 n0) ∧ W.cell? ⟨bw, ow + j * 8 + 5, none⟩ = some (.string (strB bs0)) ∧ W.cell? ⟨bw, ow + j * 8 + 6, none⟩ = some (.slice bk keep0.length dk) ∧ W.cell? ⟨bw, ow + j * 8 + 7, none⟩ = some (.slice bt torn0.length dt)) := fun W h => by
              obtain ⟨al4, cl4, hv4, -, hcl4⟩ := (HWT2.out W (HB.out.trans (h.mono HB.out.size))).1.shape rqC_len
              cases hv4
              obtain ⟨b4, o4, e4, hc4⟩ := hcl4 j _ hx1
              cases e4
              exact ⟨hc4 0 _ rfl, hc4 1 _ rfl, hc4 2 _ rfl, hc4 3 _ rfl, hc4 4 _ rfl, hc4 5 _ rfl, hc4 6 _ rfl, hc4 7 _ rfl⟩
            have hrb := right_parts (HRT.out _ (List.mem_of_getElem? hx1))
            have HRB : Hid (keep0.length ≤ 200 ∧ torn0.length ≤ 200) := ⟨hrb.2.2.2.1, hrb.2.2.2.2.1⟩
            clear hrb
            have HACT := Lib.hid hact
            have HRAC := Lib.hid hrac
            clear hx2 hx1 hcl2 hcl3 hc2 hc3 hact hrac
            obtain ⟨W6, hW6⟩ : ∃ W6, W6 = wr.alloc (.cells #[.int .i64 k0, .int .i64 a0, .int .i64 b0, .int .i64 c0, .int .i64 n0, .slice ab bs0.length cb, .slice ak keep0.length ck, .slice at' torn0.length ct] 26) := ⟨_, rfl⟩
            obtain ⟨g6, hg6⟩ : ∃ g, g = wr.heap.size := ⟨_, rfl⟩
            have hb6 : Below wr.heap.size wr W6 := by rw [hW6]; exact (Below.refl _ _).alloc (Nat.le_refl _) _
            have hc6 : CellsAt W6 g6 26 #[.int .i64 k0, .int .i64 a0, .int .i64 b0, .int .i64 c0, .int .i64 n0, .slice ab bs0.length cb, .slice ak keep0.length ck, .slice at' torn0.length ct] := by rw [hW6, hg6]; exact CellsAt.new wr _ _
            have HB6 := Lib.hid (HB.out.trans (hb6.mono HB.out.size))
            have HS : Hid (∀ W, Below W6.heap.size W6 W → Below W6.heap.size W6 W ∧ W.cell? ⟨g6, 0, none⟩ = some (.int .i64 k0) ∧ W.cell? ⟨g6, 1, none⟩ = some (.int .i64 a0) ∧ W.cell? ⟨g6, 2, none⟩ = some (.int .i64 b0) ∧ W.cell? ⟨g6, 3, none⟩ = some (.int .i64 c0) ∧ W.cell? ⟨g6, 4, none⟩ = some (.int .i64 n0) ∧ W.cell? ⟨g6, 5, none⟩ = some (.slice ab bs0.length cb) ∧ W.cell? ⟨g6, 6, none⟩ = some (.slice ak keep0.length ck) ∧ W.cell? ⟨g6, 7, none⟩ = some (.slice at' torn0.length ct) ∧ W.cell? ⟨bw, ow + j * 8, none⟩ = some (.int .i64 k0) ∧ W.cell? ⟨bw, ow + j * 8 + 1, none⟩ = some (.int .i64 a0) ∧ W.cell? ⟨bw, ow + j * 8 + 2, none⟩ = some (.int .i64 b0) ∧ W.cell? ⟨bw, ow + j * 8 + 3, none⟩ = some (.int .i64 c0) ∧ W.cell? ⟨bw, ow + j * 8 + 4, none⟩ = some (.int .i64 n0) ∧ W.cell? ⟨bw, ow + j * 8 + 5, none⟩ = some (.string (strB bs0)) ∧ W.cell? ⟨bw, ow + j * 8 + 6, none⟩ = some (.slice bk keep0.length dk) ∧ W.cell? ⟨bw, ow + j * 8 + 7, none⟩ = some (.slice bt torn0.length dt)) := fun W h => by
              have h1 := hc6.stays h
              exact ⟨h, h1.cell 0 rfl, h1.cell 1 rfl, h1.cell 2 rfl, h1.cell 3 rfl, h1.cell 4 rfl, h1.cell 5 rfl, h1.cell 6 rfl, h1.cell 7 rfl, HCW.out W (hb6.trans (h.mono hb6.size))⟩
            have HOF : Hid (∀ W, Below W6.heap.size W6 W → Calls Tryz.prog 8 #[.agg #[.int .i64 k0, .int .i64 a0, .int .i64 b0, .int .i64 c0, .int .i64 n0, .slice ab bs0.length cb, .slice ak keep0.length ck, .slice at' torn0.length ct]] W fun e w' => ∃ (a7 : Option Addr) (N7 c7 : Nat), e = .returned (.agg #[.int .i64 k0, .int .i64 a0, .int .i64 b0, .int .i64 c0, .int .i64 n0, .string (strB bs0), .slice ak keep0.length ck, .slice a7 N7 c7]) ∧ RActI w' (.slice ak keep0.length ck) (.slice a7 N7 c7) keep0 torn0 ∧ Below W.heap.size W w') := fun W h => (of_any (HACT.out W (HB6.out.trans (h.mono HB6.out.size))) (by have := HRB.out; omega)).mono fun e w' ⟨vt5, h1, h2, h3, h4⟩ => by
              obtain ⟨a5, c5, rfl, -, -⟩ := h2.2.shape rtC_len
              exact ⟨a5, _, c5, h1, h2, h4⟩
            have HSM : Hid (∀ W, Below W6.heap.size W6 W → ∀ (a7 : Option Addr) (N7 c7 : Nat), RActI W (.slice ak keep0.length ck) (.slice a7 N7 c7) keep0 torn0 → Calls Tryz.prog 15 #[.agg #[.int .i64 k0, .int .i64 a0, .int .i64 b0, .int .i64 c0, .int .i64 n0, .string (strB bs0), .slice ak keep0.length ck, .slice a7 N7 c7], .agg #[.int .i64 k0, .int .i64 a0, .int .i64 b0, .int .i64 c0, .int .i64 n0, .string (strB bs0), .slice bk keep0.length dk, .slice bt torn0.length dt]] W fun e w' => e = .returned (.bool true) ∧ Below W.heap.size W w') := fun W h a7 N7 c7 hr => by
              have h1 := rsame_any k0 a0 b0 c0 n0 k0 a0 b0 c0 n0 bs0 bs0 hr (HRAC.out W (HB6.out.trans (h.mono HB6.out.size))) (by have := HRB.out; omega) (by have := HRB.out; omega) (by have := HRB.out; omega) (by have := HRB.out; omega)
              rw [(sameA_iff _ _).2 rfl] at h1
              exact h1
            have HW6 := Lib.hid hW6
            have HG6 := Lib.hid hg6
            have hja : (j : Int) < (acc.length : Int) := by omega
            clear hW6 hg6 hb6 hc6
            go_upto_region 34 with fail
            rw [← HW6.out, ← HG6.out]
            clear HW6 HG6 dd0 dd1 dd2 dd3 dd4 dd5 dd6 dd7
            have hd0 : Below W6.heap.size W6 W6 := Below.refl _ _
            have hd1 : Below W6.heap.size W6 W6.drew := hd0.drew
            go_region_held3 (fun W => Below W6.heap.size W6 W ∧ W.cell? ⟨g6, 0, none⟩ = some (.int .i64 k0) ∧ W.cell? ⟨g6, 1, none⟩ = some (.int .i64 a0) ∧ W.cell? ⟨g6, 2, none⟩ = some (.int .i64 b0) ∧ W.cell? ⟨g6, 3, none⟩ = some (.int .i64 c0) ∧ W.cell? ⟨g6, 4, none⟩ = some (.int .i64 n0) ∧ W.cell? ⟨g6, 5, none⟩ = some (.slice ab bs0.length cb) ∧ W.cell? ⟨g6, 6, none⟩ = some (.slice ak keep0.length ck) ∧ W.cell? ⟨g6, 7, none⟩ = some (.slice at' torn0.length ct) ∧ W.cell? ⟨bw, ow + j * 8, none⟩ = some (.int .i64 k0) ∧ W.cell? ⟨bw, ow + j * 8 + 1, none⟩ = some (.int .i64 a0) ∧ W.cell? ⟨bw, ow + j * 8 + 2, none⟩ = some (.int .i64 b0) ∧ W.cell? ⟨bw, ow + j * 8 + 3, none⟩ = some (.int .i64 c0) ∧ W.cell? ⟨bw, ow + j * 8 + 4, none⟩ = some (.int .i64 n0) ∧ W.cell? ⟨bw, ow + j * 8 + 5, none⟩ = some (.string (strB bs0)) ∧ W.cell? ⟨bw, ow + j * 8 + 6, none⟩ = some (.slice bk keep0.length dk) ∧ W.cell? ⟨bw, ow + j * 8 + 7, none⟩ = some (.slice bt torn0.length dt))
              (exact HS.out _ (by assumption))
              ((first
                  | (go_at_call 8; (with_reducible refine (HOF.out _ hd1).mono ?_); rintro e w7 ⟨a7, N7, c7, rfl, hr7, hb7⟩; have hd7 := hd1.trans (hb7.mono hd1.size))
                  | (go_at_call 15; (with_reducible refine (HSM.out _ hd7 a7 N7 c7 hr7).mono ?_); rintro e w8 ⟨rfl, hb8⟩; have hd8 := hd7.trans (hb8.mono hd7.size))))
            rename_i hHH
            clear hHH
            have HN := Lib.hid (HB6.out.trans (hd8.mono HB6.out.size))
            clear hd0 hd1 hd7 hd8 hb7 hb8 hr7 HOF HSM HS
            go_wp2_with fail
            go_roundw
            case rel => exact ⟨j + 1, h1, by go_num, HN.out⟩
            case measure => simp only [intOf]; omega
          · obtain rfl : j = acc.length := by omega
            have HFZ := Lib.hid (HB5.out.trans (HB.out.mono HB5.out.size))
            go_wp2_with fail
            go_ret
            exact ⟨rfl, HFZ.out⟩
      · have h4 := h3 (fun e => hbad (R1.out.symm.trans e))
        rw [R1.out] at h4
        subst h4
        have hb0 : (0 : Int) < (bad : Int) := by omega
        have hb0n : 0 < bad := by omega
        have HNU : Hid (Calls Tryz.prog 19 #[.iface 157 (.pointer (some (ea 9)))] w5 fun e w' => e = .returned (.int .i64 9) ∧ Below w5.heap.size w5 w') := by
          have h1 := num_any ea 9 (by decide) w5 (HVV.out w5 HB5.out).2.2
          rw [EV_pos ea (by decide)] at h1
          exact h1
        clear h2 h3 hbad
        go_wp2_with fail
        refine HNU.out.mono ?_
        rintro e w6 ⟨rfl, hb6⟩
        have HFZ := Lib.hid (HB5.out.trans (hb6.mono HB5.out.size))
        clear hb6 HNU
        go_wp2_with fail
        go_ret
        exact ⟨rfl, HFZ.out⟩
end Go.Proofs.YtbcpciegdmminaaGreatDoor
