/- Scripts: all acts of a text (script.All). -/
import Derived.Test.YtbcpciegdmminaaGreatDoorScX
import Derived.Test.YtbcpciegdmminaaGreatDoorScS
namespace Go.Proofs.YtbcpciegdmminaaGreatDoor
open Go Go.RowKit
set_option linter.unusedVariables false
/-! ### plain -/
def skipL (l : Bs) : Bool := l.isEmpty || l.head? == some 35
def badL (l : Bs) : Bool := !skipL l && (parseA l).isNone
def actsOf : List Bs → List Ac
  | [] => []
  | l :: r => (if skipL l then [] else (parseA l).toList) ++ actsOf r
def badF : List Bs → Nat
  | [] => 0
  | l :: r => if badL l then 1 else if badF r = 0 then 0 else badF r + 1
theorem actsOf_app : ∀ xs ys : List Bs, actsOf (xs ++ ys) = actsOf xs ++ actsOf ys
  | [], ys => rfl
  | l :: r, ys => by rw [List.cons_append, actsOf, actsOf_app r ys, actsOf, List.append_assoc]
theorem badF_app : ∀ xs ys : List Bs, badF (xs ++ ys) = if badF xs ≠ 0 then badF xs else if badF ys = 0 then 0 else xs.length + badF ys
  | [], ys => by simp [badF]
  | l :: r, ys => by
    have ih := badF_app r ys
    rw [List.cons_append, badF, badF, ih]
    by_cases h1 : badL l
    · rw [if_pos h1, if_pos h1]; rfl
    · rw [if_neg h1, if_neg h1]
      by_cases h2 : badF r = 0
      · by_cases h3 : badF ys = 0
        · simp [h2, h3]
        · simp [h2, h3]; omega
      · simp [h2]
theorem badF_take {L : List Bs} {k : Nat} {x : Bs} (h0 : badF (L.take k) = 0) (hx : L[k]? = some x) (hb : badL x = true) : badF L = k + 1 := by
  have hk : k < L.length := by
    rcases Nat.lt_or_ge k L.length with h | h
    · exact h
    · rw [List.getElem?_eq_none h] at hx; cases hx
  have h1 : L = L.take k ++ (x :: L.drop (k + 1)) := by
    have h2 : L.drop k = x :: L.drop (k + 1) := by
      rw [List.drop_eq_getElem_cons hk]
      rw [List.getElem?_eq_getElem hk] at hx
      rw [Option.some.inj hx]
    rw [← h2, List.take_append_drop]
  rw [h1, badF_app, if_neg (fun h => h h0)]
  have h3 : badF (x :: L.drop (k + 1)) = 1 := by rw [badF, if_pos hb]
  rw [h3, if_neg (by decide), List.length_take, Nat.min_eq_left (Nat.le_of_lt hk)]
theorem badF_step {L : List Bs} {k : Nat} {x : Bs} (h0 : badF (L.take k) = 0) (hx : L[k]? = some x) (hb : badL x = false) : badF (L.take (k + 1)) = 0 := by
  rw [List.take_add_one, hx, Option.toList_some, badF_app, if_neg (fun h => h h0)]
  have h3 : badF [x] = 0 := by rw [badF, hb, badF]; rfl
  rw [h3, if_pos rfl]
theorem acts_step {L : List Bs} {k : Nat} {x : Bs} (hx : L[k]? = some x) : actsOf (L.take (k + 1)) = actsOf (L.take k) ++ (if skipL x then [] else (parseA x).toList) := by
  rw [List.take_add_one, hx, Option.toList_some, actsOf_app, actsOf, actsOf, List.append_nil]
theorem actsOf_len : ∀ L : List Bs, (actsOf L).length ≤ L.length
  | [] => Nat.le_refl _
  | l :: r => by
    have := actsOf_len r
    rw [actsOf, List.length_append, List.length_cons]
    split
    · simp; omega
    · cases parseA l <;> simp <;> omega
/-! ### acts in memory, many -/
abbrev AQ := Ac × ((Option Addr × Nat) × (Option Addr × Nat) × (Option Addr × Nat))
def aqB (y : AQ) : Value := .slice y.2.1.1 y.1.bs.length y.2.1.2
def aqK (y : AQ) : Value := .slice y.2.2.1.1 y.1.keep.length y.2.2.1.2
def aqT (y : AQ) : Value := .slice y.2.2.2.1 y.1.torn.length y.2.2.2.2
def aqC (y : AQ) : List Value := [.int .i64 y.1.k, .int .i64 y.1.a, .int .i64 y.1.b, .int .i64 y.1.c, .int .i64 y.1.n, aqB y, aqK y, aqT y]
theorem aqC_len (y : AQ) : (aqC y).length = 8 := rfl
theorem aqC_one (y : AQ) : (aqC y).all Value.oneCell' = true := rfl
theorem infoAQ : (Tryz.prog.info? 26).map (fun i => (i.zero, i.size, i.bytes)) = some (some (.agg #[.int .i64 0, .int .i64 0, .int .i64 0, .int .i64 0, .int .i64 0, .slice none 0 0, .slice none 0 0, .slice none 0 0]), 8, 112) := by kernel_rfl
theorem row_keep {w w' : World} {v : Value} {n : Nat} {ys : List Value} {row : Option Nat} (hn : ys = [] → n = 0) (h : Row w v n ys) (hg : w.grownBy w' row) (hne : ys ≠ [] → ∀ k, v.ownBlock = some k → row ≠ some k) : Row w' v n ys := by
  by_cases hx : ys = []
  · have h0 := hn hx
    subst hx
    subst h0
    rcases h with h | ⟨b, o, c, rfl, _⟩
    · exact .inl h
    · exact .inl ⟨rfl, rfl, _, c, rfl⟩
  · exact Row.grown h hg (hne hx)
theorem row_lt {w : World} {v : Value} {n : Nat} {ys : List Value} (h : Row w v n ys) (hx : ys ≠ []) : ∀ q, v.ownBlock = some q → q < w.heap.size := fun q hq => by
  rcases h with ⟨_, h2, _⟩ | ⟨b, o, c, rfl, hl, _⟩
  · exact absurd h2 hx
  · have : b = q := by simpa [Value.ownBlock] using hq
    omega
/-- a row that lies in blocks of S, if it is not empty -/
def RowIn (S : Nat → Prop) (w : World) (v : Value) (n : Nat) (ys : List Value) : Prop := Row w v n ys ∧ (ys = [] → n = 0) ∧ (ys ≠ [] → ∀ q, v.ownBlock = some q → S q)
theorem RowIn.grown {S : Nat → Prop} {w w' : World} {v : Value} {n : Nat} {ys : List Value} {row : Option Nat} (h : RowIn S w v n ys) (hg : w.grownBy w' row) (hS : ∀ q, S q → row ≠ some q) : RowIn S w' v n ys := ⟨row_keep h.2.1 h.1 hg (fun hx k hk => hS k (h.2.2 hx k hk)), h.2⟩
theorem RowIn.stays {S : Nat → Prop} {w w' : World} {v : Value} {n : Nat} {ys : List Value} (h : RowIn S w v n ys) (hb : Below w.heap.size w w') : RowIn S w' v n ys := ⟨Row.stays h.1 hb, h.2⟩
theorem RowIn.of {B : Nat} {w : World} {v : Value} {n : Nat} {ys : List Value} (h : Row w v n ys) (hn : ys = [] → n = 0) (hB : ∀ q, v.ownBlock = some q → B ≤ q) : RowIn (fun q => B ≤ q ∧ q < w.heap.size) w v n ys := ⟨h, hn, fun hx q hq => ⟨hB q hq, row_lt h hx q hq⟩⟩
theorem map_nil {α : Type} {f : α → Value} {xs : List α} (h : xs.map f = []) : xs.length = 0 := by simpa using h
theorem flat_nil {α : Type} {f : α → List Value} {xs : List α} (hf : ∀ x, f x ≠ []) (h : xs.flatMap f = []) : xs.length = 0 := by
  cases xs with
  | nil => rfl
  | cons x xs => rw [List.flatMap_cons] at h; exact absurd (List.append_eq_nil_iff.1 h).1 (hf x)
/-- an act's rows, all in blocks of S -/
def ActS (S : Nat → Prop) (w : World) (vb vk vt : Value) (bs : Bs) (keep : List Int) (torn : List (Int × Bs)) : Prop :=
  RowIn S w vb bs.length (bs.map BV) ∧ RowIn S w vk keep.length (keep.map IV) ∧ ∃ acc : List TQ, RowIn S w vt acc.length (acc.flatMap tqC) ∧ (∀ y ∈ acc, RowIn S w (tqV y) y.1.2.length (y.1.2.map BV)) ∧ acc.map Prod.fst = torn
section
variable {S : Nat → Prop} {w w' : World} {vb vk vt : Value} {bs : Bs} {keep : List Int} {torn : List (Int × Bs)}
theorem ActS.toI (h : ActS S w vb vk vt bs keep torn) : ActI w vb vk vt bs keep torn := by
  obtain ⟨h1, h2, acc, h3, h4, h5⟩ := h
  exact ⟨h1.1, h2.1, acc, h3.1, fun y hy => (h4 y hy).1, h5⟩
theorem ActS.grown {row : Option Nat} (h : ActS S w vb vk vt bs keep torn) (hg : w.grownBy w' row) (hS : ∀ q, S q → row ≠ some q) : ActS S w' vb vk vt bs keep torn := by
  obtain ⟨h1, h2, acc, h3, h4, h5⟩ := h
  exact ⟨h1.grown hg hS, h2.grown hg hS, acc, h3.grown hg hS, fun y hy => (h4 y hy).grown hg hS, h5⟩
theorem ActS.stays (h : ActS S w vb vk vt bs keep torn) (hb : Below w.heap.size w w') : ActS S w' vb vk vt bs keep torn := by
  obtain ⟨h1, h2, acc, h3, h4, h5⟩ := h
  exact ⟨h1.stays hb, h2.stays hb, acc, h3.stays hb, fun y hy => (h4 y hy).stays hb, h5⟩
/-- the rows of an act that was made since lie in blocks made since -/
theorem ActR.toS {B : Nat} (h : ActR B w vb vk vt bs keep torn) : ActS (fun q => B ≤ q ∧ q < w.heap.size) w vb vk vt bs keep torn := by
  obtain ⟨h1, h2, acc, h3, h4, h5⟩ := h
  exact ⟨.of h1.row map_nil (fun q hq => (World.ownsRow.lt h1 q hq).1), .of (OwnL.row h2) map_nil (fun q hq => (World.ownsRow.lt h2 q hq).1), acc, .of (OwnS.row h3) (flat_nil (fun x => by simp [tqC])) (fun q hq => (World.ownsRow.lt h3 q hq).1), fun y hy => .of (h4 y hy).1 map_nil (h4 y hy).2, h5⟩
end
/-- the acts' rows lie apart from the row of the acts -/
def ELA (v : Value) (w : World) (acc : List AQ) : Prop := ∀ y ∈ acc, ∃ S : Nat → Prop, ActS S w (aqB y) (aqK y) (aqT y) y.1.bs y.1.keep y.1.torn ∧ ∀ q, S q → q < w.heap.size ∧ v.ownBlock ≠ some q
def AllP (B : Nat) (aF : Addr) (L : List Bs) (e : Ending) (w' : World) : Prop :=
  (badF L = 0 → ∃ (av : Option Addr) (cv : Nat) (acc : List AQ), e = .returned (.tuple #[.slice av acc.length cv, .int .i64 0, .nilIface]) ∧ OwnS 26 8 aqC B w' (.slice av acc.length cv) acc ∧ (∀ y ∈ acc, ActI w' (aqB y) (aqK y) (aqT y) y.1.bs y.1.keep y.1.torn) ∧ acc.map Prod.fst = actsOf L) ∧
  (badF L ≠ 0 → e = .returned (.tuple #[.slice none 0 0, .int .i64 (badF L : Nat), .iface 157 (.pointer (some aF))]))
set_option maxRecDepth 100000 in
set_option maxHeartbeats 4000000 in
theorem sall_any {aS aR aF : Addr} {w : World} (hV : VarsP aS aR aF w) (T : Bs) (hl : T.length ≤ 100000) :
    Calls Tryz.prog 20 #[.string (strB T)] w fun e w' => AllP w.heap.size aF (spl 10 T) e w' ∧ Below w.heap.size w w' := by
  have hsz : (strB T).size = T.length := strB_size T
  have HSP := Lib.hid (split_any hV.vs 10 T (by omega))
  have HLE : Hid (∀ x ∈ spl 10 T, x.length ≤ 100000) := fun x hx => Nat.le_trans (spl_le 10 T x hx) hl
  have hln := spl_len 10 T
  obtain ⟨L, hL⟩ : ∃ L, L = spl 10 T := ⟨_, rfl⟩
  rw [← hL] at HSP HLE hln ⊢
  have HLN : Hid (L.length ≤ 100001) := by show _ ≤ _; omega
  have HV := Lib.hid hV
  have t0 : ((strB T).size : Int) ≤ 100000 := by omega
  clear hL hV hsz hl hln
  go_enter Tryz.func20, Tryz.ntmps20
  go_wp2_with fail
  refine HSP.out.mono ?_
  rintro e w1 ⟨g1, rfl, ho1, hb1⟩
  have HB1 := Lib.hid hb1
  have HCW : Hid (∀ W, Below w1.heap.size w1 W → ∀ j x, L[j]? = some x → W.cell? ⟨g1, j, none⟩ = some (.string (strB x))) := fun W h j x hx => ownCell' (OwnL.stays ho1 h) hx
  clear ho1 hb1 HSP t0
  go_wp2_with fail
  go_loopw [5, 17] (fun v i wr => ∃ (k : Nat) (acc : List AQ), i = .int .i64 k ∧ k ≤ L.length ∧ OwnS 26 8 aqC w1.heap.size wr v acc ∧ Hid (ELA v wr acc) ∧ Hid (acc.map Prod.fst = actsOf (L.take k)) ∧ Hid (badF (L.take k) = 0) ∧ Hid (Below w1.heap.size w1 wr)) (fun _ i _ => L.length - (intOf i).toNat)
  case atStart => exact ⟨0, [], rfl, Nat.zero_le _, OwnS.nil _ _, fun y hy => (by cases hy), rfl, rfl, Below.refl _ _⟩
  case round =>
    obtain ⟨k, acc, rfl, hk, how, HEL, HAC, HBD, HBR⟩ := hrel
    by_cases hlt : k < L.length
    · obtain ⟨x, hx⟩ : ∃ x, L[k]? = some x := ⟨_, List.getElem?_eq_getElem hlt⟩
      have c1 := HCW.out wr HBR.out k x hx
      have HXL : Hid (x.length ≤ 100000) := HLE.out x (List.mem_of_getElem? hx)
      have HAS := Lib.hid (acts_step hx)
      have HBT : Hid (badL x = true → badF L = k + 1) := fun h => badF_take HBD.out hx h
      have HBS : Hid (badL x = false → badF (L.take (k + 1)) = 0) := fun h => badF_step HBD.out hx h
      have hkl : k ≤ 100001 := by have := HLN.out; omega
      have HOW := Lib.hid how
      have hal : acc.length ≤ 100001 := by have := congrArg List.length HAC.out; rw [List.length_map] at this; rw [this]; exact Nat.le_trans (actsOf_len _) (by rw [List.length_take]; omega)
      clear hx how HCW HLE
      by_cases hs : skipL x = true
      · have HBF : Hid (badF (L.take (k + 1)) = 0) := HBS.out (by unfold badL; rw [hs]; rfl)
        have HA2 : Hid (actsOf (L.take (k + 1)) = actsOf (L.take k)) := by show _ = _; rw [HAS.out, if_pos hs, List.append_nil]
        clear HBS HBT HAS
        by_cases he : x = []
        · have q1 : ((strB x).toList.isEmpty) = true := by rw [strB_tl, he]; rfl
          clear he hs
          go_wp2_with fail
          go_roundw
          case rel => exact ⟨k + 1, acc, by go_num, hlt, HOW.out, HEL.out, by show _ = _; rw [HA2.out]; exact HAC.out, HBF.out, HBR.out⟩
          case measure => simp only [intOf]; omega
        · obtain ⟨b, t, hbt⟩ : ∃ b t, x = b :: t := List.exists_cons_of_ne_nil he
          have hix : ∀ h, (strB x)[0]'h = b := by subst hbt; exact fun _ => rfl
          have hb35 : b = 35 := by rw [hbt] at hs; simpa [skipL] using hs
          have hbi : ((b.toNat : Nat) : Int) = 35 := by rw [hb35]; decide
          have q1 : ((strB x).toList.isEmpty) = false := by rw [strB_tl, hbt]; rfl
          have hsz : 0 < (strB x).size := by rw [strB_size, hbt]; simp
          clear he hs hbt hb35
          go_wp2_with fail
          go_roundw
          case rel => exact ⟨k + 1, acc, by go_num, hlt, HOW.out, HEL.out, by show _ = _; rw [HA2.out]; exact HAC.out, HBF.out, HBR.out⟩
          case measure => simp only [intOf]; omega
      · have hne : x ≠ [] := fun e => hs (by rw [e]; rfl)
        obtain ⟨b, t, hbt⟩ : ∃ b t, x = b :: t := List.exists_cons_of_ne_nil hne
        have hix : ∀ h, (strB x)[0]'h = b := by subst hbt; exact fun _ => rfl
        have hb35 : b ≠ 35 := fun e => hs (by rw [hbt, e]; rfl)
        have hbj : (((b.toNat : Nat) : Int) == 35) = false := by
          apply beq_eq_false_iff_ne.2
          intro h
          exact hb35 (UInt8.toNat.inj (show b.toNat = 35 by omega))
        have q1 : ((strB x).toList.isEmpty) = false := by rw [strB_tl, hbt]; rfl
        have hsz : 0 < (strB x).size := by rw [strB_size, hbt]; simp
        have HPA := Lib.hid (parse_any (HV.out.stays (HB1.out.trans (HBR.out.mono HB1.out.size))) x HXL.out)
        rw [if_neg hs] at HAS
        have HBL : Hid (badL x = (parseA x).isNone) := by show _ = _; unfold badL; rw [Bool.eq_false_iff.2 hs]; rfl
        clear hs hne hbt hb35
        go_wp2_with fail
        refine HPA.out.mono ?_
        rintro e w2 ⟨⟨h1, h2⟩, hb2⟩
        clear c1 q1 hsz hix hbj HPA
        cases hp : parseA x with
        | none =>
          obtain rfl := h2 hp
          have HBF : Hid (badF L = k + 1) := HBT.out (by rw [HBL.out, hp]; rfl)
          have HBE := Lib.hid (HB1.out.trans ((HBR.out.trans (hb2.mono HBR.out.size)).mono HB1.out.size))
          clear h1 h2 hb2 HBT HBS HAS
          unfold acCells
          go_wp2_with fail
          go_ret3
          refine ⟨⟨fun h0 => absurd (HBF.out.symm.trans h0) (by omega), fun _ => ?_⟩, HBE.out.alloc HBE.out.size _⟩
          rw [HBF.out]
          go_num
        | some A =>
          obtain ⟨vb, vk, vt, rfl, hact⟩ := h1 A hp
          have has := hact.toS
          obtain ⟨q1, q2, acq, q3, q4, q5⟩ := hact
          obtain ⟨ab, cb, rfl, -, -⟩ := q1.row.gen.shape
          obtain ⟨ak, ck, rfl, -, -⟩ := (OwnL.row q2).shape
          obtain ⟨at', ct, rfl, -, -⟩ := (OwnS.row q3).shape tqC_len
          have hcl : acq.length = A.torn.length := by rw [← q5, List.length_map]
          rw [hcl] at has ⊢
          have HAS2 := Lib.hid has
          have HBF : Hid (badF (L.take (k + 1)) = 0) := HBS.out (by rw [HBL.out, hp]; rfl)
          rw [hp] at HAS
          have HB2 := Lib.hid hb2
          obtain ⟨k0, a0, b0, c0, n0, bs0, keep0, torn0⟩ := A
          clear h1 h2 hb2 HBT HBS q1 q2 q3 q4 q5 hcl has hp HBL
          obtain ⟨W3, hW3⟩ : ∃ W3, W3 = w2.alloc (.cells #[.int .i64 k0, .int .i64 a0, .int .i64 b0, .int .i64 c0, .int .i64 n0, .slice ab bs0.length cb, .slice ak keep0.length ck, .slice at' torn0.length ct] 26) := ⟨_, rfl⟩
          obtain ⟨g8, hg8⟩ : ∃ g, g = w2.heap.size := ⟨_, rfl⟩
          have hb3 : Below w2.heap.size w2 W3 := by rw [hW3]; exact (Below.refl _ _).alloc (Nat.le_refl _) _
          have hc3 : CellsAt W3 g8 26 #[.int .i64 k0, .int .i64 a0, .int .i64 b0, .int .i64 c0, .int .i64 n0, .slice ab bs0.length cb, .slice ak keep0.length ck, .slice at' torn0.length ct] := by rw [hW3, hg8]; exact CellsAt.new w2 _ _
          have HW3 := Lib.hid hW3
          have HG8 := Lib.hid hg8
          have HB3 := Lib.hid hb3
          have HC3 := Lib.hid hc3
          clear hW3 hg8 hb3 hc3
          unfold acCells
          go_upto_region 9 with fail
          rw [← HW3.out, ← HG8.out]
          have how3 : OwnS 26 8 aqC w1.heap.size W3 u5 acc := OwnS.stays (OwnS.stays HOW.out HB2.out) HB3.out
          have hws : w1.heap.size ≤ W3.heap.size := Nat.le_trans HBR.out.size (Nat.le_trans HB2.out.size HB3.out.size)
          have hc := HC3.out
          have d0 := hc.cell 0 (v := .int .i64 k0) rfl
          have d1 := hc.cell 1 (v := .int .i64 a0) rfl
          have d2 := hc.cell 2 (v := .int .i64 b0) rfl
          have d3 := hc.cell 3 (v := .int .i64 c0) rfl
          have d4 := hc.cell 4 (v := .int .i64 n0) rfl
          have d5 := hc.cell 5 (v := .slice ab bs0.length cb) rfl
          have d6 := hc.cell 6 (v := .slice ak keep0.length ck) rfl
          have d7 := hc.cell 7 (v := .slice at' torn0.length ct) rfl
          clear hc
          go_wp2_with (at_builtin; go_must (refine wpList_pushS aqC_len aqC_one Tryz.underlying51 infoAQ rfl (by decide) how3 (((⟨k0, a0, b0, c0, n0, bs0, keep0, torn0⟩ : Ac), ((ab, cb), (ak, ck), (at', ct))) : AQ) (by omega) hws rfl _ _ rfl (by rfl) _ _ _ (by rfl) (by rfl) ?_))
          intro v4 w4 ho4 hg4 hn4
          have hq : ∀ q, u5.ownBlock = some q → w1.heap.size ≤ q ∧ q < wr.heap.size := fun q hq => World.ownsRow.lt HOW.out q hq
          have hb4 : Below w1.heap.size w1 w4 := ((HBR.out.trans (HB2.out.mono HBR.out.size)).trans (HB3.out.mono (Nat.le_trans HBR.out.size HB2.out.size))).grown hg4 hws (fun i hi => (hq i hi).1)
          have hel : ELA v4 w4 (acc ++ [((⟨k0, a0, b0, c0, n0, bs0, keep0, torn0⟩ : Ac), ((ab, cb), (ak, ck), (at', ct)))]) := fun y hy => by
            have hs2 := HB2.out.size
            have hs3 := HB3.out.size
            have hs4 := hg4.size
            rcases List.mem_append.1 hy with hy | hy
            · obtain ⟨S, y1, y2⟩ := HEL.out y hy
              refine ⟨S, ((y1.stays HB2.out).stays HB3.out).grown hg4 (fun q hS => (y2 q hS).2), fun q hS => ⟨by have := (y2 q hS).1; omega, fun e => ?_⟩⟩
              rcases hn4 q e with e2 | e2
              · exact (y2 q hS).2 e2
              · have := (y2 q hS).1; omega
            · rw [List.mem_singleton] at hy
              subst hy
              refine ⟨_, (HAS2.out.stays HB3.out).grown hg4 (fun q hS e => by have h1 := (hq q e).2; have h2 : wr.heap.size ≤ q := hS.1; omega), fun q hS => ?_⟩
              have h1 : wr.heap.size ≤ q := hS.1
              have h2 : q < w2.heap.size := hS.2
              refine ⟨by omega, fun e => ?_⟩
              rcases hn4 q e with e2 | e2
              · have := (hq q e2).2; omega
              · omega
          have HEL4 := Lib.hid hel
          have HB4 := Lib.hid hb4
          clear hel hb4 hq hg4 hn4 how3 hws d0 d1 d2 d3 d4 d5 d6 d7
          go_wp2_with fail
          go_roundw
          case rel => exact ⟨k + 1, _, by go_num, hlt, ho4, HEL4.out, by show _ = _; rw [HAS.out, ← HAC.out, List.map_append]; rfl, HBF.out, HB4.out⟩
          case measure => simp only [intOf]; omega
    · obtain rfl : k = L.length := by omega
      rw [List.take_length] at HAC HBD
      obtain ⟨av, cv, rfl, -, -⟩ := (OwnS.row how).shape aqC_len
      have HOW := Lib.hid how
      have HBE := Lib.hid (HB1.out.trans (HBR.out.mono HB1.out.size))
      clear how
      go_wp2_with fail
      go_ret3
      exact ⟨⟨fun _ => ⟨av, cv, acc, rfl, own_mono HOW.out HB1.out.size, fun y hy => by obtain ⟨S, h1, -⟩ := HEL.out y hy; exact h1.toI, HAC.out⟩, fun h => absurd HBD.out h⟩, HBE.out⟩
end Go.Proofs.YtbcpciegdmminaaGreatDoor
