/- record.Raws (over strings.Builder), record.PutAll. -/
import Derived.Test.YtgehbabcpmkgaaaDoorRcI
import Derived.Test.YtgehbabcpmkgaaaDoorShelf
namespace Go.Proofs.YtgehbabcpmkgaaaDoor
open Go Go.RowKit
set_option linter.unusedVariables false
/-- a builder in block b that holds bytes -/
abbrev Bd (B : Nat) (w : World) (b : Nat) (bs : List UInt8) : Prop := Lib.IsBuilder 210 5 B b (bs.map BV) w
theorem bd_new (w : World) : Bd w.heap.size (w.alloc (.cells #[.pointer none, .slice none 0 0] 210)) w.heap.size [] :=
  .inl ⟨Nat.le_refl _, .slice none 0 0, heap_alloc_new w _, OwnB.nil _ _, by simp [Value.ownBlock]⟩
theorem bd_open {B : Nat} {w : World} {b : Nat} {bs : List UInt8} (h : Bd B w b bs) : ∃ p v, (p = none ∨ p = some ⟨b, 0, none⟩) ∧ B ≤ b ∧ CellsAt w b 210 #[.pointer p, v] ∧ OwnB B w v bs ∧ v.ownBlock ≠ some b := by
  rcases h with ⟨h1, v, h2, h3, h4⟩ | ⟨h1, v, h2, h3, h4⟩
  · exact ⟨none, v, .inl rfl, h1, h2, by simpa [OwnB] using h3, h4⟩
  · exact ⟨some ⟨b, 0, none⟩, v, .inr rfl, h1, h2, by simpa [OwnB] using h3, h4⟩
theorem bd_own {B : Nat} {w : World} {v : Value} {bs : List UInt8} (h : OwnB B w v bs) : w.ownsRow B 5 1 v (bs.map BV).length (bs.map BV) := by simpa [OwnB] using h
theorem bd_used {B : Nat} {w : World} {b : Nat} {v : Value} {bs : List UInt8} (h1 : B ≤ b) (h2 : CellsAt w b 210 #[.pointer (some ⟨b, 0, none⟩), v]) (h3 : OwnB B w v bs) (h4 : v.ownBlock ≠ some b) : Bd B w b bs :=
  .inr ⟨h1, v, h2, by simpa [OwnB] using h3, h4⟩
theorem bd_size : (Tryd.prog.info? 210).map (·.size) = some 2 := by kernel_rfl
theorem bd_lies : liesAt Tryd.prog Tryd.prog.depth 210 (2 / Tryd.prog.cellsOf 210) 0 210 1 = true := by kernel_rfl
set_option maxHeartbeats 1000000 in
set_option maxRecDepth 100000 in
theorem bd_copy (B b : Nat) (p : Option Addr) (v : Value) (w : World) (hp : p = none ∨ p = some ⟨b, 0, none⟩) (hc : CellsAt w b 210 #[.pointer p, v]) :
    Calls Tryd.prog 131 #[.pointer (some ⟨b, 0, none⟩)] w fun e w' => e = .returned (.tuple #[]) ∧ CellsAt w' b 210 #[.pointer (some ⟨b, 0, none⟩), v] ∧ w.grownBy w' (some b) := by
  obtain ⟨j, hj, hjs⟩ := Option.map_eq_some_iff.1 bd_size
  have c0 := hc.cell 0 (v := .pointer p) rfl
  have f0 := hc.free 0
  have hsh : w.shape? b = some (210, 2) := by unfold CellsAt at hc; simp [World.shape?, hc]
  have HC := Lib.hid hc
  clear hc
  rcases hp with rfl | rfl
  · go_enter Tryd.func131, Tryd.ntmps131
    go_wp2_with fail
    rw [Lib.run_to_unsafe w ⟨b, 0, none⟩ Tryd.underlying208 Tryd.underlying244 hj (by rw [hjs]; decide) hsh (Nat.zero_lt_succ 1)]
    simp only [Result.andThen]
    rw [Oper.upon_value]
    go_wp2_with fail
    rw [run_callFunc_extern Tryd.func142 (by kernel_rfl) (by kernel_rfl) (by kernel_rfl) (e := Extern.AbiNoEscape.same) (by kernel_rfl)]
    rw [Lib.run_noEscape]
    simp only [Result.andThen]
    rw [Oper.upon_value]
    go_wp2_with fail
    rw [Lib.run_from_unsafe w ⟨b, 0, none⟩ Tryd.underlying244 Tryd.underlying208 hj hsh bd_lies]
    simp only [Result.andThen]
    rw [Oper.upon_value]
    go_wp2_with fail
    go_end0
    exact ⟨rfl, HC.out.set 0 (.pointer (some ⟨b, 0, none⟩)), grownBy_setCell (grownBy_refl _ _) ⟨b, 0, none⟩ (.inl rfl) _⟩
  · go_enter Tryd.func131, Tryd.ntmps131
    go_wp2_with fail
    rw [Lib.run_neq_ptr_same w _ Tryd.underlying208 hj]
    go_wp2_with fail
    go_end0
    exact ⟨rfl, HC.out, grownBy_refl _ _⟩
theorem ownB_grown {B : Nat} {w w' : World} {v : Value} {bs : List UInt8} {row : Option Nat} (h : OwnB B w v bs) (hg : w.grownBy w' row) (hne : ∀ k, v.ownBlock = some k → row ≠ some k) : OwnB B w' v bs := by
  rcases h with ⟨h1, h2⟩
  refine ⟨h1, ?_⟩
  rcases h2 with h2 | ⟨g, cap, cur, rfl, hb, hgb, hr⟩
  · exact .inl h2
  · refine .inr ⟨g, cap, cur, rfl, hb, ?_, hr⟩
    exact (hg.block g (lt_of_block hgb) (fun e => hne g rfl e.symm)).trans hgb
set_option maxRecDepth 100000 in
set_option maxHeartbeats 1000000 in
theorem bd_write (B b : Nat) (bs s : List UInt8) (w : World) (h : Bd B w b bs) (hl : bs.length ≤ 1000000) (hs : s.length ≤ 1000000) (hB : B ≤ w.heap.size) :
    Calls Tryd.prog 111 #[.pointer (some ⟨b, 0, none⟩), .string (strB s)] w fun e w' => e = .returned (.tuple #[.int .i64 s.length, .nilIface]) ∧ Bd B w' b (bs ++ s) ∧ Below B w w' := by
  obtain ⟨p, v, hp, hBb, hc, ho, hne⟩ := bd_open h
  have HCC := Lib.hid (bd_copy B b p v w hp hc)
  have hsz := strB_size s
  have hbl := hc.lt
  obtain ⟨a, c, rfl, -, -⟩ := ho.row.gen.shape
  clear h hc hp
  go_enter Tryd.func111, Tryd.ntmps111
  go_wp2_with fail
  refine HCC.out.mono ?_
  rintro e w1 ⟨rfl, hc1, hg1⟩
  have ho1 := ownB_grown ho hg1 (fun k hk e => hne (by rw [hk]; exact e.symm))
  have c1 := hc1.cell 1 (v := .slice a bs.length c) rfl
  have hb1 : Below B w w1 := (Below.refl B w).grown hg1 hB (fun k hk => by cases hk; exact hBb)
  have hs1 : B ≤ w1.heap.size := Nat.le_trans hB hg1.size
  have hbl1 : b < w1.heap.size := hc1.lt
  have HC1 := Lib.hid hc1
  have HB1 := Lib.hid hb1
  clear HCC ho hg1 hc1 hb1
  go_wp2_with (at_builtin; go_must (refine wpList_appendStr ho1 (strB s) s rfl (by omega) hs1 rfl _ _ rfl rfl rfl ?_))
  intro v2 w2 ho2 hg2 hn2
  obtain ⟨Y, hY⟩ : ∃ Y, Y = bs ++ s := ⟨_, rfl⟩
  rw [← hY] at ho2
  have HY := Lib.hid hY
  clear hY
  have hne2 : v2.ownBlock ≠ some b := fun e => by
    rcases hn2 b e with h | h
    · exact hne h
    · omega
  have hc2 := HC1.out.grown hg2 (fun e => hne e)
  have hb2 : Below B w w2 := OwnB.below ho1 HB1.out hg2 hs1
  have c1 := hc2.cell 1 (v := .slice a bs.length c) rfl
  have f1 := hc2.free 1
  obtain ⟨a2, c2, rfl, -, -⟩ := ho2.row.gen.shape
  have HC2 := Lib.hid hc2
  have HO2 := Lib.hid ho2
  have HB2 := Lib.hid hb2
  have HN2 := Lib.hid hne2
  clear ho1 hg2 hn2 hne2 hc2 ho2 hb2
  go_wp2_with fail
  go_ret2
  have hg3 : w2.grownBy (w2.setCell ⟨b, 1, none⟩ (.slice a2 Y.length c2)) (some b) := grownBy_setCell (grownBy_refl _ _) ⟨b, 1, none⟩ (.inl rfl) _
  exact ⟨rfl, by rw [← HY.out]; exact bd_used hBb (HC2.out.set 1 _) (ownB_grown HO2.out hg3 (fun k hk e => HN2.out (by rw [hk]; exact e.symm))) HN2.out, HB2.out.setCell hBb _⟩
set_option maxRecDepth 100000 in
set_option maxHeartbeats 2000000 in
/-- all raw texts, one behind the other -/
theorem rcRaws_any (v : Value) (rs : List Rc) (w : World) (hr : RowS rcC w v rs) (hl : rs.length ≤ 1000) (hx : ∀ r ∈ rs, r.raw.length ≤ 1000) :
    Calls Tryd.prog 71 #[v] w fun e w' => e = .returned (.string (strB (rs.map Rc.raw).flatten)) ∧ Below w.heap.size w w' := by
  obtain ⟨a, c, rfl, -, hi⟩ := RowS.shape hr rcC_len
  have HI := Lib.hid hi
  have HX := Lib.hid hx
  have hfl : ∀ m, ((rs.take m).map Rc.raw).flatten.length ≤ 1000 * m := fun m => by
    induction m with
    | zero => simp
    | succ m ih =>
      by_cases h : m < rs.length
      · rw [List.take_succ_eq_append_getElem h, List.map_append, List.flatten_append, List.length_append, show ([rs[m]].map Rc.raw).flatten.length = rs[m].raw.length from by simp]
        have := hx _ (List.getElem_mem h)
        omega
      · rw [List.take_of_length_le (by omega)]
        rw [List.take_of_length_le (by omega)] at ih
        omega
  have HFL := Lib.hid hfl
  have hnew := bd_new w
  have hb0 : Below w.heap.size w (w.alloc (.cells #[.pointer none, .slice none 0 0] 210)) := (Below.refl _ _).alloc (Nat.le_refl _) _
  have HNEW := Lib.hid hnew
  have HB0 := Lib.hid hb0
  clear hr hi hx hfl hnew hb0
  go_enter Tryd.func71, Tryd.ntmps71
  go_wp2_with fail
  go_loopw [8] (fun i wr => ∃ m : Nat, m ≤ rs.length ∧ i = .int .i64 m ∧ Bd w.heap.size wr w.heap.size ((rs.take m).map Rc.raw).flatten ∧ Below w.heap.size w wr) (fun i _ => rs.length - (intOf i).toNat)
  case atStart => exact ⟨0, Nat.zero_le _, rfl, HNEW.out, HB0.out⟩
  case round =>
    obtain ⟨m, hm, rfl, hbd, hbe⟩ := hrel
    have hsz := hbe.size
    by_cases h1 : m < rs.length
    · obtain ⟨⟨n, k, bits, text, raw⟩, hq⟩ : ∃ r, rs[m]? = some r := ⟨_, List.getElem?_eq_getElem h1⟩
      obtain ⟨gb, ob, rfl, hc⟩ := HI.out m _ hq
      have d0 := cell_below hbe (hc 0 (.int .i64 n) rfl)
      have d1 := cell_below hbe (hc 1 (.int .i64 k) rfl)
      have d2 := cell_below hbe (hc 2 (.int .u64 bits) rfl)
      have d3 := cell_below hbe (hc 3 (.string (strB text)) rfl)
      have d4 := cell_below hbe (hc 4 (.string (strB raw)) rfl)
      rw [Nat.add_zero] at d0
      rw [← Nat.add_assoc] at d1 d2 d3 d4
      have hrl : raw.length ≤ 1000 := HX.out _ (List.mem_of_getElem? hq)
      have hml := HFL.out m
      have hnx : ((rs.take (m + 1)).map Rc.raw).flatten = ((rs.take m).map Rc.raw).flatten ++ raw := by rw [List.take_add_one, hq]; simp
      have HNX := Lib.hid hnx
      have hbA : Below wr.heap.size wr (wr.alloc (.cells #[.int .i64 n, .int .i64 k, .int .u64 bits, .string (strB text), .string (strB raw)] 69)) := (Below.refl _ _).alloc (Nat.le_refl _) _
      have hbdA : Bd w.heap.size (wr.alloc (.cells #[.int .i64 n, .int .i64 k, .int .u64 bits, .string (strB text), .string (strB raw)] 69)) w.heap.size ((rs.take m).map Rc.raw).flatten := by
        obtain ⟨p, v, hp, hBb, hcc, ho, hne⟩ := bd_open hbd
        rcases hp with rfl | rfl
        · exact .inl ⟨hBb, v, hcc.stays hbA, bd_own (ho.stays hbA), hne⟩
        · exact bd_used hBb (hcc.stays hbA) (ho.stays hbA) hne
      have hbeA := hbe.trans (hbA.mono hsz)
      have HW := Lib.hid (bd_write w.heap.size w.heap.size _ raw _ hbdA (by omega) (by omega) hbeA.size)
      have HBA := Lib.hid hbeA
      clear hc hq hbd hbe hbA hbdA hnx hbeA
      go_wp2_with fail
      refine HW.out.mono ?_
      rintro e w2 ⟨rfl, hbd2, hb2⟩
      have HBD2 := Lib.hid hbd2
      have HBE2 := Lib.hid (HBA.out.trans hb2)
      clear HW hbd2 hb2 HBA
      go_wp2_with fail
      go_roundw
      case rel => exact ⟨m + 1, by omega, by go_num, by rw [HNX.out]; exact HBD2.out, HBE2.out⟩
      case measure => simp only [intOf]; omega
    · obtain rfl : rs.length = m := by omega
      rw [List.take_length] at hbd
      have hst := Tryd.Builder_String_any w.heap.size w.heap.size (rs.map Rc.raw).flatten wr (by
        have : Lib.byteCells (rs.map Rc.raw).flatten = (rs.map Rc.raw).flatten.map BV := rfl
        rw [this]; exact hbd) hsz
      have HST := Lib.hid hst
      clear hbd hst
      go_wp2_with fail
      refine HST.out.mono ?_
      rintro e w2 ⟨rfl, hb2⟩
      go_wp2_with fail
      go_ret
      exact ⟨rfl, hbe.trans hb2⟩
/-- the first error's number -/
def rbad : List Rc → Nat
  | [] => 0
  | r :: rs => if rcheck r = 0 then rbad rs else rcheck r
def putsV (rs : List Rc) : List UInt8 := if rbad rs = 0 then rputs rs else []
theorem putsV_ok {rs : List Rc} (h : rbad rs = 0) : putsV rs = rputs rs := if_pos h
theorem putsV_bad {rs : List Rc} (h : rbad rs ≠ 0) : putsV rs = [] := if_neg h
theorem rbad_all : ∀ {rs : List Rc}, (∀ r ∈ rs, rcheck r = 0) → rbad rs = 0
  | [], _ => rfl
  | r :: rs, h => by rw [rbad, if_pos (h r (by simp))]; exact rbad_all fun x hx => h x (by simp [hx])
theorem rbad_at : ∀ {rs : List Rc} {m : Nat} {r : Rc}, (∀ x ∈ rs.take m, rcheck x = 0) → rs[m]? = some r → rcheck r ≠ 0 → rbad rs = rcheck r
  | [], m, r, _, h, _ => by simp at h
  | x :: rs, 0, r, _, h, hr => by
    simp at h
    subst h
    rw [rbad, if_neg hr]
  | x :: rs, m + 1, r, ha, h, hr => by
    rw [rbad, if_pos (ha x (by simp))]
    exact rbad_at (m := m) (fun y hy => ha y (by simp [hy])) (by simpa using h) hr
theorem rput_len2 (r : Rc) (h : rcheck r = 0) (hb : r.bits < 18446744073709551616) (hl : r.text.length ≤ 1000) : (rput r).length ≤ 1100 := by
  obtain ⟨ht, -, -⟩ := rcheck_zero h
  obtain ⟨-, h2, hk⟩ := tcheck_zero ht
  have h1 := vput_len10 (tcode r.n r.k) (tcode_lt h2 (by omega))
  have h3 := vput_len10 r.bits hb
  have h4 := vput_len10 r.text.length (by omega)
  unfold rput rtail
  rw [List.length_append]
  split
  · rw [fput_len]; omega
  · split
    · rw [fput_len]; omega
    · split
      · rw [List.length_append]; omega
      · omega
theorem rputs_next {rs : List Rc} {m : Nat} {r : Rc} (h : rs[m]? = some r) : rputs (rs.take (m + 1)) = rputs (rs.take m) ++ rput r := by
  unfold rputs
  rw [List.take_add_one, h]
  simp
theorem rputs_len : ∀ (rs : List Rc), (∀ r ∈ rs, rcheck r = 0) → (∀ r ∈ rs, r.bits < 18446744073709551616 ∧ r.text.length ≤ 1000) → (rputs rs).length ≤ 1100 * rs.length
  | [], _, _ => by simp [rputs]
  | r :: rs, h, hb => by
    have h1 := rput_len2 r (h r (by simp)) (hb r (by simp)).1 (hb r (by simp)).2
    have h2 := rputs_len rs (fun x hx => h x (by simp [hx])) (fun x hx => hb x (by simp [hx]))
    show (rput r ++ rputs rs).length ≤ _
    rw [List.length_append, List.length_cons]
    omega
set_option maxRecDepth 100000 in
set_option maxHeartbeats 4000000 in
theorem rcPutAll_any (ea : Nat → Addr) (v : Value) (rs : List Rc) (w : World) (hr : RowS rcC w v rs) (hl : rs.length ≤ 100) (hx : ∀ r ∈ rs, ((-9223372036854775808 ≤ r.n ∧ r.n ≤ 9223372036854775807) ∧ (-9223372036854775808 ≤ r.k ∧ r.k ≤ 9223372036854775807) ∧ r.bits < 18446744073709551616) ∧ r.text.length ≤ 1000) (he : ErrsAll ea w) :
    Calls Tryd.prog 72 #[v] w fun e w' => ∃ v', e = .returned (.tuple #[v', EV ea (rbad rs)]) ∧ OwnB w.heap.size w' v' (putsV rs) ∧ Below w.heap.size w w' := by
  obtain ⟨a, c, rfl, -, hi⟩ := RowS.shape hr rcC_len
  have HI := Lib.hid hi
  have HX := Lib.hid hx
  have HE : Hid (∀ w', Below w.heap.size w w' → ErrsAll ea w') := fun w' h => he.stays h
  clear hr hi hx he
  go_enter Tryd.func72, Tryd.ntmps72
  go_wp2_with fail
  go_loopw [4, 11] (fun v4 i wr => ∃ m : Nat, m ≤ rs.length ∧ i = .int .i64 m ∧ OwnB w.heap.size wr v4 (rputs (rs.take m)) ∧ Hid (∀ r ∈ rs.take m, rcheck r = 0) ∧ Below w.heap.size w wr) (fun _ i _ => rs.length - (intOf i).toNat)
  case atStart => exact ⟨0, Nat.zero_le _, rfl, OwnB.nil _ _, fun r h => by simp at h, Below.refl _ _⟩
  case round =>
    obtain ⟨m, hm, rfl, ho, HA, hbe⟩ := hrel
    have hsz := hbe.size
    by_cases h1 : m < rs.length
    · obtain ⟨⟨n, k, bits, text, raw⟩, hq⟩ : ∃ r, rs[m]? = some r := ⟨_, List.getElem?_eq_getElem h1⟩
      obtain ⟨gb, ob, rfl, hc⟩ := HI.out m _ hq
      have d0 := cell_below hbe (hc 0 (.int .i64 n) rfl)
      have d1 := cell_below hbe (hc 1 (.int .i64 k) rfl)
      have d2 := cell_below hbe (hc 2 (.int .u64 bits) rfl)
      have d3 := cell_below hbe (hc 3 (.string (strB text)) rfl)
      have d4 := cell_below hbe (hc 4 (.string (strB raw)) rfl)
      rw [Nat.add_zero] at d0
      rw [← Nat.add_assoc] at d1 d2 d3 d4
      obtain ⟨⟨hn, hk, hbit⟩, htl⟩ := HX.out _ (List.mem_of_getElem? hq)
      have hbA : Below wr.heap.size wr (wr.alloc (.cells #[.int .i64 n, .int .i64 k, .int .u64 bits, .string (strB text), .string (strB raw)] 69)) := (Below.refl _ _).alloc (Nat.le_refl _) _
      have hct := CellsAt.new wr #[.int .i64 n, .int .i64 k, .int .u64 bits, .string (strB text), .string (strB raw)] 69
      have hbeA := hbe.trans (hbA.mono hsz)
      have hoA := OwnB.stays ho hbA
      have hE := HE.out _ hbeA
      have HP := Lib.hid (rcPut_any n k bits text raw (wr.alloc (.cells #[.int .i64 n, .int .i64 k, .int .u64 bits, .string (strB text), .string (strB raw)] 69)) hn.1 hn.2 hk.1 hk.2 hbit htl ea hE.e1 hE.e5 hE.e6 hE.e9 hE.e12)
      have c0 := hct.cell 0 (v := .int .i64 n) rfl
      have c1 := hct.cell 1 (v := .int .i64 k) rfl
      have c2 := hct.cell 2 (v := .int .u64 bits) rfl
      have c3 := hct.cell 3 (v := .string (strB text)) rfl
      have c4 := hct.cell 4 (v := .string (strB raw)) rfl
      have HBA := Lib.hid hbeA
      have HOA := Lib.hid hoA
      have HQ := Lib.hid hq
      have hrl : (rputs (rs.take m)).length ≤ 110000 := by
        have := rputs_len (rs.take m) HA.out (fun r h => ⟨(HX.out r (List.mem_of_mem_take h)).1.2.2, (HX.out r (List.mem_of_mem_take h)).2⟩)
        have h2 := List.length_take_le m rs
        omega
      have hpl : rcheck ⟨n, k, bits, text, raw⟩ = 0 → (rput ⟨n, k, bits, text, raw⟩).length ≤ 1100 := fun h => rput_len2 _ h hbit htl
      have HPL := Lib.hid hpl
      clear hc hq hbe hbA hct hbeA hoA hE ho hpl hbit hn hk
      by_cases hc0 : rcheck ⟨n, k, bits, text, raw⟩ = 0
      · have HC0 := Lib.hid hc0
        have hpl := HPL.out hc0
        rw [if_pos hc0, hc0, EV_zero] at HP
        have HNX := Lib.hid (rputs_next HQ.out)
        have HAN : Hid (∀ r ∈ rs.take (m + 1), rcheck r = 0) := fun r h => by
          rw [List.take_add_one, HQ.out] at h
          rcases List.mem_append.1 h with h | h
          · exact HA.out r h
          · simp at h; rw [h]; exact HC0.out
        generalize rput ⟨n, k, bits, text, raw⟩ = X at HP hpl HNX
        clear hc0 HA HPL
        go_wp2_with fail
        refine HP.out.mono ?_
        rintro e w2 ⟨v2, rfl, ho2, hb2⟩
        have hbe2 := HBA.out.trans (hb2.mono HBA.out.size)
        have hs2 := hbe2.size
        have ho4 : OwnB w.heap.size w2 u4 _ := OwnB.stays HOA.out hb2
        have hr2 := ho2.row
        clear HP ho2 hb2 HBA HOA c0 c1 c2 c3 c4
        go_wp2_with (at_builtin; go_must (refine wpList_appendB ho4 hr2 (by omega) hs2 rfl _ _ rfl rfl rfl ?_))
        intro v5 w5 ho5 hg5 hn5 _
        have hbe5 := OwnB.below ho4 hbe2 hg5 hs2
        clear ho4 hr2 hg5
        go_wp2_with fail
        go_roundw
        case rel => exact ⟨m + 1, by omega, by go_num, by rw [HNX.out]; exact ho5, HAN, hbe5⟩
        case measure => simp only [intOf]; omega
      · have HBD := Lib.hid (rbad_at HA.out HQ.out hc0)
        rw [if_neg hc0, EV_pos ea hc0] at HP
        have HC0 := Lib.hid hc0
        clear hc0 HA HPL
        go_wp2_with fail
        refine HP.out.mono ?_
        rintro e w2 ⟨v2, rfl, ho2, hb2⟩
        have hbe2 := HBA.out.trans (hb2.mono HBA.out.size)
        clear HP ho2 hb2 HBA HOA
        go_wp2_with fail
        go_ret2
        exact ⟨.slice none 0 0, ret2 rfl (by rw [HBD.out, EV_pos ea HC0.out]; rfl), by rw [putsV_bad (by rw [HBD.out]; exact HC0.out)]; exact OwnB.nil _ _, hbe2⟩
    · obtain rfl : rs.length = m := by omega
      have HBD : Hid (rbad rs = 0) := rbad_all (by have := HA.out; rwa [List.take_length] at this)
      rw [List.take_length] at ho
      clear HA
      go_wp2_with fail
      go_ret2
      exact ⟨u4, ret2 rfl (by rw [HBD.out]; rfl), by rw [putsV_ok HBD.out]; exact ho, hbe⟩
end Go.Proofs.YtgehbabcpmkgaaaDoor
