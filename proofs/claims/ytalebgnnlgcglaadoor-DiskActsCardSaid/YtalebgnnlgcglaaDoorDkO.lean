/- The disk's methods, walked: of, New, Sectors, has, Power, Fuse. -/
import Derived.Test.YtalebgnnlgcglaaDoorDkM
import Derived.Test.YtalebgnnlgcglaaDoorErrs
import Derived.BigQuiet
namespace Go.Proofs.YtalebgnnlgcglaaDoor
open Go Go.RowKit
set_option linter.unusedVariables false
/-- an operation that yields a value and leaves a world -/
theorem wpList_do {P : Program} {ops : Array Oper} {rest : List Oper} {o : Oper} {a : Act} {w : World} {Q : Exit → Act → World → Prop} (hg : o.guard = none) (dst : Option Tmp) (hdst : o.dst = dst)
    (v : Value) (w' : World) (hrun : (execOp a.eval o).run P w = .ok (.value v) w') (h : wpList P ops Q rest (a.put dst v) w') : wpList P ops Q (o :: rest) a w := by
  subst hdst
  refine wpList_plain hg fun K hK => ?_
  unfold Oper.wp
  rw [hrun, Oper.upon_value]
  exact hK _ _ h
def secZ : Array Value := (secC zero64).toArray
theorem infoSec : (Tryd.prog.info? 63).map (fun i => (i.zero, i.size)) = some (some (.agg secZ), 64) := by kernel_rfl
theorem sizeSec : (Tryd.prog.info? 63).map (·.size) = some 64 := by kernel_rfl
theorem alloc_sec (w : World) : (Instr.alloc 63 true (.tuple #[])).run Tryd.prog w = .ok (.pointer (some ⟨w.heap.size, 0, none⟩)) (w.alloc (.cells secZ 63)) := by
  kernel_rfl
theorem secZ_size : secZ.size = 64 := rfl
theorem secA_size {s : List UInt8} (h : s.length = 64) : (secC s).toArray.size = 64 := by rw [List.size_toArray, secC_len, h]
section
variable {ops : Array Oper} {rest : List Oper} {o : Oper} {a : Act} {w : World} {Q : Exit → Act → World → Prop}
/-- a new sector of noughts -/
theorem wpList_allocSec (hg : o.guard = none) (d : Tmp) (hdst : o.dst = some d) (hop : o.op = Op.alloc 63)
    (h : ∀ w', CellsAt w' w.heap.size 63 secZ → Below w.heap.size w w' → w.heap.size < w'.heap.size → wpList Tryd.prog ops Q rest (a.put (some d) (.pointer (some ⟨w.heap.size, 0, none⟩))) w') : wpList Tryd.prog ops Q (o :: rest) a w := by
  refine wpList_do hg _ hdst (.pointer (some ⟨w.heap.size, 0, none⟩)) (w.alloc (.cells secZ 63)) ?_ (h _ (CellsAt.new _ _ _) ((Below.refl _ _).alloc (Nat.le_refl _) _) (by simp))
  unfold execOp
  rw [hop]
  simp only [Sem.run_bind, alloc_sec, Result.andThen_ok, Sem.run_pure]
/-- a sector is read -/
theorem wpList_loadSec (hg : o.guard = none) (d : Tmp) (hdst : o.dst = some d) (x : Operand) (hop : o.op = Op.load 63 x) (g : Nat) (hx : a.eval x = .pointer (some ⟨g, 0, none⟩)) (T : TypeId) (s : List UInt8) (hs : s.length = 64) (hc : CellsAt w g T (secC s).toArray)
    (h : wpList Tryd.prog ops Q rest (a.put (some d) (secV s)) w) : wpList Tryd.prog ops Q (o :: rest) a w := by
  refine wpList_load_row hg 63 x hop g hx T (secC s).toArray (0, 0) _ hc Tryd.underlying63 rfl (by rw [secA_size hs]; exact sizeSec) ?_
  rw [hdst]; exact h
/-- a sector is written -/
theorem wpList_storeSec (hg : o.guard = none) (x y : Operand) (hop : o.op = Op.store 63 x y) (g : Nat) (hx : a.eval x = .pointer (some ⟨g, 0, none⟩)) (s : List UInt8) (hy : a.eval y = secV s) (hs : s.length = 64) (T : TypeId) (c : Array Value) (hc : CellsAt w g T c) (hcs : c.size = 64)
    (h : ∀ w', CellsAt w' g T (secC s).toArray → w.grownBy w' (some g) → wpList Tryd.prog ops Q rest (a.put o.dst undef) w') : wpList Tryd.prog ops Q (o :: rest) a w := by
  have ht : w.there g 0 (secC s).toArray.size := fun j hj => by
    rw [secA_size hs] at hj
    rw [Nat.zero_add]
    exact ⟨by rw [hc.cell j (Array.getElem?_eq_getElem (by omega))]; rfl, hc.free j⟩
  refine wpList_store_mid hg 63 x y hop g 0 (secC s).toArray hx hy ht (by rw [secA_size hs]; exact sizeSec) (all_oneCell_toArray (secC_one s)) ?_
  refine h _ ?_ ?_
  · obtain ⟨l, rfl⟩ : ∃ l : List Value, c = l.toArray := ⟨c.toList, by simp⟩
    have h1 := CellsAt.setCells (secC s) 0 hc
    rw [setAll_eq _ _ _ (by rw [secC_len]; simp at hcs; omega), List.take_zero, List.nil_append, Nat.zero_add, List.drop_of_length_le (by rw [secC_len]; simp at hcs; omega), List.append_nil] at h1
    exact h1
  · exact Grew.toGrown (grew_setCells (S := [g]) (.inl (by simp)) _ _ (Grew.refl [g] w)) (fun i hi => .inl (by simpa using hi))
/-- copy(s[:], b) -/
theorem wpList_copySec (hg : o.guard = none) (d y : Operand) (hop : o.op = .call { callee := .builtin .copy, args := #[d, y], argTypes := #[22, 22] }) (g : Nat) (hd : a.eval d = .slice (some ⟨g, 0, none⟩) 64 64) (T : TypeId) (hc : CellsAt w g T secZ)
    (v : Value) (bs : List UInt8) (hy : a.eval y = v) (hr : RowB w v bs) (n : Nat) (hn : n = min bs.length 64) (h : ∀ w', CellsAt w' g T (secC (padV bs)).toArray → Below g w w' → wpList Tryd.prog ops Q rest (a.put o.dst (goInt n)) w') : wpList Tryd.prog ops Q (o :: rest) a w := by
  obtain ⟨sp, sl, sc, rfl, hsl, hpos⟩ : ∃ sp sl sc, v = .slice sp sl sc ∧ sl = bs.length ∧ (0 < bs.length → ∃ ad, sp = some ad ∧ ∀ j u, (bs.map BV)[j]? = some u → w.cell? (ad.add j) = some u) := by
    rcases hr.open with ⟨rfl, a, c, rfl⟩ | ⟨b, o, c, rfl, _, _, _, hc⟩
    · exact ⟨a, 0, c, rfl, rfl, fun h => by simp at h⟩
    · refine ⟨_, _, _, rfl, rfl, fun _ => ⟨_, rfl, fun j u hu => ?_⟩⟩
      rw [List.getElem?_map] at hu
      obtain ⟨x, hx, rfl⟩ := Option.map_eq_some_iff.1 hu
      rw [Addr.add_mid]; exact hc j x hx
  subst hsl
  subst hn
  have hsz1 : (Tryd.prog.info? 5).map (·.size) = some 1 := by
    obtain ⟨i, hi, _, hz1, _⟩ := info_parts infoB
    rw [hi]; exact congrArg some hz1
  have hl : (secC (bs.take 64)).length = min bs.length 64 := by rw [secC_len, List.length_take]; exact Nat.min_comm _ _
  have hc' : w.heap[g]? = some (.cells (secC zero64).toArray T (0, 0)) := hc
  refine wpList_copy_splice hg d y 22 22 hop 5 Tryd.underlying22 hsz1 _ sp 64 64 bs.length sc hd hy g 0 (secC zero64) T hc' (secC (bs.take 64)) hl (fun hp => ⟨rfl, ?_⟩) (by rw [hl, secC_len, zero64_len]; omega) (secC_one _) g w (Below.refl _ _) (Nat.le_refl _) ?_
  · obtain ⟨ad, h1, h2⟩ := hpos (by rw [hl] at hp; omega)
    refine ⟨ad, h1, fun j u hu => h2 j u ?_⟩
    unfold secC at hu
    rw [List.getElem?_map, List.getElem?_take] at hu
    rw [List.getElem?_map]
    split at hu
    · exact hu
    · simp at hu
  · intro w' h1 h2
    rw [hl]
    refine h w' ?_ h2
    have e : splice (secC zero64) 0 (secC (bs.take 64)) = secC (padV bs) := by
      unfold splice padV secC
      rw [List.take_zero, List.nil_append, Nat.zero_add, List.length_map, List.length_take, ← List.map_drop, ← List.map_append]
      by_cases hb : bs.length ≤ 64
      · rw [Nat.min_eq_right hb]
      · rw [Nat.min_eq_left (by omega), List.drop_of_length_le (by rw [zero64_len]; omega), List.drop_of_length_le (by rw [zero64_len]; omega)]
    rw [← e]; exact h1.out
end
set_option maxRecDepth 100000 in
theorem of_any (v : Value) (bs : List UInt8) (w : World) (hr : RowB w v bs) (hl : bs.length ≤ 1000000) :
    Calls Tryd.prog 23 #[v] w fun e w' => e = .returned (secV (padV bs)) ∧ Below w.heap.size w w' := by
  have HR : Hid (∀ w', Below w.heap.size w w' → RowB w' v bs) := fun w' hb => hr.stays hb
  have HP := Lib.hid (padV_len bs)
  clear hr
  go_enter Tryd.func23, Tryd.ntmps23
  go_wp2_with (first
    | (refine wpList_allocSec rfl 2 rfl rfl ?_; intro w1 hc2 hb1 hs1)
    | (refine wpList_allocSec rfl 3 rfl rfl ?_; intro w2 hc3 hb2 hs2)
    | (refine wpList_copySec rfl _ _ rfl w1.heap.size (by rfl) _ hc3 v bs (by rfl) (HR.out _ (hb1.trans (hb2.mono hb1.size))) _ rfl ?_; intro w3 hc4 hb3)
    | (refine wpList_loadSec rfl 7 rfl _ rfl w1.heap.size (by rfl) _ (padV bs) HP.out hc4 ?_)
    | (refine wpList_storeSec rfl _ _ rfl w.heap.size (by rfl) (padV bs) (by rfl) HP.out _ secZ ((hc2.stays hb2).below hb3 hs1) secZ_size ?_; intro w4 hc5 hg4))
  have hbe2 := hb1.trans (hb2.mono hb1.size)
  have hbe3 := hbe2.trans (hb3.mono hb1.size)
  refine bodyPost_ret (v := secV (padV bs)) (results_cell_row (p := 2) (ty := 63) rfl _ _ w.heap.size _ (secC (padV bs)).toArray (0, 0) _ (by rfl) hc5 Tryd.underlying63 rfl (by rw [secA_size HP.out]; exact sizeSec)) rfl ⟨rfl, ?_⟩
  exact hbe3.grown hg4 hbe3.size (fun k hk => by cases hk; exact Nat.le_refl _)
section
variable {w : World} {g gd gm : Nat} {d : Dm}
/-- a receiver's cells -/
theorem Dk.c0 (h : Dk w g gd gm d) : w.cell? ⟨g, 0, none⟩ = some (.slice (some ⟨gd, 0, none⟩) d.dur.length d.dur.length) := h.cells.cell 0 rfl
theorem Dk.c1 (h : Dk w g gd gm d) : w.cell? ⟨g, 1, none⟩ = some (.map (some gm)) := h.cells.cell 1 rfl
theorem Dk.c2 (h : Dk w g gd gm d) : w.cell? ⟨g, 2, none⟩ = some (.int .i64 d.fuse) := h.cells.cell 2 rfl
theorem Dk.c3 (h : Dk w g gd gm d) : w.cell? ⟨g, 3, none⟩ = some (.int .i64 d.writes) := h.cells.cell 3 rfl
theorem sectors_get (h : Dk w g gd gm d) : Calls Tryd.prog 13 #[.pointer (some ⟨g, 0, none⟩)] w fun e w' => e = .returned (.int .i64 d.dur.length) ∧ w = w' := by
  have c0 := h.c0
  clear h
  go_enter Tryd.func13, Tryd.ntmps13
  go_wp2_with fail
  go_ret
  exact ⟨rfl, rfl⟩
theorem has_yes (h : Dk w g gd gm d) {x : Int} (hx : d.has x) : Calls Tryd.prog 22 #[.pointer (some ⟨g, 0, none⟩), .int .i64 x] w fun e w' => e = .returned (.bool true) ∧ w = w' := by
  have c0 := h.c0
  obtain ⟨h1, h2⟩ := hx
  clear h
  go_enter Tryd.func22, Tryd.ntmps22
  go_wp2_with fail
  go_ret
  exact ⟨rfl, rfl⟩
theorem has_no (h : Dk w g gd gm d) {x : Int} (hx : ¬ d.has x) : Calls Tryd.prog 22 #[.pointer (some ⟨g, 0, none⟩), .int .i64 x] w fun e w' => e = .returned (.bool false) ∧ w = w' := by
  have c0 := h.c0
  unfold Dm.has at hx
  clear h
  by_cases h1 : 0 ≤ x
  · have h2 : ¬ x < d.dur.length := fun h' => hx ⟨h1, h'⟩
    clear hx
    go_enter Tryd.func22, Tryd.ntmps22
    go_wp2_with fail
    go_ret
    exact ⟨rfl, rfl⟩
  · clear hx
    go_enter Tryd.func22, Tryd.ntmps22
    go_wp2_with fail
    go_ret
    exact ⟨rfl, rfl⟩
theorem power_yes (h : Dk w g gd gm d) (hf : d.fuse ≠ 0) : Calls Tryd.prog 19 #[.pointer (some ⟨g, 0, none⟩)] w fun e w' => e = .returned (.bool true) ∧ w = w' := by
  have c2 := h.c2
  have b : (d.fuse != 0) = true := by simpa using hf
  clear h hf
  go_enter Tryd.func19, Tryd.ntmps19
  go_wp2_with fail
  go_ret
  exact ⟨rfl, rfl⟩
theorem power_no (h : Dk w g gd gm d) (hf : d.fuse = 0) : Calls Tryd.prog 19 #[.pointer (some ⟨g, 0, none⟩)] w fun e w' => e = .returned (.bool false) ∧ w = w' := by
  have c2 := h.c2
  have b : (d.fuse != 0) = false := by simp [hf]
  clear h hf
  go_enter Tryd.func19, Tryd.ntmps19
  go_wp2_with fail
  go_ret
  exact ⟨rfl, rfl⟩
/-- one cell of the receiver is written -/
theorem Dk.setFuse (h : Dk w g gd gm d) {f : Int} (h1 : -1 ≤ f) (h2 : f ≤ 9223372036854775807) : Dk (w.setCell ⟨g, 2, none⟩ (.int .i64 f)) g gd gm { d with fuse := f } := by
  obtain ⟨a1, a2, a3⟩ := h.apart
  exact ⟨h.cells.set 2 _, h.dur.other _ (Ne.symm a1) _, h.wr.setCell a2 _, ⟨h.ok.len, h.ok.wlen, h.ok.within, h.ok.size, h1, h2⟩, h.small⟩
theorem Dk.setWrites (h : Dk w g gd gm d) {n : Nat} (hn : d.writes ≤ n) (hs : n ≤ 1000000) : Dk (w.setCell ⟨g, 3, none⟩ (.int .i64 n)) g gd gm { d with writes := n } := by
  obtain ⟨a1, a2, a3⟩ := h.apart
  exact ⟨h.cells.set 3 _, h.dur.other _ (Ne.symm a1) _, (h.wr.setCell a2 _).mono hn, ⟨h.ok.len, h.ok.wlen, h.ok.within, h.ok.size, h.ok.fuse1, h.ok.fuse2⟩, hs⟩
theorem fuse_any (h : Dk w g gd gm d) {n : Int} (h1 : -9223372036854775808 ≤ n) (h2 : n ≤ 9223372036854775807) : Calls Tryd.prog 32 #[.pointer (some ⟨g, 0, none⟩), .int .i64 n] w fun e w' => e = .returned (.tuple #[]) ∧ Dk w' g gd gm (fuseM d n) ∧ w.grownBy w' (some g) := by
  have c2 := h.c2
  have f2 := h.cells.free 2
  have HD := Lib.hid (h.setFuse (f := max n (-1)) (by omega) (by omega))
  clear h
  by_cases hn : -1 < n
  · have e : max n (-1) = n := by omega
    rw [e] at HD
    have HE := Lib.hid e
    clear e
    go_enter Tryd.func32, Tryd.ntmps32
    go_wp2_with fail
    go_end0
    exact ⟨rfl, by unfold fuseM; rw [HE.out]; exact HD.out, grownBy_setCell (grownBy_refl _ _) ⟨g, 2, none⟩ (.inl rfl) _⟩
  · have e : max n (-1) = -1 := by omega
    rw [e] at HD
    have HE := Lib.hid e
    clear e
    go_enter Tryd.func32, Tryd.ntmps32
    go_wp2_with fail
    all_goals go_end0
    all_goals refine ⟨rfl, ?_, grownBy_setCell (grownBy_refl _ _) ⟨g, 2, none⟩ (.inl rfl) _⟩
    all_goals unfold fuseM
    all_goals rw [HE.out]
    all_goals first
      | exact HD.out
      | (obtain rfl : n = -1 := by omega
         exact HD.out)
end
theorem madeSecs (n : Nat) : madeCells secZ (n * 64) = ((List.replicate n zero64).flatMap secC).toArray := by
  have hl : ∀ s ∈ List.replicate n zero64, s.length = 64 := fun s hs => by rw [(List.mem_replicate.1 hs).2, zero64_len]
  apply Array.ext'
  apply List.ext_getElem?
  intro i
  by_cases hi : i < n * 64
  · have hg := secs_get (List.replicate n zero64) hl (i / 64) (i % 64) zero64 (by rw [List.getElem?_replicate, if_pos (by omega)]) (by omega)
    rw [show i / 64 * 64 + i % 64 = i from by omega] at hg
    have hz : (secC zero64)[i % 64]? = some (.int .u8 0) := by
      unfold secC zero64
      rw [List.getElem?_map, List.getElem?_replicate, if_pos (by omega)]; rfl
    rw [hz] at hg
    have hm : i % 64 < 64 := by omega
    have hz' : secZ[i % 64]! = .int .u8 0 := by
      have : secZ[i % 64]? = some (.int .u8 0) := by unfold secZ; rw [List.getElem?_toArray]; exact hz
      rw [getElem!_def, this]
    rw [hg]
    simp only [madeCells, secZ_size, Array.toList_map, Array.toList_range, List.getElem?_map, List.getElem?_range hi, Option.map_some, hz']
  · rw [List.getElem?_eq_none (by rw [Array.length_toList, size_madeCells]; omega), List.getElem?_eq_none (by rw [List.toList_toArray, secs_len _ hl, List.length_replicate]; omega)]
theorem infoSecs : (Tryd.prog.info? 63).map (fun i => (i.zero, i.size, i.bytes)) = some (some (.agg secZ), 64, 64) := by kernel_rfl
/-- a new disk -/
def MadeDk (n : Nat) (w : World) (e : Ending) (w' : World) : Prop := ∃ g gd gm, e = .returned (.tuple #[.pointer (some ⟨g, 0, none⟩), .nilIface]) ∧ Dk w' g gd gm (Dm.new n) ∧ w.heap.size ≤ g ∧ w.heap.size ≤ gd ∧ w.heap.size ≤ gm ∧ Below w.heap.size w w'
set_option maxRecDepth 100000 in
theorem new_ok (n : Nat) (w : World) (h1 : 1 ≤ n) (h2 : n ≤ 1024) : Calls Tryd.prog 7 #[.int .i64 n] w (MadeDk n w) := by
  have b1 : ¬ (n : Int) < 1 := by omega
  have b2 : ¬ (n : Int) > 1024 := by omega
  obtain ⟨i, hi, hz0, hz1, hz2⟩ := info_parts infoSecs
  have hmk := run_make (P := Tryd.prog) w 57 63 i (.agg secZ) Tryd.underlying57 hi hz0 .i64 .i64 (n : Int) (n : Int) (by omega) (by omega) (by rw [hz2]; omega) (by omega)
  rw [hz1, Int.toNat_natCast, show (Value.agg secZ).cells = secZ from rfl, madeSecs] at hmk
  obtain ⟨C, hC⟩ : ∃ C, C = ((List.replicate n zero64).flatMap secC).toArray := ⟨_, rfl⟩
  rw [← hC] at hmk
  have HC := Lib.hid hC
  have hmm := @run_makeMap Tryd.prog
  clear hi hz0 hz1 hz2 hC
  go_enter Tryd.func7, Tryd.ntmps7
  go_wp2_with fail
  go_ret2
  have hb1 : Below w.heap.size w (w.alloc (.cells C 63)) := (Below.refl _ _).alloc (Nat.le_refl _) _
  refine ⟨w.heap.size + 1 + 1, w.heap.size, w.heap.size + 1, rfl, ⟨?_, ?_, ?_, Dm.new_ok h2, Nat.zero_le _⟩, by omega, by omega, by omega, (hb1.alloc (by simp) _).alloc (by simp; omega) _⟩
  · show CellsAt _ _ _ #[.slice (some ⟨w.heap.size, 0, none⟩) (List.replicate n zero64).length (List.replicate n zero64).length, _, _, _]
    rw [List.length_replicate]
    have := CellsAt.new ((w.alloc (.cells C 63)).alloc (.map #[] 0)) #[.slice (some ⟨w.heap.size, 0, none⟩) n n, .map (some (w.heap.size + 1)), .int .i64 (-1), .int .i64 0] 60
    simpa [Dm.new] using this
  · have h1 := CellsAt.new w C 63
    have h2 := (h1.stays ((Below.refl _ _).alloc (Nat.le_refl _) (.map #[] 0))).stays ((Below.refl _ _).alloc (Nat.le_refl _) (.cells #[.slice (some ⟨w.heap.size, 0, none⟩) n n, .map (some (w.heap.size + 1)), .int .i64 (-1), .int .i64 0] 60))
    rw [HC.out] at h2 ⊢
    exact h2
  · have h1 := (MapI.made Tryd.prog 3 (w.alloc (.cells C 63))).alloc (.cells #[.slice (some ⟨w.heap.size, 0, none⟩) n n, .map (some (w.heap.size + 1)), .int .i64 (-1), .int .i64 0] 60)
    simpa [Dm.new] using h1
end Go.Proofs.YtalebgnnlgcglaaDoor
