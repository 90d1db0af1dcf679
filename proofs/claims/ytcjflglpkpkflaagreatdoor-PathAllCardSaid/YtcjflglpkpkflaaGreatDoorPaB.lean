/- Paths: the parser's signs, figures and numbers. -/
import Derived.Test.YtcjflglpkpkflaaGreatDoorPaA
import Derived.Test.YtcjflglpkpkflaaGreatDoorStr
import Derived.Test.YtcjflglpkpkflaaGreatDoorGrew
import Derived.Test.YtcjflglpkpkflaaGreatDoorShelfP
import Derived.Lib.ParseIntBMem
import Derived.BigQuiet
import Derived.Deep.QuietTactic
import Derived.Deep.DeepCutAuto
namespace Go.Proofs.YtcjflglpkpkflaaGreatDoor
open Go Go.RowKit
set_option linter.unusedVariables false
theorem quietP_intro {P : Program} {C : World → Prop} {o : Oper} {a : Act} {K : Act → Prop} (v : Value) (h1 : ∀ w, C w → o.quietAt P a C w v) (h2 : K (a.put o.dst v)) : o.quiet P a C K := ⟨v, h1, h2⟩
theorem wp_region_quietP {P : Program} {C : World → Prop} {id : Nat} {Q : Exit → Act → World → Prop} {a : Act} {w : World} {l : List Oper} (hm : P.follows .mixedOrders = true) (hB : Region.lexB .any l.toArray = true) (hC : C w.drew)
    (h : wpQuiet P l.toArray C (fun a' => ∀ w', C w' → Q .normal a' w') l a) : (Code.region id l.toArray true).wp P Q a w := wp_region_quiet (C := C) hm hB hC (by simpa using h)
theorem pre_take (c : UInt8) (l : Bs) : Lib.hasPrefix l [c] = (takeS c l).isSome ∧ Lib.trimPrefix l [c] = (takeS c l).getD l := by
  cases l with
  | nil => exact ⟨rfl, rfl⟩
  | cons x l =>
    by_cases h : x = c
    · subst h; rw [takeS_hit]; exact ⟨by simp [Lib.hasPrefix], by simp [Lib.trimPrefix, Lib.hasPrefix]⟩
    · rw [takeS_miss h]
      have hp : Lib.hasPrefix (x :: l) [c] = false := by
        simp only [Lib.hasPrefix, List.isPrefixOf, Bool.and_true]
        exact beq_eq_false_iff_ne.2 (fun e => h e.symm)
      exact ⟨hp, by unfold Lib.trimPrefix; rw [hp]; rfl⟩
theorem takeS_len (c : UInt8) (l : Bs) : ((takeS c l).getD l).length ≤ l.length := by
  cases h : takeS c l with
  | none => exact Nat.le_refl _
  | some r => rw [takeS_some h]; simp
/-- a parser in memory: what is left, and whether it is none -/
abbrev PC (w : World) (g : Nat) (l : Bs) (b : Bool) : Prop := CellsAt w g 67 #[.string (strB l), .bool b]
theorem PC.left {w : World} {g : Nat} {l : Bs} {b : Bool} (h : PC w g l b) (l' : Bs) : PC (w.setCell ⟨g, 0, none⟩ (.string (strB l'))) g l' b := CellsAt.set h 0 (.string (strB l'))
theorem PC.turn {w : World} {g : Nat} {l : Bs} {b : Bool} (h : PC w g l b) (b' : Bool) : PC (w.setCell ⟨g, 1, none⟩ (.bool b')) g l b' := CellsAt.set h 1 (.bool b')
theorem Grew.one {g : Nat} {a w : World} (h : Grew [g] a w) (j : Nat) (u : Value) : Grew [g] a (w.setCell ⟨g, j, none⟩ u) := h.setCell (.inl (by simp)) u
theorem cutp_any (c : UInt8) (l : Bs) (w : World) : Calls Tryz.prog 69 #[.string (strB l), .string ⟨#[c]⟩] w fun e w' => e = .returned (.tuple #[.string (strB ((takeS c l).getD l)), .bool (takeS c l).isSome]) ∧ w' = w := by
  have h := Any.strings_CutPrefix Tryz.lays103 (strB l) ⟨#[c]⟩ w
  have e1 : (strB l).data.toList = l := by simp [strB]
  rw [e1, show (⟨#[c]⟩ : ByteArray).data.toList = [c] from rfl, (pre_take c l).1, (pre_take c l).2] at h
  exact h
set_option maxRecDepth 100000 in
set_option maxHeartbeats 1000000 in
theorem take_any {w : World} {g : Nat} {l : Bs} {b : Bool} (h : PC w g l b) (c : UInt8) : Calls Tryz.prog 49 #[.pointer (some ⟨g, 0, none⟩), .string ⟨#[c]⟩] w fun e w' =>
    e = .returned (.bool (takeS c l).isSome) ∧ PC w' g ((takeS c l).getD l) b ∧ Grew [g] w w' := by
  have HC := Lib.hid (cutp_any c l w)
  have c0 := CellsAt.cell h 0 (v := .string (strB l)) rfl
  have f0 := CellsAt.free h 0
  obtain ⟨R, hR⟩ : ∃ R, R = (takeS c l).getD l := ⟨_, rfl⟩
  obtain ⟨I, hI⟩ : ∃ I, I = (takeS c l).isSome := ⟨_, rfl⟩
  rw [← hR, ← hI] at HC ⊢
  have HP := Lib.hid (h.left R)
  clear h hR hI
  go_enter Tryz.func49, Tryz.ntmps49
  go_wp2_with fail
  refine HC.out.mono ?_
  rintro e w1 ⟨rfl, rfl⟩
  go_wp2_with fail
  go_ret
  exact ⟨rfl, HP.out, (Grew.refl _ _).one 0 _⟩
set_option maxRecDepth 100000 in
set_option maxHeartbeats 1000000 in
theorem must_any {w : World} {g : Nat} {l : Bs} {b : Bool} (h : PC w g l b) (c : UInt8) : Calls Tryz.prog 52 #[.pointer (some ⟨g, 0, none⟩), .string ⟨#[c]⟩] w fun e w' =>
    e = .returned (.tuple #[]) ∧ PC w' g ((takeS c l).getD l) ((takeS c l).isNone || b) ∧ Grew [g] w w' := by
  have HC := Lib.hid (take_any h c)
  clear h
  cases ht : takeS c l with
  | none =>
    rw [ht] at HC
    clear ht
    go_enter Tryz.func52, Tryz.ntmps52
    go_wp2_with fail
    refine HC.out.mono ?_
    rintro e w1 ⟨rfl, hc1, hg1⟩
    have c1 := CellsAt.cell hc1 1 (v := .bool b) rfl
    have f1 := CellsAt.free hc1 1
    have HP := Lib.hid (hc1.turn true)
    have HG := Lib.hid hg1
    clear hc1 hg1
    go_wp2_with fail
    go_end0
    exact ⟨rfl, HP.out, HG.out.one 1 _⟩
  | some r =>
    rw [ht] at HC
    clear ht
    go_enter Tryz.func52, Tryz.ntmps52
    go_wp2_with fail
    refine HC.out.mono ?_
    rintro e w1 ⟨rfl, hc1, hg1⟩
    have c1 := CellsAt.cell hc1 1 (v := .bool b) rfl
    have f1 := CellsAt.free hc1 1
    have HP := Lib.hid (hc1.turn b)
    have HG := Lib.hid hg1
    clear hc1 hg1
    go_wp2_with fail
    go_end0
    exact ⟨rfl, HP.out, HG.out.one 1 _⟩
/-! ### as many bytes as there are of some -/
def digS : Bs := [48, 49, 50, 51, 52, 53, 54, 55, 56, 57]
def hexS : Bs := [48, 49, 50, 51, 52, 53, 54, 55, 56, 57, 97, 98, 99, 100, 101, 102]
theorem dig_all : ((List.range 256).all fun n => digS.contains (UInt8.ofNat n) == isDg (UInt8.ofNat n)) = true := by decide +kernel
theorem hx_all : ((List.range 256).all fun n => hexS.contains (UInt8.ofNat n) == isHx (UInt8.ofNat n)) = true := by decide +kernel
theorem of_all {p q : UInt8 → Bool} (h : ((List.range 256).all fun n => p (UInt8.ofNat n) == q (UInt8.ofNat n)) = true) (c : UInt8) : p c = q c := by
  have h1 := List.all_eq_true.1 h c.toNat (List.mem_range.2 c.toNat_lt)
  have e : UInt8.ofNat c.toNat = c := UInt8.ofNat_toNat
  rw [e] at h1
  simpa using h1
theorem dig_is : (fun c => digS.contains c) = isDg := funext (of_all dig_all)
theorem hx_is : (fun c => hexS.contains c) = isHx := funext (of_all hx_all)
theorem infoSet : (Tryz.prog.info? 161).map (fun i => (i.zero, i.size)) = some (some (.agg (Array.replicate 256 (.bool false))), 256) := by kernel_rfl
theorem trim_any (S : Bs) (hS : S.all (fun b => decide (b.toNat < 128)) = true) (hl : S.length < 1000) (l : Bs) (w : World) : Calls Tryz.prog 92 #[.string (strB l), .string (strB S)] w fun e w' => e = .returned (.string (strB (l.dropWhile fun c => S.contains c))) ∧ Below w.heap.size w w' := by
  have e1 : (strB l).data.toList = l := by simp [strB]
  have e2 : (strB S).data.toList = S := by simp [strB]
  have h := Any.strings_TrimLeft_laid Tryz.lays161 infoSet (strB l) (strB S) w (by rw [strB_size]; omega) (by rw [e2]; exact ascii_of_all hS)
  rw [e1, e2] at h
  exact h
theorem len_tw (p : UInt8 → Bool) (l : Bs) : (l.takeWhile p).length + (l.dropWhile p).length = l.length := by rw [← List.length_append, List.takeWhile_append_dropWhile]
theorem strB_takeP (bs : Bs) (n : Nat) : (strB bs).extract 0 n = strB (bs.take n) := by
  apply ByteArray.ext
  simp [strB]
theorem strB_dropP (bs : Bs) (n : Nat) : (strB bs).extract n bs.length = strB (bs.drop n) := by
  apply ByteArray.ext
  simp [strB]
  rw [List.take_of_length_le (by simp)]
set_option maxRecDepth 100000 in
set_option maxHeartbeats 1000000 in
theorem run_any {w : World} {g : Nat} {l : Bs} {b : Bool} (h : PC w g l b) (hl : l.length ≤ 1000000) (S : Bs) (p : UInt8 → Bool) (hS : S.all (fun b => decide (b.toNat < 128)) = true) (hSl : S.length < 1000) (hp : (fun c => S.contains c) = p) :
    Calls Tryz.prog 72 #[.pointer (some ⟨g, 0, none⟩), .string (strB S)] w fun e w' => e = .returned (.string (strB (l.takeWhile p))) ∧ PC w' g (l.dropWhile p) b ∧ Grew [g] w w' := by
  have hlen := len_tw p l
  have HT : Hid (∀ W, Calls Tryz.prog 92 #[.string (strB l), .string (strB S)] W fun e w' => e = .returned (.string (strB (l.dropWhile p))) ∧ Below W.heap.size W w') := fun W => by
    have := trim_any S hS hSl l W
    rw [hp] at this
    exact this
  have htk : (strB l).extract 0 (l.takeWhile p).length = strB (l.takeWhile p) := by
    rw [strB_takeP]
    congr 1
    conv => lhs; rw [← List.takeWhile_append_dropWhile (p := p) (l := l)]
    rw [List.takeWhile_append_dropWhile]
    exact List.prefix_iff_eq_take.1 (List.takeWhile_prefix p) |>.symm
  have hdr : (strB l).extract (l.takeWhile p).length l.length = strB (l.dropWhile p) := by
    rw [strB_dropP]
    congr 1
    conv => lhs; rw [← List.takeWhile_append_dropWhile (p := p) (l := l)]
    rw [List.takeWhile_append_dropWhile]
    conv => lhs; arg 2; rw [← List.takeWhile_append_dropWhile (p := p) (l := l)]
    rw [List.drop_left']
    rfl
  have hsz : (strB l).size = l.length := strB_size l
  have hsz2 : (strB (l.dropWhile p)).size = (l.dropWhile p).length := strB_size _
  have HX : Hid (∀ W, Below w.heap.size w W → W.cell? ⟨g, 0, none⟩ = some (.string (strB l)) ∧ W.frozen? ⟨g, 0, none⟩ = false ∧ PC (W.setCell ⟨g, 0, none⟩ (.string (strB (l.dropWhile p)))) g (l.dropWhile p) b ∧ Grew [g] w (W.setCell ⟨g, 0, none⟩ (.string (strB (l.dropWhile p))))) := fun W hW =>
    ⟨(CellsAt.stays h hW).cell 0 rfl, (CellsAt.stays h hW).free 0, PC.left (CellsAt.stays h hW) _, (Grew.ofBelow hW).one 0 _⟩
  have hd0 : Below w.heap.size w w.drew := (Below.refl _ _).drew
  generalize l.takeWhile p = A at hlen htk hdr ⊢
  generalize l.dropWhile p = B at hlen hdr hsz2 HT HX ⊢
  generalize l.length = L at hlen hdr hsz hl
  generalize A.length = la at hlen htk hdr
  generalize B.length = lb at hlen hsz2
  have hw1 : IntKind.i64.wrap ((L : Int) - (lb : Int)) = (la : Int) := by rw [IntKind.wrap_i64]; omega
  have hlz : la ≤ L := by omega
  clear h
  go_enter Tryz.func72, Tryz.ntmps72
  go_upto_region 1 with fail
  refine wp_region_quietP (C := fun W => Below w.heap.size w W) (by kernel_rfl) (by kernel_rfl) hd0 ?_
  clear hd0
  repeat
    (first
       | go_big_quiet_skip
       | (go_big_quiet_want
          refine quietP_intro ?_ (fun wq hwq => ?_) ?_
          rotate_left
          focus
            (obtain ⟨c0, f0, -, -⟩ := HX.out _ hwq
             go_simp
             try first
               | with_reducible rfl
               | (exact hwq)
               | ((with_reducible refine (HT.out _).mono ?_); rintro e wA ⟨rfl, hbA⟩; refine ⟨?_, hwq.trans (hbA.mono hwq.size)⟩; with_reducible rfl))
          go_simp
          go_big_quiet_on))
  refine wpQuiet_nil ?_
  intro W1 hb1
  obtain ⟨c0, f0, k1, k2⟩ := HX.out _ hb1
  have HK1 := Lib.hid k1
  have HK2 := Lib.hid k2
  clear k1 k2 HT HX hb1
  go_wp2_with fail
  go_ret
  exact ⟨rfl, HK1.out, HK2.out⟩
/-! ### numbers -/
/-- the library's two errors of numbers lie in their variables -/
def ErrsN (w : World) : Prop := (∃ a, ErrAt w 3 a) ∧ ∃ a, ErrAt w 4 a
theorem ErrsN.stays {w w' : World} (h : ErrsN w) (hb : Below w.heap.size w w') : ErrsN w' := ⟨h.1.elim fun a h => ⟨a, h.stays hb⟩, h.2.elim fun a h => ⟨a, h.stays hb⟩⟩
theorem pc_err {w : World} {g k : Nat} {l : Bs} {b : Bool} {a : Addr} (h : PC w g l b) (he : ErrAt w k a) : k ∉ [g] := by
  intro hm
  obtain rfl := List.mem_singleton.1 hm
  have c0 := CellsAt.cell h 0 (v := .string (strB l)) rfl
  unfold ErrAt at he
  rw [c0] at he
  cases he
theorem ErrsN.grew {w w' : World} {g : Nat} {l : Bs} {b : Bool} (h : ErrsN w) (hp : PC w g l b) (hg : Grew [g] w w') : ErrsN w' :=
  ⟨h.1.elim fun a h => ⟨a, h.grew hg (pc_err hp h)⟩, h.2.elim fun a h => ⟨a, h.grew hg (pc_err hp h)⟩⟩
theorem parse64_any {w : World} (h : ErrsN w) (s : Bs) (hs : s.length ≤ 1000000) : Calls Tryz.prog 91 #[.string (strB s), .int .i64 10, .int .i64 64] w fun e w' =>
    (match Lib.parseUintB 64 s with
      | .ok u => e = .returned (.tuple #[.int .u64 (u : Int), .nilIface])
      | _ => ∃ (u N : Nat), u < 18446744073709551616 ∧ e = .returned (.tuple #[.int .u64 (u : Int), .iface 173 (.pointer (some ⟨N, 0, none⟩))])) ∧ Below w.heap.size w w' := by
  have hsz : (strB s).size = s.length := strB_size s
  have hdl : (strB s).data.toList = s := by simp [strB]
  obtain ⟨⟨aS, hS⟩, ⟨aR, hR⟩⟩ := h
  unfold ErrAt at hS hR
  cases hp : Lib.parseUintB 64 s with
  | ok u =>
    exact (Any.strconv_ParseUint_10_at64_ok Tryz.laysPu14 (strB s) (by rw [hsz]; omega) u (by rw [hdl]; exact hp) w).mono fun e w' ⟨h1, h2⟩ => ⟨h1, by
      rcases h2 with rfl | rfl
      · exact Below.refl _ _
      · exact Lib.bytesWorld_below _ _ _⟩
  | _ =>
    first
      | exact (Any.strconv_ParseUint_10_at64_syntax Tryz.laysPu14 (strB s) (by rw [hsz]; omega) (by rw [hdl]; exact hp) _ w hS (.inr ⟨_, _, rfl⟩)).mono fun e w' ⟨N, h3, _, _, h4⟩ => ⟨⟨0, N, by decide, h3⟩, h4⟩
      | exact (Any.strconv_ParseUint_10_at64_range Tryz.laysPu14 (strB s) (by rw [hsz]; omega) (by rw [hdl]; exact hp) _ w hR (.inr ⟨_, _, rfl⟩)).mono fun e w' ⟨N, h3, _, _, h4⟩ => ⟨⟨18446744073709551615, N, by decide, h3⟩, h4⟩
def numOk (o : Option (Nat × Bs)) (u : Nat) (b' b : Bool) (r : Bs) : Prop := match o with | some (n, r') => u = n ∧ b' = b ∧ r' = r | none => b' = true
/-- what number answers -/
def NumP (o : Option (Nat × Bs)) (b : Bool) (g : Nat) (r : Bs) (w : World) (e : Ending) (w' : World) : Prop :=
  ∃ (u : Nat) (b' : Bool), e = .returned (.int .u64 (u : Int)) ∧ u < 18446744073709551616 ∧ PC w' g r b' ∧ Grew [g] w w' ∧ numOk o u b' b r
theorem NumP.bad {b : Bool} {g u : Nat} {r : Bs} {w w' : World} (hu : u < 18446744073709551616) (h : PC w' g r true) (hg : Grew [g] w w') : NumP none b g r w (.returned (.int .u64 (u : Int))) w' := ⟨u, true, rfl, hu, h, hg, rfl⟩
theorem NumP.good {b : Bool} {g u : Nat} {r : Bs} {w w' : World} (hu : u < 18446744073709551616) (h : PC w' g r b) (hg : Grew [g] w w') : NumP (some (u, r)) b g r w (.returned (.int .u64 (u : Int))) w' := ⟨u, b, rfl, hu, h, hg, rfl, rfl, rfl⟩
set_option maxRecDepth 100000 in
set_option maxHeartbeats 2000000 in
theorem number_any {w : World} {g : Nat} {l : Bs} {b : Bool} (hE : ErrsN w) (h : PC w g l b) (hl : l.length ≤ 1000000) :
    Calls Tryz.prog 70 #[.pointer (some ⟨g, 0, none⟩)] w (NumP (numP l) b g (l.dropWhile isDg) w) := by
  have HRun : Hid (Calls Tryz.prog 72 #[.pointer (some ⟨g, 0, none⟩), .string ⟨#[48, 49, 50, 51, 52, 53, 54, 55, 56, 57]⟩] w fun e w' => e = .returned (.string (strB (l.takeWhile isDg))) ∧ PC w' g (l.dropWhile isDg) b ∧ Grew [g] w w') := run_any h hl digS isDg rfl (by decide) dig_is
  have hlen := len_tw isDg l
  have HEr : Hid (∀ W, Grew [g] w W → ErrsN W) := fun W hW => hE.grew h hW
  have HNP : Hid (numP l = match Lib.parseUintB 64 (l.takeWhile isDg) with
    | .ok u => if (l.takeWhile isDg).length ≤ 1 ∨ (l.takeWhile isDg).head? ≠ some 48 then some (u, l.dropWhile isDg) else none
    | _ => none) := rfl
  clear h hE
  generalize numP l = NP at HNP ⊢
  generalize l.takeWhile isDg = s at HRun HNP hlen
  generalize l.dropWhile isDg = r at HRun HNP hlen ⊢
  have hs : s.length ≤ 1000000 := by omega
  have hsz : (strB s).size = s.length := strB_size s
  clear hlen hl
  have HU : Hid (∀ W, ErrsN W → Calls Tryz.prog 91 #[.string (strB s), .int .i64 10, .int .i64 64] W fun e w' =>
    (match Lib.parseUintB 64 s with
      | .ok u => e = .returned (.tuple #[.int .u64 (u : Int), .nilIface])
      | _ => ∃ (u N : Nat), u < 18446744073709551616 ∧ e = .returned (.tuple #[.int .u64 (u : Int), .iface 173 (.pointer (some ⟨N, 0, none⟩))])) ∧ Below W.heap.size W w') := fun W hW => parse64_any hW s hs
  have HTurn : Hid (∀ W, PC W g r b → Grew [g] w W → W.cell? ⟨g, 1, none⟩ = some (.bool b) ∧ W.frozen? ⟨g, 1, none⟩ = false ∧ PC (W.setCell ⟨g, 1, none⟩ (.bool true)) g r true ∧ Grew [g] w (W.setCell ⟨g, 1, none⟩ (.bool true))) := fun W h1 h2 => ⟨CellsAt.cell h1 1 rfl, CellsAt.free h1 1, h1.turn true, h2.one 1 _⟩
  cases hp : Lib.parseUintB 64 s with
  | ok u =>
    rw [hp] at HU HNP
    have hu := Lib.parseUintB_le hp
    have hu2 : u < 18446744073709551616 := by omega
    have HU2 := Lib.hid hu2
    have hne : s ≠ [] := fun e => by subst e; exact absurd hp (by simp [Lib.parseUintB])
    obtain ⟨c, t, hct⟩ := List.exists_cons_of_ne_nil hne
    have HIX : Hid (∀ h, (strB s)[0]'h = c) := by subst hct; exact fun _ => rfl
    have hhd : s.head? = some c := by rw [hct]; rfl
    clear hct hne hu hu2 hp
    by_cases h1 : 1 < s.length
    · have H1 := Lib.hid h1
      by_cases h48 : c = 48
      · have HN : Hid (NP = none) := by
          show _ = _
          rw [HNP.out]
          simp only
          rw [if_neg (fun h => by
            rcases h with h | h
            · omega
            · exact h (by rw [hhd, h48]))]
        have HBI : Hid (((c.toNat : Nat) : Int) = 48) := by show _ = _; rw [h48]; decide
        rw [HN.out]
        clear HNP HN hhd h48 h1
        go_enter Tryz.func70, Tryz.ntmps70
        go_wp2_with fail
        refine HRun.out.mono ?_
        rintro e w1 ⟨rfl, hc1, hg1⟩
        have HC := Lib.hid (HU.out _ (HEr.out _ hg1))
        have HC1 := Lib.hid hc1
        have HG1 := Lib.hid hg1
        clear HRun HU HEr hc1 hg1
        go_wp2_with fail
        refine HC.out.mono ?_
        rintro e w2 ⟨rfl, hb2⟩
        have h1 := H1.out
        have hix := HIX.out
        have hbi := HBI.out
        obtain ⟨c1, f1, k1, k2⟩ := HTurn.out _ (CellsAt.stays HC1.out hb2) (HG1.out.add hb2)
        have HK1 := Lib.hid k1
        have HK2 := Lib.hid k2
        clear k1 k2 HC HTurn hb2
        go_wp2_with fail
        go_ret
        exact NumP.bad HU2.out HK1.out HK2.out
      · have HN : Hid (NP = some (u, r)) := by
          show _ = _
          rw [HNP.out]
          simp only
          rw [if_pos (.inr (by rw [hhd]; simpa using h48))]
        have HBI : Hid (((c.toNat : Nat) : Int) ≠ 48) := by
          show _ ≠ _
          intro h
          exact h48 (UInt8.toNat.inj (show c.toNat = 48 by omega))
        rw [HN.out]
        clear HNP HN hhd h48 h1
        go_enter Tryz.func70, Tryz.ntmps70
        go_wp2_with fail
        refine HRun.out.mono ?_
        rintro e w1 ⟨rfl, hc1, hg1⟩
        have HC := Lib.hid (HU.out _ (HEr.out _ hg1))
        have HC1 := Lib.hid hc1
        have HG1 := Lib.hid hg1
        clear HRun HU HEr hc1 hg1
        go_wp2_with fail
        refine HC.out.mono ?_
        rintro e w2 ⟨rfl, hb2⟩
        have h1 := H1.out
        have hix := HIX.out
        have hbi := HBI.out
        have hbj : (((c.toNat : Nat) : Int) == 48) = false := by simpa using hbi
        have HK1 := Lib.hid (CellsAt.stays HC1.out hb2)
        have HK2 := Lib.hid (HG1.out.add hb2)
        clear HC HTurn hb2
        go_wp2_with fail
        go_ret
        exact NumP.good HU2.out HK1.out HK2.out
    · have HN : Hid (NP = some (u, r)) := by
        show _ = _
        rw [HNP.out]
        simp only
        rw [if_pos (.inl (by omega))]
      have H1 := Lib.hid h1
      rw [HN.out]
      clear HNP HN hhd h1
      go_enter Tryz.func70, Tryz.ntmps70
      go_wp2_with fail
      refine HRun.out.mono ?_
      rintro e w1 ⟨rfl, hc1, hg1⟩
      have HC := Lib.hid (HU.out _ (HEr.out _ hg1))
      have HC1 := Lib.hid hc1
      have HG1 := Lib.hid hg1
      clear HRun HU HEr hc1 hg1
      go_wp2_with fail
      refine HC.out.mono ?_
      rintro e w2 ⟨rfl, hb2⟩
      have h1 := H1.out
      have HK1 := Lib.hid (CellsAt.stays HC1.out hb2)
      have HK2 := Lib.hid (HG1.out.add hb2)
      clear HC HTurn hb2
      go_wp2_with fail
      go_ret
      exact NumP.good HU2.out HK1.out HK2.out
  | _ =>
    rw [hp] at HU HNP
    have HN : Hid (NP = none) := HNP.out
    rw [HN.out]
    clear HNP HN hp
    go_enter Tryz.func70, Tryz.ntmps70
    go_wp2_with fail
    refine HRun.out.mono ?_
    rintro e w1 ⟨rfl, hc1, hg1⟩
    have HC := Lib.hid (HU.out _ (HEr.out _ hg1))
    have HC1 := Lib.hid hc1
    have HG1 := Lib.hid hg1
    clear HRun HU HEr hc1 hg1
    go_wp2_with fail
    refine HC.out.mono ?_
    rintro e w2 ⟨⟨u, N, hu, rfl⟩, hb2⟩
    have HU2 := Lib.hid hu
    obtain ⟨c1, f1, k1, k2⟩ := HTurn.out _ (CellsAt.stays HC1.out hb2) (HG1.out.add hb2)
    have HK1 := Lib.hid k1
    have HK2 := Lib.hid k2
    clear k1 k2 HC HTurn hb2 hu
    go_wp2_with fail
    go_ret
    exact NumP.bad HU2.out HK1.out HK2.out
/-- what small answers -/
def SmallP (o : Option (Nat × Bs)) (b : Bool) (g : Nat) (r : Bs) (w : World) (e : Ending) (w' : World) : Prop :=
  ∃ (u : Nat) (b' : Bool), e = .returned (.int .i64 (u : Int)) ∧ u ≤ 1073741824 ∧ PC w' g r b' ∧ Grew [g] w w' ∧ numOk o u b' b r
set_option maxRecDepth 100000 in
set_option maxHeartbeats 2000000 in
theorem small_any {w : World} {g : Nat} {l : Bs} {b : Bool} (hE : ErrsN w) (h : PC w g l b) (hl : l.length ≤ 1000000) :
    Calls Tryz.prog 50 #[.pointer (some ⟨g, 0, none⟩)] w (SmallP (smallP l) b g (l.dropWhile isDg) w) := by
  have HNum := Lib.hid (number_any hE h hl)
  have HSm : Hid (smallP l = match numP l with
    | some (u, r) => if u ≤ 1073741824 then some (u, r) else none
    | none => none) := rfl
  clear h hE hl
  generalize smallP l = SP at HSm ⊢
  generalize numP l = NP at HNum HSm
  generalize l.dropWhile isDg = r at HNum ⊢
  go_enter Tryz.func50, Tryz.ntmps50
  go_wp2_with fail
  refine HNum.out.mono ?_
  rintro e w1 ⟨u, b', rfl, hu, hc, hg, ho⟩
  have HG := Lib.hid hg
  by_cases h30 : u ≤ 1073741824
  · have t1 : decide ((1073741824 : Int) < (u : Int)) = false := decide_eq_false (by omega)
    have hw1 : IntKind.i64.wrap (u : Int) = u := by rw [IntKind.wrap_i64]; omega
    have HO : Hid (numOk SP u b' b r) := by
      show numOk SP u b' b r
      rw [HSm.out]
      cases NP with
      | none => exact ho
      | some p =>
        obtain ⟨n, r'⟩ := p
        obtain ⟨rfl, h2, h3⟩ := show u = n ∧ b' = b ∧ r' = r from ho
        simp only
        rw [if_pos h30]
        exact ⟨rfl, h2, h3⟩
    have HC := Lib.hid hc
    have HU := Lib.hid h30
    clear HNum HSm ho hu hc hg h30
    go_wp2_with fail
    go_ret
    exact ⟨u, b', rfl, HU.out, HC.out, HG.out, HO.out⟩
  · have t1 : decide ((1073741824 : Int) < (u : Int)) = true := decide_eq_true (by omega)
    have HO : Hid (SP = none) := by
      show _ = _
      rw [HSm.out]
      cases NP with
      | none => rfl
      | some p =>
        obtain ⟨n, r'⟩ := p
        obtain ⟨rfl, h2, h3⟩ := show u = n ∧ b' = b ∧ r' = r from ho
        simp only
        rw [if_neg h30]
    have c1 := CellsAt.cell hc 1 (v := .bool b') rfl
    have f1 := CellsAt.free hc 1
    have HC := Lib.hid (hc.turn true)
    clear HNum HSm ho hu hc hg h30
    go_wp2_with fail
    go_ret
    exact ⟨0, true, rfl, by decide, HC.out, HG.out.one 1 _, by rw [HO.out]; rfl⟩
end Go.Proofs.YtcjflglpkpkflaaGreatDoor
