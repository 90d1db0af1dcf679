/- The walks of three.kind and of the walker's methods. -/
import Derived.Test.YtidfjemblidjkaaThB
import Derived.Test.YtidfjemblidjkaaInts
import Derived.BigQuiet
import Derived.Deep.QuietTactic
namespace Go.Proofs.Ytidfjemblidjkaa
open Go Go.RowKit
set_option linter.unusedVariables false
theorem below_drewN' {B n : Nat} {w w' : World} (h : Below B w w') : Below B w (w'.drewN n) := ⟨h.os, h.tape, h.output, h.size, h.block⟩
theorem drop_some {l : List Int} {i : Nat} {P : Int} (h : l[i]? = some P) : l.drop i = P :: l.drop (i + 1) := by
  have h1 := List.getElem?_eq_some_iff.1 h
  rw [List.drop_eq_getElem_cons h1.1, h1.2]
set_option maxRecDepth 100000 in
set_option maxHeartbeats 2000000 in
theorem kind_any (vo va vb : Value) (o a b : List Int) (w : World) (ho : RowZ w vo o) (ha : RowZ w va a) (hb : RowZ w vb b) (hlo : o.length ≤ 1000) (hla : a.length ≤ 1000) (hlb : b.length ≤ 1000) :
    Calls Try.prog 45 #[vo, va, vb] w fun e w' => e = .returned (.int .i64 (kindV o a b)) ∧ Below w.heap.size w w' := by
  have H1 := Lib.hid (equalZ_any va vb a b w ha hb (by omega) (by omega))
  have H2 : Hid (∀ w', Below w.heap.size w w' → _) := fun w' h => equalZ_any va vo a o w' (ha.stays h) (ho.stays h) (by omega) (by omega)
  have H3 : Hid (∀ w', Below w.heap.size w w' → _) := fun w' h => equalZ_any vb vo b o w' (hb.stays h) (ho.stays h) (by omega) (by omega)
  clear ho ha hb
  by_cases e1 : a = b
  · have HK : Hid (kindV o a b = 4) := if_pos e1
    rw [eqB_yes e1] at H1
    clear e1
    go_enter Try.func45, Try.ntmps45
    go_wp2_with fail
    refine H1.out.mono ?_
    rintro e w1 ⟨rfl, hb1⟩
    go_wp2_with fail
    go_ret
    exact ⟨ret1 (by rw [HK.out]; rfl), hb1⟩
  · rw [eqB_no e1] at H1
    by_cases e2 : a = o
    · have HK : Hid (kindV o a b = 3) := by show _ = _; unfold kindV; rw [if_neg e1, if_pos e2]
      have E2 := Lib.hid (eqB_yes e2)
      clear e1 e2
      go_enter Try.func45, Try.ntmps45
      go_wp2_with fail
      refine H1.out.mono ?_
      rintro e w1 ⟨rfl, hb1⟩
      have h2 := H2.out w1 hb1
      rw [E2.out] at h2
      have H2' := Lib.hid h2
      clear h2
      go_wp2_with fail
      refine H2'.out.mono ?_
      rintro e w2 ⟨rfl, hb2⟩
      go_wp2_with fail
      go_ret
      exact ⟨ret1 (by rw [HK.out]; rfl), hb1.trans (hb2.mono hb1.size)⟩
    · have E2 := Lib.hid (eqB_no e2)
      by_cases e3 : b = o
      · have HK : Hid (kindV o a b = 2) := by show _ = _; unfold kindV; rw [if_neg e1, if_neg e2, if_pos e3]
        have E3 := Lib.hid (eqB_yes e3)
        clear e1 e2 e3
        go_enter Try.func45, Try.ntmps45
        go_wp2_with fail
        refine H1.out.mono ?_
        rintro e w1 ⟨rfl, hb1⟩
        have h2 := H2.out w1 hb1
        rw [E2.out] at h2
        have H2' := Lib.hid h2
        clear h2
        go_wp2_with fail
        refine H2'.out.mono ?_
        rintro e w2 ⟨rfl, hb2⟩
        have hb12 := hb1.trans (hb2.mono hb1.size)
        have h3 := H3.out w2 hb12
        rw [E3.out] at h3
        have H3' := Lib.hid h3
        clear h3 hb1 hb2
        go_wp2_with fail
        refine H3'.out.mono ?_
        rintro e w3 ⟨rfl, hb3⟩
        go_wp2_with fail
        go_ret
        exact ⟨ret1 (by rw [HK.out]; rfl), hb12.trans (hb3.mono hb12.size)⟩
      · have HK : Hid (kindV o a b = 5) := by show _ = _; unfold kindV; rw [if_neg e1, if_neg e2, if_neg e3]
        have E3 := Lib.hid (eqB_no e3)
        clear e1 e2 e3
        go_enter Try.func45, Try.ntmps45
        go_wp2_with fail
        refine H1.out.mono ?_
        rintro e w1 ⟨rfl, hb1⟩
        have h2 := H2.out w1 hb1
        rw [E2.out] at h2
        have H2' := Lib.hid h2
        clear h2
        go_wp2_with fail
        refine H2'.out.mono ?_
        rintro e w2 ⟨rfl, hb2⟩
        have hb12 := hb1.trans (hb2.mono hb1.size)
        have h3 := H3.out w2 hb12
        rw [E3.out] at h3
        have H3' := Lib.hid h3
        clear h3 hb1 hb2
        go_wp2_with fail
        refine H3'.out.mono ?_
        rintro e w3 ⟨rfl, hb3⟩
        go_wp2_with fail
        go_ret
        exact ⟨ret1 (by rw [HK.out]; rfl), hb12.trans (hb3.mono hb12.size)⟩
/-- a walker in block g, and how far it has come -/
def WkAt (w : World) (gw : Nat) (vo va vb vf vg : Value) (x y z : Nat) : Prop := CellsAt w gw 70 #[vo, va, vb, vf, vg, .int .i64 x, .int .i64 y, .int .i64 z]
section
variable (gw : Nat) (vo va vb vf vg : Value) (o a b f g : List Int) (x y z : Nat) (w : World) (hW : WkAt w gw vo va vb vf vg x y z)
  (ho : RowZ w vo o) (ha : RowZ w va a) (hb : RowZ w vb b) (hf : RowZ w vf f) (hg : RowZ w vg g) (hlo : o.length ≤ 100) (hla : a.length ≤ 100) (hlb : b.length ≤ 100) (hlf : f.length = o.length) (hlg : g.length = o.length) (hx : x ≤ 100) (hy : y ≤ 100) (hz : z ≤ 100)
include hW ho ha hb hf hg hlo hla hlb hlf hlg hx hy hz
set_option maxRecDepth 100000 in
set_option maxHeartbeats 8000000 in
omit ha hb hla hlb in
theorem stable_any : Calls Try.prog 42 #[.pointer (some ⟨gw, 0, none⟩)] w fun e w' => e = .returned (.int .i64 (stb f g x y z : Nat)) ∧ Below w.heap.size w w' := by
  obtain ⟨aof, cof, rfl, -, -⟩ := ho.gen.shape
  obtain ⟨af, cf, rfl, -, hif⟩ := hf.gen.shape
  obtain ⟨ag, cg, rfl, -, hig⟩ := hg.gen.shape
  have HIF := Lib.hid hif
  have HIG := Lib.hid hig
  have HW := Lib.hid hW
  have HLF := Lib.hid hlf
  have HLG := Lib.hid hlg
  clear ho hf hg hif hig hW
  go_enter Try.func42, Try.ntmps42
  go_wp2_with fail
  go_loopw [3] (fun v wr => ∃ n : Nat, x + n ≤ 100 + o.length ∧ n ≤ 100 ∧ v = .int .i64 n ∧ Hid (n + stabL (f.drop (x + n)) (g.drop (x + n)) ((y + n : Nat) : Int) ((z + n : Nat) : Int) = stb f g x y z) ∧ Below w.heap.size w wr) (fun v _ => 200 - (intOf v).toNat)
  case atStart => exact ⟨0, by omega, by omega, rfl, by show _ = _; simp [stb], Below.refl _ _⟩
  case round =>
    obtain ⟨n, hn, hn2, rfl, HS, hbe⟩ := hrel
    have hcw := CellsAt.stays HW.out hbe
    have c0 := hcw.cell 0 rfl
    have c3 := hcw.cell 3 rfl
    have c4 := hcw.cell 4 rfl
    have c5 := hcw.cell 5 (v := .int .i64 x) rfl
    have c6 := hcw.cell 6 (v := .int .i64 y) rfl
    have c7 := hcw.cell 7 (v := .int .i64 z) rfl
    obtain ⟨I, hI⟩ : ∃ I, I = x + n := ⟨_, rfl⟩
    obtain ⟨J, hJ⟩ : ∃ J, J = y + n := ⟨_, rfl⟩
    obtain ⟨K, hK⟩ : ∃ K, K = z + n := ⟨_, rfl⟩
    have q1 : (x : Int) + n = (I : Int) := by omega
    have q2 : (y : Int) + n = (J : Int) := by omega
    have q3 : (z : Int) + n = (K : Int) := by omega
    rw [← hI, ← hJ, ← hK] at HS
    have HI := Lib.hid hI
    have HJ := Lib.hid hJ
    have HK := Lib.hid hK
    have hI2 : (I : Int) ≤ 300 := by omega
    have hJ2 : (J : Int) ≤ 300 := by omega
    have hK2 : (K : Int) ≤ 300 := by omega
    clear hcw hI hJ hK
    have w1 : IntKind.i64.wrap ((x : Int) + n) = I := by rw [q1]; exact IntWalk.i64_in _ (by omega)
    have w2 : IntKind.i64.wrap ((y : Int) + n) = J := by rw [q2]; exact IntWalk.i64_in _ (by omega)
    have w3 : IntKind.i64.wrap ((z : Int) + n) = K := by rw [q3]; exact IntWalk.i64_in _ (by omega)
    by_cases h1 : I < o.length
    · have e1 : decide ((I : Int) < o.length) = true := decide_eq_true (by omega)
      have e1' : decide (I < o.length) = true := decide_eq_true h1
      have hIf : I < f.length := by have := HLF.out; omega
      have hIg : I < g.length := by have := HLG.out; omega
      obtain ⟨gf, of', rfl, hcf⟩ := HIF.out I _ (List.getElem?_eq_getElem hIf)
      obtain ⟨gg, og, rfl, hcg⟩ := HIG.out I _ (List.getElem?_eq_getElem hIg)
      have d3 : wr.cell? ⟨gf, of' + I, none⟩ = some (.int .i64 f[I]) := cell_below hbe hcf
      have d4 : wr.cell? ⟨gg, og + I, none⟩ = some (.int .i64 g[I]) := cell_below hbe hcg
      have hfx : f.drop I = f[I] :: f.drop (I + 1) := List.drop_eq_getElem_cons _
      have hgx : g.drop I = g[I] :: g.drop (I + 1) := List.drop_eq_getElem_cons _
      rw [hfx, hgx] at HS
      have HFL : Hid (I < f.length) := hIf
      have HGL : Hid (I < g.length) := hIg
      clear hcf hcg hfx hgx
      generalize f[I] = P at d3 HS
      generalize g[I] = Q at d4 HS
      by_cases h2 : P = (J : Int)
      · have e2 : (P == (J : Int)) = true := by simp [h2]
        by_cases h3 : Q = (K : Int)
        · have e3 : (Q == (K : Int)) = true := by simp [h3]
          have HN : Hid (n + 1 + stabL (f.drop (x + (n + 1))) (g.drop (x + (n + 1))) ((y + (n + 1) : Nat) : Int) ((z + (n + 1) : Nat) : Int) = stb f g x y z) := by
            show _ = _
            have h5 := HS.out
            have h6 := HI.out
            have h7 := HJ.out
            have h8 := HK.out
            rw [stabL, if_pos ⟨h2, h3⟩] at h5
            rw [show x + (n + 1) = I + 1 from by omega, show ((y + (n + 1) : Nat) : Int) = (J : Int) + 1 from by omega, show ((z + (n + 1) : Nat) : Int) = (K : Int) + 1 from by omega]
            omega
          have hn3 : n + 1 ≤ 100 := by have := HI.out; omega
          have hn4 : x + (n + 1) ≤ 100 + o.length := by have := HI.out; omega
          clear h2 h3 HS q1 q2 q3
          go_wp2_with fail
          go_quiet (fail)
          go_wp2_with fail
          go_roundw
          case rel => exact ⟨n + 1, hn4, hn3, by go_num, HN, below_drewN' hbe⟩
          case measure => simp only [intOf]; omega
        · have e3 : (Q == (K : Int)) = false := by simpa using h3
          have HN : Hid (stb f g x y z = n) := by
            show _ = _
            have h5 := HS.out
            rw [stabL, if_neg (fun h => h3 h.2)] at h5
            omega
          clear h2 h3 HS q1 q2 q3
          go_wp2_with fail
          go_quiet (fail)
          go_wp2_with fail
          go_ret
          exact ⟨ret1 (by rw [HN.out]; rfl), below_drewN' hbe⟩
      · have e2 : (P == (J : Int)) = false := by simpa using h2
        have HN : Hid (stb f g x y z = n) := by
          show _ = _
          have h5 := HS.out
          rw [stabL, if_neg (fun h => h2 h.1)] at h5
          omega
        clear h2 HS q1 q2 q3
        go_wp2_with fail
        go_quiet (fail)
        go_wp2_with fail
        go_ret
        exact ⟨ret1 (by rw [HN.out]; rfl), below_drewN' hbe⟩
    · have e1 : decide ((I : Int) < o.length) = false := decide_eq_false (by omega)
      have e1' : decide (I < o.length) = false := decide_eq_false h1
      have HN : Hid (stb f g x y z = n) := by
        show _ = _
        have h5 := HS.out
        have h6 := HLF.out
        rw [List.drop_of_length_le (show f.length ≤ I by omega)] at h5
        simp [stabL] at h5
        omega
      clear HS q1 q2 q3
      go_wp2_with fail
      go_quiet (fail)
      go_wp2_with fail
      go_ret
      exact ⟨ret1 (by rw [HN.out]; rfl), below_drewN' hbe⟩
set_option maxRecDepth 100000 in
set_option maxHeartbeats 8000000 in
omit hla hlb hy hz in
theorem next_any (hF : Fel o a f) (hG : Fel o b g) (hAt : At o a b f g x y z) : Calls Try.prog 44 #[.pointer (some ⟨gw, 0, none⟩)] w fun e w' => e = .returned (.tuple #[.int .i64 ((nxt o a b f g x).1 : Nat), .int .i64 ((nxt o a b f g x).2.1 : Nat), .int .i64 ((nxt o a b f g x).2.2 : Nat)]) ∧ Below w.heap.size w w' := by
  have HNG : Hid (nxi f g x < o.length → _) := nxi_get hF hG hAt
  have hxo := hAt.hx
  have HLL := Lib.hid (nxi_le hF hAt)
  have HFL := Lib.hid hF
  have HGL := Lib.hid hG
  obtain ⟨aof, cof, rfl, -, -⟩ := ho.gen.shape
  obtain ⟨aaf, caf, rfl, -, -⟩ := ha.gen.shape
  obtain ⟨abf, cbf, rfl, -, -⟩ := hb.gen.shape
  obtain ⟨af, cf, rfl, -, hif⟩ := hf.gen.shape
  obtain ⟨ag, cg, rfl, -, hig⟩ := hg.gen.shape
  have HIF := Lib.hid hif
  have HIG := Lib.hid hig
  have HW := Lib.hid hW
  have HLF := Lib.hid hlf
  have HLG := Lib.hid hlg
  clear ho ha hb hf hg hif hig hW hF hG hAt
  have c5 := HW.out.cell 5 (v := .int .i64 x) rfl
  go_enter Try.func44, Try.ntmps44
  go_wp2_with fail
  clear c5
  go_loopw [5] (fun v wr => ∃ i : Nat, x ≤ i ∧ i ≤ o.length ∧ v = .int .i64 i ∧ Hid (i + leadL (f.drop i) (g.drop i) = nxi f g x) ∧ Below w.heap.size w wr) (fun v _ => o.length - (intOf v).toNat)
  case atStart => exact ⟨x, Nat.le_refl _, hxo, rfl, rfl, Below.refl _ _⟩
  case round =>
    obtain ⟨i, hxi, hio, rfl, HS, hbe⟩ := hrel
    have hcw := CellsAt.stays HW.out hbe
    have c0 := hcw.cell 0 rfl
    have c1 := hcw.cell 1 rfl
    have c2 := hcw.cell 2 rfl
    have c3 := hcw.cell 3 rfl
    have c4 := hcw.cell 4 rfl
    clear hcw
    by_cases h1 : i < o.length
    · have e1 : decide ((i : Int) < o.length) = true := decide_eq_true (by omega)
      have e1' : decide (i < o.length) = true := decide_eq_true h1
      obtain ⟨P, hP⟩ : ∃ P, f[i]? = some P := ⟨_, List.getElem?_eq_getElem (by have := HLF.out; omega)⟩
      obtain ⟨Q, hQ⟩ : ∃ Q, g[i]? = some Q := ⟨_, List.getElem?_eq_getElem (by have := HLG.out; omega)⟩
      obtain ⟨gf, of', rfl, hcf⟩ := HIF.out i P hP
      obtain ⟨gg, og, rfl, hcg⟩ := HIG.out i Q hQ
      have d3 : wr.cell? ⟨gf, of' + i, none⟩ = some (.int .i64 P) := cell_below hbe hcf
      have d4 : wr.cell? ⟨gg, og + i, none⟩ = some (.int .i64 Q) := cell_below hbe hcg
      have hlf0 := HFL.out.low i P hP
      have hlg0 := HGL.out.low i Q hQ
      have HEF := Lib.hid hP
      have HEG := Lib.hid hQ
      rw [drop_some hP, drop_some hQ] at HS
      clear hcf hcg hP hQ
      by_cases h2 : P = -1
      · have e2 : (P != -1) = false := by simp [h2]
        have HN : Hid (i + 1 + leadL (f.drop (i + 1)) (g.drop (i + 1)) = nxi f g x) := by
          show _ = _
          have h5 := HS.out
          rw [leadL, if_neg (fun h => h.1 h2)] at h5
          omega
        clear h2 HS
        go_wp2_with fail
        go_roundw
        case rel => exact ⟨i + 1, by omega, by omega, by go_num, HN, hbe⟩
        case measure => simp only [intOf]; omega
      · have e2 : (P != -1) = true := by simpa using h2
        by_cases h3 : Q = -1
        · have e3 : (Q != -1) = false := by simp [h3]
          have HN : Hid (i + 1 + leadL (f.drop (i + 1)) (g.drop (i + 1)) = nxi f g x) := by
            show _ = _
            have h5 := HS.out
            rw [leadL, if_neg (fun h => h.2 h3)] at h5
            omega
          clear h2 h3 HS
          go_wp2_with fail
          go_roundw
          case rel => exact ⟨i + 1, by omega, by omega, by go_num, HN, hbe⟩
          case measure => simp only [intOf]; omega
        · have e3 : (Q != -1) = true := by simpa using h3
          have hni : nxi f g x = i := by
            have h5 := HS.out
            rw [leadL, if_pos ⟨h2, h3⟩] at h5
            omega
          obtain ⟨P', rfl⟩ := Int.eq_ofNat_of_zero_le (by omega : 0 ≤ P)
          obtain ⟨Q', rfl⟩ := Int.eq_ofNat_of_zero_le (by omega : 0 ≤ Q)
          have HX : Hid (nxt o a b f g x = (i, P', Q')) := by
            show _ = _
            have := nxt_eq (o := o) (a := a) (b := b) (f := f) (g := g) (x := x) (by omega) (p := P') (q := Q') (by rw [hni]; exact HEF.out) (by rw [hni]; exact HEG.out)
            rw [this, hni]
          clear h2 h3 HS hni
          go_wp2_with fail
          go_quiet (fail)
          go_wp2_with fail
          go_ret3
          exact ⟨by rw [HX.out]; rfl, below_drewN' hbe⟩
    · obtain rfl : o.length = i := by omega
      have e1 : decide ((o.length : Int) < o.length) = false := decide_eq_false (by omega)
      have HX : Hid (nxt o a b f g x = (o.length, a.length, b.length)) := by
        show _ = _
        unfold nxt
        have h5 := HS.out
        rw [if_neg (by omega)]
      clear HS
      go_wp2_with fail
      go_quiet (fail)
      go_wp2_with fail
      go_ret3
      exact ⟨by rw [HX.out]; rfl, below_drewN' hbe⟩
end
end Go.Proofs.Ytidfjemblidjkaa
