/- container/heap at the queue of trips: up, down, Push, Pop. -/
import Derived.Test.YthabjnppmhlomaaDoorPnD
namespace Go.Proofs.YthabjnppmhlomaaDoor
open Go Go.RowKit
set_option linter.unusedVariables false
def leT (x y : TM) : Prop := ordT x.1 y.1 ≤ 0
theorem leT_refl (x : TM) : leT x x := by unfold leT; rw [ordT_refl]; omega
theorem leT_trans (x y z : TM) (h : leT x y) (k : leT y z) : leT x z := ord_le h k
theorem leT_not {x y : TM} (h : ¬ ordT y.1 x.1 < 0) : leT x y := by have := ordT_swap y.1 x.1; unfold leT; omega
theorem leT_lt {x y : TM} (h : ordT x.1 y.1 < 0) : leT x y := by unfold leT; omega
/-- all trips are right, their paths outside the queue's blocks -/
def QOk (F : Nat) (w : World) (v : Value) (Q : List TM) : Prop := ∀ x ∈ Q, tOk (fun k => k = F ∨ v.ownBlock = some k) w x
theorem tOk.grew {S : Nat → Prop} {L : List Nat} {w w' : World} {x : TM} (h : tOk S w x) (hg : Grew L w w') (hL : ∀ k ∈ L, S k) : tOk S w' x :=
  ⟨h.1, h.2.1, h.2.2.1, hg.row h.2.2.2.1 (fun k hk hm => (h.2.2.2.2 k hk).1 (hL k hm)), fun k hk => ⟨(h.2.2.2.2 k hk).1, Nat.lt_of_lt_of_le (h.2.2.2.2 k hk).2 hg.size⟩⟩
theorem tOk.stays {S : Nat → Prop} {w w' : World} {x : TM} (h : tOk S w x) (hb : Below w.heap.size w w') : tOk S w' x := ⟨h.1, h.2.1, h.2.2.1, Row.stays h.2.2.2.1 hb, fun k hk => ⟨(h.2.2.2.2 k hk).1, Nat.lt_of_lt_of_le (h.2.2.2.2 k hk).2 hb.size⟩⟩
theorem QOk.perm {F : Nat} {w : World} {v : Value} {Q Q' : List TM} (h : QOk F w v Q) (hp : Q'.Perm Q) : QOk F w v Q' := fun x hx => h x (hp.mem_iff.1 hx)
theorem QOk.grown {F : Nat} {w w' : World} {v : Value} {Q : List TM} {g : Nat} (h : QOk F w v Q) (hv : v.ownBlock = some g) (hg : w.grownBy w' (some g)) : QOk F w' v Q := fun x hx => (h x hx).grew (Grew.ofGrown hg) (fun k hk => .inr (by rw [List.mem_singleton] at hk; rw [hk]; exact hv))
/-- a method with a value's receiver, called by an address -/
theorem run_method_ptr {P : Program} {t e : TypeId} {f : FuncId} {name : String} (hm : ((P.info? t).bind (fun i => i.methods.find? (·.name == name))).map (fun m => (m.path, m.func)) = some (#[], some (f, false))) (hu : P.underlying t = some (.pointer e))
    (N : Nat) (a : Addr) (w : World) {v : Value} (hl : (loadVar e a).run P w = .ok v w) : (method (N + 1) t (.pointer (some a)) name).run P w = .ok (f, v) w := by
  obtain ⟨m, hm, hpf⟩ := Option.map_eq_some_iff.1 hm
  obtain ⟨hp, hf⟩ := Prod.mk.inj hpf
  obtain ⟨i, hi, hfi⟩ := Option.bind_eq_some_iff.1 hm
  have hs : ∀ (s s' : ByteArray) (ts : Array TypeId) (ty : TypeId), Builtin.ssaWrapNilChk_ ts ty #[.pointer (some a), .string s, .string s'] = pure (.pointer (some a)) := fun _ _ _ _ => rfl
  unfold method
  simp [typeInfo, hi, hfi, hp, hf, follow, receiverAt, run_underlying hu, Place.get, asAddr, strVal, Sem.run_bind, hl, hs]
theorem mQ {name : String} {f : FuncId} (hm : ((Tryd.prog.info? 78).bind (fun i => i.methods.find? (·.name == name))).map (fun m => (m.path, m.func)) = some (#[], some (f, false))) (a : Addr) (w : World) {v : Value} (h : w.cell? a = some v) :
    (method 266 78 (.pointer (some a)) name).run Tryd.prog w = .ok (f, v) w :=
  run_method_ptr (e := 61) hm Tryd.underlying78 265 a w (by simp [loadVar, go_sem, h])
theorem mLen (a : Addr) (w : World) {v : Value} (h : w.cell? a = some v) : (method 266 78 (.pointer (some a)) "Len").run Tryd.prog w = .ok (31, v) w := mQ (by kernel_rfl) a w h
theorem mLess (a : Addr) (w : World) {v : Value} (h : w.cell? a = some v) : (method 266 78 (.pointer (some a)) "Less").run Tryd.prog w = .ok (79, v) w := mQ (by kernel_rfl) a w h
theorem mSwap (a : Addr) (w : World) {v : Value} (h : w.cell? a = some v) : (method 266 78 (.pointer (some a)) "Swap").run Tryd.prog w = .ok (80, v) w := mQ (by kernel_rfl) a w h
theorem mPush (a : Addr) (w : World) : (method 266 78 (.pointer (some a)) "Push").run Tryd.prog w = .ok (82, .pointer (some a)) w := by kernel_rfl
theorem mPop (a : Addr) (w : World) : (method 266 78 (.pointer (some a)) "Pop").run Tryd.prog w = .ok (81, .pointer (some a)) w := by kernel_rfl
def UpP (B : Nat) (w : World) (g n c : Nat) (Q : List TM) (e : Ending) (w' : World) : Prop := e = .returned (.tuple #[]) ∧ ∃ Q', Q'.Perm Q ∧ Hp leT Q' Q'.length ∧ OwnS 56 3 tC B w' (.slice (some ⟨g, 0, none⟩) n c) Q' ∧ w.grownBy w' (some g)
section
variable {B F g n c : Nat} {T : TypeId} {c0 c1 c2 : Value} {w : World} {Q : List TM}
set_option maxRecDepth 100000 in
theorem up_any (h : QAt B F T c0 c1 c2 w (.slice (some ⟨g, 0, none⟩) n c) Q) (hk : QOk F w (.slice (some ⟨g, 0, none⟩) n c) Q) (j : Nat) (hj : j < Q.length) (hu : Up leT Q j) (hl : Q.length ≤ 100000) :
    Calls Tryd.prog 55 #[.iface 78 (.pointer (some ⟨F, 3, none⟩)), .int .i64 j] w (UpP B w g n c Q) := by
  obtain ⟨h1, h2, h3, h4⟩ := h
  have H1 := Lib.hid h1
  have H2 := Lib.hid h2
  have HK := Lib.hid hk
  have HU := Lib.hid hu
  clear h1 h2 hk hu
  go_enter Tryd.func55, Tryd.ntmps55
  go_wp2_with fail
  go_loopw [1] (fun u wr => ∃ (m : Nat) (Q1 : List TM), u = .int .i64 m ∧ m < Q.length ∧ Hid (Q1.Perm Q) ∧ Hid (Up leT Q1 m) ∧ Hid (OwnS 56 3 tC B wr (.slice (some ⟨g, 0, none⟩) n c) Q1) ∧ Hid (w.grownBy wr (some g))) (fun u _ => (intOf u).toNat)
  case atStart => exact ⟨j, Q, rfl, hj, List.Perm.refl _, HU.out, H2.out, grownBy_refl _ _⟩
  case round =>
    obtain ⟨m, Q1, rfl, hm, HP, HU1, HO, HG⟩ := hrel
    have hlen := HP.out.length_eq
    by_cases h0 : m = 0
    · subst h0
      have HH : Hid (Hp leT Q1 Q1.length) := HU1.out.done (fun a b h => by omega)
      clear hlen HU HU1
      go_wp2_with fail
      go_end0
      exact ⟨rfl, Q1, HP.out, HH.out, HO.out, HG.out⟩
    · have hm1 : m < Q1.length := by omega
      have hp1 : (m - 1) / 2 < Q1.length := by omega
      have hx := List.getElem?_eq_getElem hp1
      have hy := List.getElem?_eq_getElem hm1
      generalize Q1[(m - 1) / 2] = x at hx
      generalize Q1[m] = y at hy
      have hO := HO.out
      have hcF : CellsAt wr F T #[c0, c1, c2, .slice (some ⟨g, 0, none⟩) n c] := CellsAt.grown H1.out HG.out (fun h => by have := (hO.lt g rfl).1; cases h; omega)
      have hkr : QOk F wr (.slice (some ⟨g, 0, none⟩) n c) Q1 := (HK.out.grown rfl HG.out).perm HP.out
      have HLS : Hid (Calls _ _ _ wr _) := qLess_any _ hO m ((m - 1) / 2) y x hy hx (hkr y (List.mem_of_getElem? hy)) (hkr x (List.mem_of_getElem? hx)) (by omega)
      have mL := mLess ⟨F, 3, none⟩ wr (hcF.cell 3 rfl)
      have hgb := (hO.lt g rfl).1
      have HCF := Lib.hid hcF
      have HX := Lib.hid hx
      have HY := Lib.hid hy
      obtain ⟨p, hp⟩ : ∃ p, p = (m - 1) / 2 := ⟨_, rfl⟩
      rw [← hp] at HLS HX
      have hpi : ((m : Int) - 1) / 2 = (p : Int) := by omega
      have hpm : ((p : Int) == (m : Int)) = false := by simp; omega
      have hpm' : (p == m) = false := by simp; omega
      have HPE := Lib.hid hp
      have hplt : p < m := by omega
      have HH0 := Lib.hid h0
      clear hx hy hO hcF hkr hlen hp h0 hp1
      by_cases hR : ordT y.1 x.1 < 0
      · have hRt : decide (ordT y.1 x.1 < 0) = true := decide_eq_true hR
        rw [hRt] at HLS
        have HR := Lib.hid hR
        clear hR hRt
        go_wp2_with fail
        refine HLS.out.mono ?_
        rintro e w2 ⟨rfl, hb2⟩
        have hcF2 : CellsAt w2 F T #[c0, c1, c2, .slice (some ⟨g, 0, none⟩) n c] := HCF.out.stays hb2
        have mS := mSwap ⟨F, 3, none⟩ w2 (hcF2.cell 3 rfl)
        have HSW : Hid (Calls _ _ _ w2 _) := qSwap_any (HO.out.stays hb2) p m (by omega) hm1 (by have := HP.out.length_eq; omega)
        have HB2 := Lib.hid hb2
        clear hcF2 hb2 mL HLS
        go_wp2_with fail
        refine HSW.out.mono ?_
        rintro e w3 ⟨rfl, ho3, hg3⟩
        have HO3 := Lib.hid ho3
        have HG3 := Lib.hid hg3
        clear ho3 hg3 HSW mS
        go_wp2_with fail
        go_roundw
        case rel => exact ⟨p, swp Q1 p m, rfl, by omega, (swp_perm Q1 p m).trans HP.out, by have hpe := HPE.out; subst hpe; exact HU1.out.step leT_trans hm1 (by omega) HX.out HY.out (leT_lt HR.out), HO3.out, grownBy_trans (grownBy_trans HG.out (grownBy_none (grown_of_below HB2.out))) HG3.out⟩
        case measure => simp only [intOf]; omega
      · have hRt : decide (ordT y.1 x.1 < 0) = false := decide_eq_false hR
        rw [hRt] at HLS
        have HH : Hid (Hp leT Q1 Q1.length) := HU1.out.done (fun a b h1 ha hb => by
          rw [← HPE.out, HX.out] at ha
          rw [HY.out] at hb
          cases ha; cases hb
          exact leT_not hR)
        clear hR hRt
        go_wp2_with fail
        refine HLS.out.mono ?_
        rintro e w2 ⟨rfl, hb2⟩
        have HB2 := Lib.hid hb2
        clear hb2 mL HLS
        go_wp2_with fail
        go_end0
        exact ⟨rfl, Q1, HP.out, HH.out, HO.out.stays HB2.out, grownBy_trans HG.out (grownBy_none (grown_of_below HB2.out))⟩
end
end Go.Proofs.YthabjnppmhlomaaDoor
