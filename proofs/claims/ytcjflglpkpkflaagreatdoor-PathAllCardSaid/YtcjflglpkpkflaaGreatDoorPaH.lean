/- Paths: Text. -/
import Derived.Test.YtcjflglpkpkflaaGreatDoorPaG
namespace Go.Proofs.YtcjflglpkpkflaaGreatDoor
open Go Go.RowKit
set_option linter.unusedVariables false
theorem bd_stays {B : Nat} {w w' : World} {b : Nat} {bs : List UInt8} (h : Bd B w b bs) (hb : Below w.heap.size w w') : Bd B w' b bs := by
  rcases h with ⟨h1, v, h2, h3, h4⟩ | ⟨h1, v, h2, h3, h4⟩
  · exact .inl ⟨h1, v, CellsAt.stays h2 hb, own_stays h3 hb, h4⟩
  · exact .inr ⟨h1, v, CellsAt.stays h2 hb, own_stays h3 hb, h4⟩
theorem pathT_snoc (p : List PS) (s : PS) : pathT (p ++ [s]) = pathT p ++ stepT s := by
  induction p with
  | nil => simp [pathT]
  | cons x p ih => rw [List.cons_append, pathT, ih, pathT, List.append_assoc]
theorem pathT_app (p q : List PS) : pathT (p ++ q) = pathT p ++ pathT q := by
  induction p with
  | nil => rfl
  | cons x p ih => rw [List.cons_append, pathT, ih, pathT, List.append_assoc]
theorem pathT_take (p : List PS) (m : Nat) : (pathT (p.take m)).length ≤ (pathT p).length := by
  have h := pathT_app (p.take m) (p.drop m)
  rw [List.take_append_drop] at h
  rw [h, List.length_append]
  omega
theorem take_stepQ {p : List SQ} {m : Nat} {q : SQ} (h : p[m]? = some q) : pathT ((p.take (m + 1)).map Prod.fst) = pathT ((p.take m).map Prod.fst) ++ stepT q.1 := by
  rw [List.take_add_one, h, Option.toList_some, List.map_append, List.map_singleton, pathT_snoc]
/-- what Text answers -/
def textQ (p : List SQ) : Bs := if pathQ p then pathT (p.map Prod.fst) else []
section
variable {S : Nat → Prop} {w : World} {a : Option Addr} {c : Nat} {p : List SQ}
set_option maxRecDepth 100000 in
set_option maxHeartbeats 8000000 in
theorem ptext_any (hp : PowU w) (hr : PathR S w (.slice a p.length c) p) (hl : ∀ q ∈ p, q.1.v.t.length ≤ 1000000 ∧ q.1.v.n < 18446744073709551616) (hT : (pathT (p.map Prod.fst)).length ≤ 1000000) :
    Calls Tryz.prog 10 #[.slice a p.length c] w fun e w' => e = .returned (.string (strB (textQ p))) ∧ Below w.heap.size w w' := by
  have HC := Lib.hid (pright_any hr)
  have HTX : Hid (textQ p = if pathQ p then pathT (p.map Prod.fst) else []) := rfl
  have hlen := hr.len
  unfold maxLen at hlen
  have HR : Hid (∀ W, Below w.heap.size w W → PathR S W (.slice a p.length c) p ∧ PowU W) := fun W hb => ⟨hr.stays hb, hp.stays hb⟩
  have HL := Lib.hid hl
  have HTT := Lib.hid hT
  clear hr hl hT hp
  generalize textQ p = TX at HTX ⊢
  go_enter Tryz.func10, Tryz.ntmps10
  go_wp2_with fail
  refine HC.out.mono ?_
  rintro e w1 ⟨rfl, hb1⟩
  have HB1 := Lib.hid hb1
  clear HC hb1
  cases hq : pathQ p with
  | false =>
    rw [hq] at HTX
    have HN : Hid (TX = []) := HTX.out
    clear HTX hq
    go_wp2_with fail
    go_ret
    exact ⟨by rw [HN.out]; rfl, HB1.out⟩
  | true =>
    rw [hq] at HTX
    have HN : Hid (TX = pathT (p.map Prod.fst)) := HTX.out
    clear HTX hq
    obtain ⟨W1, hW1⟩ : ∃ W, W = w1.alloc (.cells #[.pointer none, .slice none 0 0] 72) := ⟨_, rfl⟩
    obtain ⟨g, hg⟩ : ∃ g, g = w1.heap.size := ⟨_, rfl⟩
    have hbd : Bd g W1 g [] := by rw [hW1, hg]; exact bd_new w1
    have hb2 : Below g w1 W1 := by rw [hW1, hg]; exact (Below.refl _ _).alloc (Nat.le_refl _) _
    have hgw : w.heap.size ≤ g := by rw [hg]; exact HB1.out.size
    have HBG : Hid (∀ W, Below g W1 W → Below w.heap.size w W) := fun W h => HB1.out.trans ((hb2.trans h).mono hgw)
    have HGS : Hid (g ≤ W1.heap.size) := by show _ ≤ _; rw [hg]; exact hb2.size
    have HW := Lib.hid hW1
    have HG := Lib.hid hg
    have HBD := Lib.hid hbd
    clear hW1 hg hbd hb2 hgw HB1
    go_upto_region 4 with fail
    rw [← HW.out, ← HG.out]
    clear HW HG
    go_wp2_with fail
    have HBE0 : Hid (Below g W1 W1) := Below.refl _ _
    go_loopw [11] (fun i wr => ∃ m : Nat, m ≤ p.length ∧ i = .int .i64 m ∧ Hid (Bd g wr g (pathT ((p.take m).map Prod.fst))) ∧ Hid (Below g W1 wr)) (fun i _ => p.length - (intOf i).toNat)
    case atStart => exact ⟨0, Nat.zero_le _, rfl, HBD.out, HBE0.out⟩
    case round =>
      clear HBE0
      obtain ⟨m, hm, rfl, HI, HBE⟩ := hrel
      have HGR : Hid (g ≤ wr.heap.size) := Nat.le_trans HGS.out HBE.out.size
      by_cases h1 : m < p.length
      · obtain ⟨⟨⟨K, N, T, ⟨k', n', t', fs', r', ls', ps'⟩⟩, ⟨fa', fc', la', lc', pa', pc'⟩⟩, hq⟩ : ∃ q, p[m]? = some q := ⟨_, List.getElem?_eq_getElem h1⟩
        obtain ⟨hpr, hpw⟩ := HR.out wr (HBG.out wr HBE.out)
        obtain ⟨b, o, rfl, hrx, x0, x1, x2, c0, c1, c2, c3, c4, c5, c6⟩ := hpr.at hq
        obtain ⟨hlt, hln⟩ := HL.out _ (List.mem_of_getElem? hq)
        have HT := Lib.hid (take_stepQ hq)
        have htl := pathT_take (p.map Prod.fst) (m + 1)
        rw [← List.map_take, HT.out, List.length_append] at htl
        have HLS : Hid ((pathT ((p.take m).map Prod.fst)).length ≤ 1000000 ∧ (stepT ⟨K, N, T, .mk k' n' t' fs' r' ls' ps'⟩).length ≤ 1000000) := by
          have := HTT.out
          simp only at htl
          exact ⟨by omega, by omega⟩
        have HS : Hid (∀ W, Below wr.heap.size wr W → Calls Tryz.prog 29 #[.agg #[.int .i64 K, .int .i64 N, .int .i64 T, .int .i64 k', .int .u64 (n' : Int), .string (strB t'), .slice fa' fs'.length fc', .string (strB r'), .slice la' ls'.length lc', .slice pa' ps'.length pc']] W fun e w' => e = .returned (.string (strB (stepT ⟨K, N, T, .mk k' n' t' fs' r' ls' ps'⟩))) ∧ Below W.heap.size W w') := fun W h => stext_lit (hpw.stays h) hrx.1 hln hlt
        simp only at HT
        generalize stepT ⟨K, N, T, .mk k' n' t' fs' r' ls' ps'⟩ = ST at HS HLS HT
        clear hpr hpw hrx hq hlt hln htl
        go_wp2_with fail
        refine (HS.out _ ((Below.refl _ _).alloc (Nat.le_refl _) _)).mono ?_
        rintro e w3 ⟨rfl, hb3⟩
        have hb4 : Below wr.heap.size wr w3 := ((Below.refl _ _).alloc (Nat.le_refl _) _).trans (hb3.mono (by simp))
        have HBD3 := Lib.hid (bd_stays HI.out hb4)
        have HB3 := Lib.hid (HBE.out.trans (hb4.mono HGR.out))
        have HG3 : Hid (g ≤ w3.heap.size) := Nat.le_trans HGR.out hb4.size
        have HWr := Lib.hid (bd_write g g (pathT ((p.take m).map Prod.fst)) ST w3 HBD3.out HLS.out.1 HLS.out.2 HG3.out)
        clear HS hb3 hb4 x0 x1 x2 c0 c1 c2 c3 c4 c5 c6 HBD3 HLS HI
        go_wp2_with fail
        refine HWr.out.mono ?_
        rintro e w4 ⟨rfl, hbd4, hb4⟩
        have HBD4 := Lib.hid hbd4
        have HB4 := Lib.hid (HB3.out.trans hb4)
        clear HWr HB3 hbd4 hb4
        go_wp2_with fail
        go_roundw
        case rel => exact ⟨m + 1, h1, by go_num, by show Bd _ _ _ _; rw [HT.out]; exact HBD4.out, HB4.out⟩
        case measure => simp only [intOf]; omega
      · have HS := Lib.hid (bd_string g g _ wr HI.out HGR.out)
        rw [show p.take m = p from List.take_of_length_le (by omega), ← HN.out] at HS
        have HBZ : Hid (∀ W, Below wr.heap.size wr W → Below w.heap.size w W) := fun W h => HBG.out W (HBE.out.trans (h.mono HGR.out))
        have HBZ2 : Hid (∀ W, Below g wr W → Below w.heap.size w W) := fun W h => HBG.out W (HBE.out.trans h)
        clear HI HBE HR HL HTT
        go_wp2_with fail
        refine HS.out.mono ?_
        rintro e w5 ⟨rfl, hb5⟩
        have HB5 := Lib.hid (HBZ2.out w5 hb5)
        clear HS hb5
        go_wp2_with fail
        go_ret
        exact ⟨rfl, HB5.out⟩
end
end Go.Proofs.YtcjflglpkpkflaaGreatDoor
