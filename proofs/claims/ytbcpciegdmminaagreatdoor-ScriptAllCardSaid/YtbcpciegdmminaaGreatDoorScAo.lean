/- Scripts: an act that came in, by its cells. -/
import Derived.Test.YtbcpciegdmminaaGreatDoorScR
import Derived.Test.YtbcpciegdmminaaGreatDoorOpenS
import Derived.Deep.DeepCutAuto
import Derived.Lib.LaidTab
import Derived.Shelf.Vars
import Derived.Stop.LaidErr
namespace Go.Proofs.YtbcpciegdmminaaGreatDoor
open Go Go.RowKit Go.ChangeShapes Go.WideShapes Go.Deep
set_option linter.unusedVariables false
section
variable {H : Type} {enc : TypeId × Value → H} {w : World} {base : Nat} {held : Bool}
theorem decS_ints {n : Nat} {v : Value} {y : DataW H × List MemPlace} (h : DataW.trod enc Tryz.prog w base (fun _ => true) held n 23 [v] = some y) : ∃ ns : List Int, RowL IV w v ns := by
  rcases open_ints Tryz.underlying23 Tryz.underlying3 (by kernel_rfl) h with ⟨hcs, _⟩ | ⟨x, l, c, zs, hcs, _, hl, hm, hz, _, hcell, hwz⟩
  · simp at hcs
    subst hcs
    exact ⟨[], .inl ⟨rfl, rfl, none, 0, rfl⟩⟩
  · simp at hcs
    subst hcs
    simp at hz
    obtain ⟨ns, _, hr, hb⟩ := rowZ_of_ints (row_of_ints hl hm hz hcell) (by omega) hwz
    exact ⟨ns, hr⟩
theorem list2a {α : Type} {l : List α} (h : l.length = 2) : ∃ a b, l = [a, b] := by
  match l, h with
  | [a, b], _ => exact ⟨a, b, rfl⟩
theorem list8a {α : Type} {l : List α} (h : l.length = 8) : ∃ a b c d e f g i, l = [a, b, c, d, e, f, g, i] := by
  match l, h with
  | [a, b, c, d, e, f, g, i], _ => exact ⟨a, b, c, d, e, f, g, i, rfl⟩
theorem tq_dec (n : Nat) (cs' : List Value) (y : DataW H × List MemPlace) (h : DataW.trod enc Tryz.prog w base (fun _ => true) held n 57 cs' = some y) : ∃ x : TQ, cs' = tqC x ∧ RowB w (tqV x) x.1.2 := by
  obtain ⟨hl, n', hf⟩ := decF Tryz.underlying57 (by kernel_rfl) (by kernel_rfl) h
  obtain ⟨a, b, rfl⟩ := list2a hl
  obtain ⟨v0, y0, hv0, h0⟩ := hf 0 _ rfl
  obtain ⟨v1, y1, hv1, h1⟩ := hf 1 _ rfl
  simp at hv0 hv1
  subst hv0 hv1
  obtain ⟨z0, e0, _, w0⟩ := DataW.trod_int Tryz.underlying3 h0
  obtain ⟨bs, hb⟩ := dec_bytes h1
  cases e0
  obtain ⟨av, cv, rfl, -, -⟩ := hb.gen.shape
  exact ⟨((z0, bs), (av, cv)), rfl, hb⟩
/-- an act by value, opened -/
theorem sact_dec (n : Nat) (cs' : List Value) (y : DataW H × List MemPlace) (h : DataW.trod enc Tryz.prog w base (fun _ => true) held n 26 cs' = some y) :
    ∃ (k a b c m : Int) (vb vk vt : Value) (bs : Bs) (keep : List Int) (torn : List (Int × Bs)), cs' = (acCells k a b c m vb vk vt).toList ∧ ActI w vb vk vt bs keep torn := by
  obtain ⟨hl, n', hf⟩ := decF Tryz.underlying26 (by kernel_rfl) (by kernel_rfl) h
  obtain ⟨c0, c1, c2, c3, c4, c5, c6, c7, rfl⟩ := list8a hl
  obtain ⟨v0, y0, hv0, h0⟩ := hf 0 _ rfl
  obtain ⟨v1, y1, hv1, h1⟩ := hf 1 _ rfl
  obtain ⟨v2, y2, hv2, h2⟩ := hf 2 _ rfl
  obtain ⟨v3, y3, hv3, h3⟩ := hf 3 _ rfl
  obtain ⟨v4, y4, hv4, h4⟩ := hf 4 _ rfl
  obtain ⟨v5, y5, hv5, h5⟩ := hf 5 _ rfl
  obtain ⟨v6, y6, hv6, h6⟩ := hf 6 _ rfl
  obtain ⟨v7, ⟨d7, p7⟩, hv7, h7⟩ := hf 7 _ rfl
  simp at hv0 hv1 hv2 hv3 hv4 hv5 hv6 hv7
  subst hv0 hv1 hv2 hv3 hv4 hv5 hv6 hv7
  obtain ⟨z0, e0, _, w0⟩ := DataW.trod_int Tryz.underlying3 h0
  obtain ⟨z1, e1, _, w1⟩ := DataW.trod_int Tryz.underlying3 h1
  obtain ⟨z2, e2, _, w2⟩ := DataW.trod_int Tryz.underlying3 h2
  obtain ⟨z3, e3, _, w3⟩ := DataW.trod_int Tryz.underlying3 h3
  obtain ⟨z4, e4, _, w4⟩ := DataW.trod_int Tryz.underlying3 h4
  obtain ⟨bs, hb⟩ := dec_bytes h5
  obtain ⟨ks, hk⟩ := decS_ints h6
  cases e0
  cases e1
  cases e2
  cases e3
  cases e4
  replace h7 : DataW.trod enc Tryz.prog w base (fun _ => true) held n' 24 [c7] = some (d7, p7) := h7
  obtain ⟨acc, ht, hg⟩ : ∃ acc : List TQ, RowS tqC w c7 acc ∧ ∀ x ∈ acc, RowB w (tqV x) x.1.2 := by
    have hsl : (∃ a l c, c7 = Value.slice a l c) := by
      rcases open_slice Tryz.underlying24 h7 with ⟨h1, _⟩ | ⟨a, len, cap, m, n, D, Pl, h1, _⟩
      · simp at h1; exact ⟨_, _, _, h1⟩
      · simp at h1; exact ⟨_, _, _, h1⟩
    obtain ⟨a, l, c, rfl⟩ := hsl
    obtain ⟨xs, hxl, hr, hgood⟩ := open_sliceS (cs := tqC) (good := fun x => RowB w (tqV x) x.1.2) Tryz.underlying24 (by kernel_rfl) (by decide) tqC_len (fun n cs' y h => tq_dec n cs' y h) (show DataW.Trod enc Tryz.prog w base (fun _ => true) held 24 (.slice a l c) d7 p7 from ⟨_, h7⟩)
    exact ⟨xs, hr, hgood⟩
  exact ⟨z0, z1, z2, z3, z4, _, _, _, bs, ks, acc.map Prod.fst, rfl, hb, hk, acc, ht, hg, rfl⟩
end
/-- an array of strings that reads as a table holds the table's strings -/
theorem cells_of_strs {H : Type} {enc : TypeId × Value → H} {P : Program} {w : World} {base : Nat} {sp : Nat → Bool} {held : Bool} {fuel : Nat} {t e : TypeId} {n : Nat} {cs : List Value} {zs : List Bs} {p : List MemPlace}
    (ht : P.underlying t = some (.array n e)) (he : P.underlying e = some .string) (hce : P.cellsOf e = 1) (hct : P.cellsOf t = n)
    (h : DataW.trod enc P w base sp held fuel t cs = some (.agg (zs.map fun z => .lit (.string z)), p)) : cs = zs.map SV := by
  cases fuel with
  | zero => simp [DataW.trod] at h
  | succ fuel =>
    simp only [DataW.trod, ht, hce, hct, Nat.mul_one] at h
    split at h
    · rename_i hl
      obtain ⟨xs, hm, hx⟩ := Option.map_eq_some_iff.1 h
      have hxs : xs.map (·.1) = zs.map fun z => (DataW.lit (.string z) : DataW H) := by
        have := congrArg Prod.fst hx
        simpa using this
      have hxl : xs.length = n := by simpa using Lib.mapM_length hm
      have hzl : zs.length = n := by
        have := congrArg List.length hxs
        simp at this
        omega
      apply List.ext_getElem?
      intro i
      by_cases hi : i < n
      · obtain ⟨b, hb, hf⟩ := Lib.mapM_at hm i i (by simp [hi])
        obtain ⟨s, hc, hd, -⟩ := DataW.trod_string he hf
        have h1 : cs[i]? = some (.string s) := by
          have := congrArg (·[0]?) hc
          simpa [List.getElem?_take, List.getElem?_drop] using this
        have h2 : (xs.map (·.1))[i]? = some b.1 := by simp [hb]
        rw [hxs, hd] at h2
        simp only [List.getElem?_map, Option.map_eq_some_iff, DataW.lit.injEq, Lit.string.injEq] at h2
        obtain ⟨z', hz', hz2⟩ := h2
        rw [h1, List.getElem?_map, hz', Option.map_some]
        have : s = strB z' := by
          rw [hz2]
          exact (strB_of s).symm
        rw [this]; rfl
      · rw [List.getElem?_eq_none (by omega), List.getElem?_eq_none (by simp; omega)]
    · cases h
theorem words_of_head {W : World} {rest : List (String × DataW Unit)} {t e : TypeId}
    (hg : Tryz.prog.globalNamed "redline/script.words" = some 0) (hty : (Tryz.prog.globals[0]?).map (·.type) = some t) (ht : Tryz.prog.underlying t = some (.array 12 e)) (he : Tryz.prog.underlying e = some .string) (hce : Tryz.prog.cellsOf e = 1) (hct : Tryz.prog.cellsOf t = 12)
    (h : laidMet Tryz.prog (("redline/script.words", .agg (wordsL.map fun z => .lit (.string z))) :: rest) W) : WordsAt W := by
  obtain ⟨ps, ⟨g', t', cs, fuel, p, q, hg', ht', hvar, hd, _, _⟩, _⟩ := h
  obtain rfl := Option.some.inj (hg.symm.trans hg')
  obtain rfl := Option.some.inj (hty.symm.trans ht')
  have hcs := cells_of_strs ht he hce hct hd
  intro i hi
  have := World.var?_cell hg hvar i
  rw [this, ← Array.getElem?_toList, hcs, List.getElem?_map]
  have hi2 : i < wordsL.length := hi
  rw [List.getElem?_eq_getElem hi2, List.getD_eq_getElem?_getD, List.getElem?_eq_getElem hi2]; rfl
end Go.Proofs.YtbcpciegdmminaaGreatDoor
