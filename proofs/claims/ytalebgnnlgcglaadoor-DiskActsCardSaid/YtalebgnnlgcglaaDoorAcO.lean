/- An act on a disk (layer 31), by its cells; which rows of acts are long. -/
import Derived.Test.YtalebgnnlgcglaaDoorOpenS
import Derived.Deep.CutBlock
import Derived.Deep.DeepCutAuto
namespace Go.Proofs.YtalebgnnlgcglaaDoor
open Go Go.RowKit Go.ChangeShapes Go.WideShapes Go.Deep
set_option linter.unusedVariables false
/-- an act -/
structure Ac where
  k : Int
  n : Int
  v : Value
  bs : List UInt8
  vk : Value
  ks : List Int
  vt : Value
  ts : List Int
def acC (a : Ac) : List Value := [.int .i64 a.k, .int .i64 a.n, a.v, a.vk, a.vt]
theorem acC_len (a : Ac) : (acC a).length = 5 := rfl
def inI (l : List Int) : Prop := ∀ x ∈ l, -9223372036854775808 ≤ x ∧ x ≤ 9223372036854775807
def acG (w : World) (a : Ac) : Prop := (-9223372036854775808 ≤ a.k ∧ a.k ≤ 9223372036854775807) ∧ (-9223372036854775808 ≤ a.n ∧ a.n ≤ 9223372036854775807) ∧ RowB w a.v a.bs ∧ (RowL IV w a.vk a.ks ∧ inI a.ks) ∧ RowL IV w a.vt a.ts ∧ inI a.ts
section
variable {H : Type} {enc : TypeId × Value → H} {w : World} {base : Nat} {held : Bool}
theorem dec_ints {n : Nat} {v : Value} {y : DataW H × List MemPlace} (h : DataW.trod enc Tryd.prog w base (fun _ => true) held n 35 [v] = some y) : ∃ ns : List Int, RowL IV w v ns ∧ inI ns := by
  rcases open_ints Tryd.underlying35 Tryd.underlying3 (by kernel_rfl) h with ⟨hcs, _⟩ | ⟨x, l, c, zs, hcs, _, hl, hm, hz, _, hcell, hwz⟩
  · simp at hcs
    subst hcs
    exact ⟨[], .inl ⟨rfl, rfl, none, 0, rfl⟩, fun x hx => by cases hx⟩
  · simp at hcs
    subst hcs
    simp at hz
    obtain ⟨ns, _, hr, hb⟩ := rowZ_of_ints (row_of_ints hl hm hz hcell) (by omega) hwz
    exact ⟨ns, hr, hb⟩
theorem list5a {α : Type} {l : List α} (h : l.length = 5) : ∃ a b c d e, l = [a, b, c, d, e] := by
  match l, h with
  | [a, b, c, d, e], _ => exact ⟨a, b, c, d, e, rfl⟩
theorem ac_dec (n : Nat) (cs' : List Value) (y : DataW H × List MemPlace) (h : DataW.trod enc Tryd.prog w base (fun _ => true) held n 37 cs' = some y) : ∃ x, cs' = acC x ∧ acG w x := by
  obtain ⟨hl, n', hf⟩ := decF Tryd.underlying37 (by kernel_rfl) (by kernel_rfl) h
  obtain ⟨a, b, c, d, e, rfl⟩ := list5a hl
  obtain ⟨v0, y0, hv0, h0⟩ := hf 0 _ rfl
  obtain ⟨v1, y1, hv1, h1⟩ := hf 1 _ rfl
  obtain ⟨v2, y2, hv2, h2⟩ := hf 2 _ rfl
  obtain ⟨v3, y3, hv3, h3⟩ := hf 3 _ rfl
  obtain ⟨v4, y4, hv4, h4⟩ := hf 4 _ rfl
  simp at hv0 hv1 hv2 hv3 hv4
  subst hv0 hv1 hv2 hv3 hv4
  obtain ⟨z0, e0, _, w0⟩ := DataW.trod_int Tryd.underlying3 h0
  obtain ⟨z1, e1, _, w1⟩ := DataW.trod_int Tryd.underlying3 h1
  obtain ⟨bs, hb⟩ := dec_bytes h2
  obtain ⟨ks, hk, hk'⟩ := dec_ints h3
  obtain ⟨ts, ht, ht'⟩ := dec_ints h4
  cases e0
  cases e1
  exact ⟨⟨z0, z1, _, bs, _, ks, _, ts⟩, rfl, bounds_i64 w0, bounds_i64 w1, hb, ⟨hk, hk'⟩, ht, ht'⟩
end
/-- no more than is asked -/
def acS (a : Ac) : Prop := a.bs.length ≤ 100 ∧ a.ks.length ≤ 20 ∧ a.ts.length ≤ 20
/-- what 'long' answers -/
def LongP (ls : List Ac) (w : World) (e : Ending) (w' : World) : Prop := ∃ b : Bool, e = .returned (.bool b) ∧ (b = false → ls.length ≤ 40 ∧ ∀ x ∈ ls, acS x) ∧ Below w.heap.size w w'
theorem LongP.yes {ls : List Ac} {w w' : World} (h : Below w.heap.size w w') : LongP ls w (.returned (.bool true)) w' := ⟨true, rfl, (fun h => by cases h), h⟩
theorem LongP.no {ls : List Ac} {w w' : World} (h1 : ls.length ≤ 40) (h2 : ∀ x ∈ ls, acS x) (h : Below w.heap.size w w') : LongP ls w (.returned (.bool false)) w' := ⟨false, rfl, fun _ => ⟨h1, h2⟩, h⟩
set_option maxRecDepth 100000 in
set_option maxHeartbeats 4000000 in
theorem long_any (w : World) (vl : Value) (ls : List Ac) (hrl : RowS acC w vl ls) (hg : ∀ x ∈ ls, acG w x) :
    Calls Tryd.prog 6 #[vl] w (LongP ls w) := by
  obtain ⟨al, cl, rfl, -, -⟩ := RowS.shape hrl acC_len
  have HRL : Hid (∀ w', Below w.heap.size w w' → RowS acC w' (.slice al ls.length cl) ls) := fun w' hb => hrl.stays hb
  have HG : Hid (∀ x ∈ ls, acG w x) := hg
  clear hrl hg
  by_cases h40 : 40 < ls.length
  · go_enter Tryd.func6, Tryd.ntmps6
    go_wp2_with fail
    go_ret
    exact LongP.yes (Below.refl _ _)
  · go_enter Tryd.func6, Tryd.ntmps6
    go_wp2_with fail
    go_loopw [10] (fun i wr => ∃ k : Nat, k ≤ ls.length ∧ i = .int .i64 k ∧ (∀ (j : Nat) (x : Ac), j < k → ls[j]? = some x → acS x) ∧ Below w.heap.size w wr) (fun i _ => ls.length - (intOf i).toNat)
    case atStart => exact ⟨0, Nat.zero_le _, rfl, fun j x h => absurd h (Nat.not_lt_zero _), Below.refl _ _⟩
    case round =>
      obtain ⟨k, hk, rfl, hall, hbw⟩ := hrel
      by_cases hlt : k < ls.length
      · obtain ⟨⟨ak, an, pv, bs, pk, ks, pt, ts⟩, hp⟩ : ∃ p, ls[k]? = some p := ⟨_, List.getElem?_eq_getElem hlt⟩
        obtain ⟨-, -, grow, ⟨gk, -⟩, gt, -⟩ := HG.out _ (List.mem_of_getElem? hp)
        replace grow : RowB w pv bs := grow
        replace gk : RowL IV w pk ks := gk
        replace gt : RowL IV w pt ts := gt
        obtain ⟨va, vc, rfl, hvl, -⟩ := grow.gen.shape
        obtain ⟨ka, kc, rfl, hkl, -⟩ := gk.shape
        obtain ⟨ta, tc, rfl, htl, -⟩ := gt.shape
        obtain ⟨_, _, hve, -, hin⟩ := (HRL.out wr hbw).shape acC_len
        cases hve
        obtain ⟨bb, oo, rfl, hc⟩ := hin k _ hp
        have d0 : wr.cell? ⟨bb, oo + (k * 5 + 0), none⟩ = some (.int .i64 ak) := hc 0 _ rfl
        have d1 : wr.cell? ⟨bb, oo + (k * 5 + 1), none⟩ = some (.int .i64 an) := hc 1 _ rfl
        have d2 : wr.cell? ⟨bb, oo + (k * 5 + 2), none⟩ = some (.slice va bs.length vc) := hc 2 _ rfl
        have d3 : wr.cell? ⟨bb, oo + (k * 5 + 3), none⟩ = some (.slice ka ks.length kc) := hc 3 _ rfl
        have d4 : wr.cell? ⟨bb, oo + (k * 5 + 4), none⟩ = some (.slice ta ts.length tc) := hc 4 _ rfl
        rw [Nat.add_zero] at d0
        rw [← Nat.add_assoc] at d1 d2 d3 d4
        unfold maxLen at hvl hkl htl
        have hbN := hbw.alloc (o := .cells #[.int .i64 ak, .int .i64 an, .slice va bs.length vc, .slice ka ks.length kc, .slice ta ts.length tc] 37) hbw.size
        have HALL := Lib.hid hall
        clear hc hin grow gk gt hbw hall
        by_cases h1 : 100 < bs.length
        · go_wp2_with fail
          go_ret
          exact LongP.yes hbN
        · by_cases h2 : 20 < ks.length
          · go_wp2_with fail
            go_ret
            exact LongP.yes hbN
          · by_cases h3 : 20 < ts.length
            · go_wp2_with fail
              go_ret
              exact LongP.yes hbN
            · have HS : Hid (acS ⟨ak, an, .slice va bs.length vc, bs, .slice ka ks.length kc, ks, .slice ta ts.length tc, ts⟩) := ⟨by show bs.length ≤ 100; omega, by show ks.length ≤ 20; omega, by show ts.length ≤ 20; omega⟩
              have HP := Lib.hid hp
              clear hp
              go_wp2_with fail
              go_roundw
              case rel =>
                refine ⟨k + 1, by omega, by go_num, fun j x hj hx => ?_, hbN⟩
                by_cases hjk : j = k
                · subst hjk
                  rw [HP.out] at hx
                  cases hx
                  exact HS.out
                · exact HALL.out j x (by omega) hx
              case measure => simp [intOf]; omega
      · obtain rfl : k = ls.length := by omega
        go_wp2_with fail
        go_ret
        exact LongP.no (by omega) (fun x hx => by
          obtain ⟨j, hj⟩ := List.mem_iff_getElem?.1 hx
          exact hall j x (List.getElem?_eq_some_iff.1 hj).1 hj) hbw
end Go.Proofs.YtalebgnnlgcglaaDoor
