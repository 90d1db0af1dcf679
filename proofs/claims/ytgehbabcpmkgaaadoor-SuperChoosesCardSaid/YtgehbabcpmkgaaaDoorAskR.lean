/- The reference's Ask and Fixed of layer 1. -/
import Derived.Test.YtgehbabcpmkgaaaDoorFixed
namespace Go.Proofs.YtgehbabcpmkgaaaDoor
open Go Go.RowKit
set_option linter.unusedVariables false
theorem fixedV_drop {l : List UInt8} {k : Nat} {x : UInt8} (h : l[k]? = some x) : fixedV (l.drop k) = x.toNat + 256 * fixedV (l.drop (k + 1)) := by
  obtain ⟨h1, rfl⟩ := List.getElem?_eq_some_iff.1 h
  rw [List.drop_eq_getElem_cons h1]; rfl
set_option maxRecDepth 100000 in
theorem rfixed_any (v : Value) (bs : List UInt8) (p m : Nat) (w : World) (hr : RowB w v bs) (hlen : bs.length ≤ 1000000) (hm : m ≤ 8) (hp : p + m ≤ bs.length) :
    Calls Tryd.prog 88 #[v, .int .i64 p, .int .i64 m] w fun e w' => e = .returned (.int .u64 (fixedV ((bs.drop p).take m))) ∧ w = w' := by
  obtain ⟨a, c, rfl, _, hin⟩ := hr.gen.shape
  clear hr
  have HI := Lib.hid hin
  clear hin
  obtain ⟨L, hL⟩ : ∃ L, L = (bs.drop p).take m := ⟨_, rfl⟩
  have hLl : L.length = m := by rw [hL]; simp; omega
  have HL := Lib.hid hL
  rw [← hL]
  have h8 : ∀ k, fixedV (L.drop k) < 256 ^ (m - k) := fun k => by
    have := fixedV_lt (L.drop k)
    rw [List.length_drop, hLl] at this
    exact this
  have H8 := Lib.hid h8
  clear hL h8
  go_enter Tryd.func88, Tryd.ntmps88
  go_wp2_with fail
  go_loopw [7, 8] (fun n i wr => ∃ k : Nat, k ≤ m ∧ i = .int .i64 ((k : Int) - 1) ∧ n = .int .u64 (fixedV (L.drop k)) ∧ w = wr) (fun _ i _ => (intOf i + 1).toNat)
  case atStart => exact ⟨m, Nat.le_refl _, by go_num, by rw [List.drop_of_length_le (by omega)]; rfl, rfl⟩
  case round =>
    obtain ⟨k, hk, rfl, rfl, rfl⟩ := hrel
    by_cases h0 : k = 0
    · subst h0
      go_wp2_with fail
      go_ret
      exact ⟨rfl, rfl⟩
    · obtain ⟨j, rfl⟩ : ∃ j, k = j + 1 := ⟨k - 1, by omega⟩
      obtain ⟨x, hx⟩ : ∃ x, bs[p + j]? = some x := ⟨_, List.getElem?_eq_getElem (by omega)⟩
      have hxL : L[j]? = some x := by
        have e := HL.out
        subst e
        rw [List.getElem?_take, if_pos (by omega), List.getElem?_drop, hx]
      have hd := Lib.hid (fixedV_drop hxL)
      have hlt : fixedV (L.drop (j + 1)) < 72057594037927936 := by
        have h1 := H8.out (j + 1)
        have h2 := pow256_le (k := m - (j + 1)) (by omega)
        omega
      obtain ⟨b, o, rfl, hcx⟩ := HI.out (p + j) x hx
      rw [BV_def] at hcx
      obtain ⟨F, hF⟩ : ∃ F, F = fixedV (L.drop (j + 1)) := ⟨_, rfl⟩
      rw [← hF] at hlt ⊢
      have HF := Lib.hid hF
      have hx255 : (x.toNat : Int) ≤ 255 := by have := x.toNat_lt; omega
      have q1 : ((j + 1 : Nat) : Int) - 1 = (j : Int) := by omega
      have q2 : ((p : Int) + j).toNat = p + j := by omega
      have hci := hcx
      have hlti : (F : Int) < 72057594037927936 := by omega
      rw [q1]
      clear hx hxL hF hlt hcx
      go_wp2_with fail
      go_roundw
      case rel => exact ⟨j, by omega, by go_num, vint (by rw [hd.out, ← HF.out]; omega), trivial⟩
      case measure => simp [intOf]
end Go.Proofs.YtgehbabcpmkgaaaDoor
