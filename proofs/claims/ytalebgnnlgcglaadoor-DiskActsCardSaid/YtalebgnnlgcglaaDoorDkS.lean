/- The document's disk, walked: pad, Last, Write, Read. -/
import Derived.Test.YtalebgnnlgcglaaDoorDkM
import Derived.Test.YtalebgnnlgcglaaDoorStr
import Derived.Test.YtalebgnnlgcglaaDoorStrT
import Derived.BigQuiet
namespace Go.Proofs.YtalebgnnlgcglaaDoor
open Go Go.RowKit
set_option linter.unusedVariables false
theorem pad_more {Y : List UInt8} (h : Y.length < 64) : padV (Y ++ [0]) = padV Y := by
  rw [padV_short (by simp; omega), padV_short (by omega), List.append_assoc]
  congr 1
  rw [List.length_append, List.length_singleton, show 64 - Y.length = (64 - (Y.length + 1)) + 1 from by omega, List.replicate_succ]; rfl
def strOf : Value → List UInt8
  | .string s => s.data.toList
  | _ => []
theorem strOf_str (l : List UInt8) : strOf (.string (strB l)) = l := by simp [strOf, strB]
set_option maxRecDepth 100000 in
theorem rpad_any (bs : List UInt8) (w : World) (hl : bs.length ≤ 1000000) : Calls Tryd.prog 36 #[.string (strB bs)] w fun e w' => e = .returned (.string (strB (padV bs))) ∧ w = w' := by
  have hz : (strB bs).size = bs.length := strB_size bs
  by_cases h : 64 < bs.length
  · have hk := strB_take bs 64
    have hl64 : (bs.take 64).length = 64 := by simp; omega
    have HT : Hid (padV (bs.take 64) = padV bs) := padV_take bs
    obtain ⟨X, hX⟩ : ∃ X, X = bs.take 64 := ⟨_, rfl⟩
    rw [← hX] at HT hk hl64
    have t1 : decide ((64 : Int) < bs.length) = true := decide_eq_true (by omega)
    clear hX
    go_enter Tryd.func36, Tryd.ntmps36
    go_wp2_with fail
    go_loopw [3] (fun v wr => ∃ Y : List UInt8, Y.length ≤ 64 ∧ Hid (padV Y = padV bs) ∧ v = .string (strB Y) ∧ w = wr) (fun v _ => 64 - (strOf v).length)
    case atStart => exact ⟨X, by omega, HT, rfl, rfl⟩
    case round =>
      clear HT
      obtain ⟨Y, hY, HY, rfl, rfl⟩ := hrel
      have hzY : (strB Y).size = Y.length := strB_size Y
      by_cases hlt : Y.length < 64
      · have hadd := str_add Y [0] (by simp; omega)
        rw [show strB [0] = ⟨#[0]⟩ from rfl] at hadd
        go_wp2_with fail
        go_roundw
        case rel => exact ⟨Y ++ [0], by simp; omega, by show _ = _; rw [pad_more hlt]; exact HY.out, rfl, trivial⟩
        case measure =>
          rw [strOf_str, strOf_str, List.length_append, List.length_singleton]
          omega
      · have HE : Hid (padV bs = Y) := HY.out.symm.trans (padV_full (by omega))
        go_wp2_with fail
        go_ret
        exact ⟨ret1 (by rw [HE.out]; rfl), rfl⟩
  · have t1 : decide ((64 : Int) < bs.length) = false := decide_eq_false (by omega)
    have hl64 : bs.length ≤ 64 := by omega
    obtain ⟨V, hV⟩ : ∃ V, V = padV bs := ⟨_, rfl⟩
    have HT : Hid (padV bs = V) := hV.symm
    rw [← hV]
    clear hV
    go_enter Tryd.func36, Tryd.ntmps36
    go_wp2_with fail
    go_loopw [3] (fun v wr => ∃ Y : List UInt8, Y.length ≤ 64 ∧ Hid (padV Y = V) ∧ v = .string (strB Y) ∧ w = wr) (fun v _ => 64 - (strOf v).length)
    case atStart => exact ⟨bs, hl64, HT, rfl, rfl⟩
    case round =>
      clear HT
      obtain ⟨Y, hY, HY, rfl, rfl⟩ := hrel
      have hzY : (strB Y).size = Y.length := strB_size Y
      by_cases hlt : Y.length < 64
      · have hadd := str_add Y [0] (by simp; omega)
        rw [show strB [0] = ⟨#[0]⟩ from rfl] at hadd
        go_wp2_with fail
        go_roundw
        case rel => exact ⟨Y ++ [0], by simp; omega, by show _ = _; rw [pad_more hlt]; exact HY.out, rfl, trivial⟩
        case measure =>
          rw [strOf_str, strOf_str, List.length_append, List.length_singleton]
          omega
      · have HE : Hid (V = Y) := HY.out.symm.trans (padV_full (by omega))
        go_wp2_with fail
        go_ret
        exact ⟨ret1 (by rw [HE.out]; rfl), rfl⟩
theorem lastO_take {l : List (Int × List UInt8)} {j : Nat} {p : Int × List UInt8} (h : l[j]? = some p) (q : Int) : lastO (l.take (j + 1)) q = if p.1 = q then some p.2 else lastO (l.take j) q := by
  rw [List.take_add_one, h]
  exact lastO_snoc _ _ _
def lastR (o : Option (List UInt8)) : Value := .tuple #[.string (strB (o.getD zero64)), .bool o.isSome]
set_option maxRecDepth 100000 in
theorem rlast_any (v : Value) (l : List (Int × List UInt8)) (q : Int) (w : World) (hr : RowS wrC w v l) (hl : l.length ≤ 1000000) : Calls Tryd.prog 21 #[v, .int .i64 q] w fun e w' => e = .returned (lastR (lastO l q)) ∧ w = w' := by
  obtain ⟨a, c, rfl, -, hin⟩ := hr.shape wrC_len
  have HI := Lib.hid hin
  obtain ⟨R, hR⟩ : ∃ R, R = lastO l q := ⟨_, rfl⟩
  have HR : Hid (lastO (l.take l.length) q = R) := by show _ = _; rw [List.take_length]; exact hR.symm
  rw [← hR]
  clear hR hin hr
  go_enter Tryd.func21, Tryd.ntmps21
  go_wp2_with fail
  go_loopw [6] (fun i wr => ∃ k : Nat, k ≤ l.length ∧ i = .int .i64 ((k : Int) - 1) ∧ Hid (lastO (l.take k) q = R) ∧ w = wr) (fun i _ => (intOf i + 1).toNat)
  case atStart => exact ⟨l.length, Nat.le_refl _, by go_num, HR, rfl⟩
  case round =>
    clear HR
    obtain ⟨k, hk, rfl, HK, rfl⟩ := hrel
    by_cases h0 : k = 0
    · subst h0
      have HE : Hid (R = none) := HK.out.symm
      have HP := rpad_any [] w (by decide)
      rw [show strB [] = ⟨#[]⟩ from rfl, padV_nil] at HP
      have HP := Lib.hid HP
      go_wp2_with fail
      refine HP.out.mono ?_
      rintro e w1 ⟨rfl, rfl⟩
      go_wp2_with fail
      go_ret2
      exact ⟨by rw [HE.out]; rfl, rfl⟩
    · obtain ⟨j, rfl⟩ : ∃ j, k = j + 1 := ⟨k - 1, by omega⟩
      obtain ⟨⟨s, b⟩, hp⟩ : ∃ p, l[j]? = some p := ⟨_, List.getElem?_eq_getElem (by omega)⟩
      obtain ⟨bb, oo, rfl, hc⟩ := HI.out j _ hp
      have d0 : w.cell? ⟨bb, oo + (j * 2 + 0), none⟩ = some (.int .i64 s) := hc 0 _ rfl
      have d1 : w.cell? ⟨bb, oo + (j * 2 + 1), none⟩ = some (.string (strB b)) := hc 1 _ rfl
      rw [Nat.add_zero] at d0
      rw [← Nat.add_assoc] at d1
      have HT := Lib.hid ((lastO_take hp q).symm.trans HK.out)
      have i1 : ((j + 1 : Nat) : Int) - 1 = (j : Int) := by omega
      have hjl : (j : Int) < l.length := by omega
      clear HK hc hp
      rw [i1]
      clear i1
      by_cases e : s = q
      · subst e
        have HE : Hid (R = some b) := by have := HT.out; rw [if_pos rfl] at this; exact this.symm
        clear HT
        have t1 : (s == s) = true := by simp
        go_wp2_with fail
        go_ret2
        exact ⟨by rw [HE.out]; rfl, rfl⟩
      · have HE : Hid (lastO (l.take j) q = R) := by have := HT.out; rw [if_neg e] at this; exact this
        have t1 : (s == q) = false := by simpa using e
        clear HT e
        go_wp2_with fail
        go_roundw
        case rel => exact ⟨j, by omega, by go_num, HE, trivial⟩
        case measure => simp [intOf]
end Go.Proofs.YtalebgnnlgcglaaDoor
