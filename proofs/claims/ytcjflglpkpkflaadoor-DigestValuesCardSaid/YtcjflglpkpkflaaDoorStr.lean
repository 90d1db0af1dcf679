/- Bytes as strings: what string(b) gives. -/
import Derived.Test.YtcjflglpkpkflaaDoorLib
import Derived.Laws.BytesArg
namespace Go.Proofs.YtcjflglpkpkflaaDoor
open Go Go.RowKit
set_option linter.unusedVariables false
def strB (bs : List UInt8) : ByteArray := ⟨bs.toArray⟩
theorem convert_str {w : World} {v : Value} {bs : List UInt8} (h : RowB w v bs) : (convert 71 9 v).run Tryd.prog w = .ok (.string (strB bs)) w := by
  rcases h.open with ⟨rfl, a, c, rfl⟩ | ⟨b, o, c, rfl, _, _, _, hc⟩
  · rw [run_convert_bytes_string w 71 9 5 a 0 c Tryd.underlying71 Tryd.underlying5 Tryd.underlying9]
    cases a with
    | none => simp [Conv.bytesToString, strB]; rfl
    | some ad =>
      have h0 := run_loadCells_list (P := Tryd.prog) w ad [] (by simp)
      simp only [List.length_nil] at h0
      simp [Conv.bytesToString, h0, strB]; rfl
  · have := run_convert_bytes_arg (P := Tryd.prog) w 71 5 Tryd.underlying71 Tryd.underlying5 b o bs.length c (bs.map fun x => (x.toNat : Int)) (by simp) (fun i hi => by
      rw [hc i bs[i] (List.getElem?_eq_getElem hi), BV_def]; simp [List.getD_eq_getElem?_getD, hi]) 9 Tryd.underlying9
    rw [this]
    have hm : (bs.map fun x => (x.toNat : Int)).map (fun n => UInt8.ofNat n.toNat) = bs := by
      rw [List.map_map]
      have e : ((fun n : Int => UInt8.ofNat n.toNat) ∘ fun x : UInt8 => (x.toNat : Int)) = id := by
        funext x
        show UInt8.ofNat ((x.toNat : Int)).toNat = x
        rw [Int.toNat_natCast]
        exact UInt8.ofNat_toNat
      rw [e, List.map_id]
    unfold strOfNums
    rw [hm]
    rfl
theorem strB_app (a b : List UInt8) : strB a ++ strB b = strB (a ++ b) := by
  unfold strB
  apply ByteArray.ext
  simp [ByteArray.data_append]
theorem strB_size (a : List UInt8) : (strB a).size = a.length := by simp [strB, ByteArray.size]
theorem str_add (a b : List UInt8) (h : a.length + b.length ≤ 1000000000) (w : World) : (Op.stringOp .add (strB a) (strB b)).run Tryd.prog w = .ok (.string (strB (a ++ b))) w := by
  rw [run_string_add_sum w _ _ (by rw [strB_size, strB_size]; omega), strB_app]
theorem strB_eq (a b : List UInt8) : (strB a == strB b) = decide (a = b) := by
  by_cases h : a = b
  · subst h; rw [decide_eq_true rfl]; show (strB a).data == (strB a).data; simp
  · rw [decide_eq_false h]; show ((strB a).data == (strB b).data) = false; simp [h, strB]
end Go.Proofs.YtcjflglpkpkflaaDoor
