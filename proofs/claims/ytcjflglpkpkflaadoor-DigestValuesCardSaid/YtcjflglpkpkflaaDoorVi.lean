/- The program's Size, Depth. -/
import Derived.Test.YtcjflglpkpkflaaDoorVh
import Derived.Deep.RegionHeld3
import Derived.Laws.Cover1
namespace Go.Proofs.YtcjflglpkpkflaaDoor
open Go Go.RowKit
set_option linter.unusedVariables false
theorem sizeP_cons (a b : V) (r : List (V × V)) : sizeP ((a, b) :: r) = sizeV a + sizeV b + sizeP r := by rw [sizeP]
theorem sizeF_cons (n : Int) (v : V) (r : List (Int × V)) : sizeF ((n, v) :: r) = sizeV v + sizeF r := by rw [sizeF]
theorem sizeL_cons (v : V) (r : List V) : sizeL (v :: r) = sizeV v + sizeL r := by rw [sizeL]
theorem depthP_cons (a b : V) (r : List (V × V)) : depthP ((a, b) :: r) = max (max (depthV a) (depthV b)) (depthP r) := by rw [depthP]
theorem depthF_cons (n : Int) (v : V) (r : List (Int × V)) : depthF ((n, v) :: r) = max (depthV v) (depthF r) := by rw [depthF]
theorem depthL_cons (v : V) (r : List V) : depthL (v :: r) = max (depthV v) (depthL r) := by rw [depthL]
theorem maxv (N G : Nat) : (if N < G then (G : Int) else (N : Int)) = ((max N G : Nat) : Int) := by split <;> omega
theorem maxw (N G G2 : Nat) : (if (if N < G then (G : Int) else (N : Int)) < (G2 : Int) then (G2 : Int) else (if N < G then (G : Int) else (N : Int))) = ((max (max N G) G2 : Nat) : Int) := by split <;> split at * <;> omega
theorem wF_get {l : List (Int × V)} {i : Nat} {p : Int × V} (h : l[i]? = some p) : wV p.2 < wF l := wF_mem l p (List.mem_of_getElem? h)
theorem wL_get {l : List V} {i : Nat} {p : V} (h : l[i]? = some p) : wV p < wL l := wL_mem l p (List.mem_of_getElem? h)
theorem wP_get {l : List (V × V)} {i : Nat} {p : V × V} (h : l[i]? = some p) : wV p.1 + wV p.2 < wP l := wP_mem l p (List.mem_of_getElem? h)
end Go.Proofs.YtcjflglpkpkflaaDoor
