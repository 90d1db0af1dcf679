/- A region that draws its order and only reads, walked once at a class of worlds of one's own. -/
import Derived.Test.YtcjflglpkpkflaaDoorLib
import Derived.BigQuiet
import Derived.Deep.QuietTactic
namespace Go.Proofs.YtcjflglpkpkflaaDoor
open Go Go.RowKit
set_option linter.unusedVariables false
theorem quiet_intro {P : Program} {C : World → Prop} {o : Oper} {a : Act} {K : Act → Prop} (v : Value) (h1 : ∀ w, C w → o.quietAt P a C w v) (h2 : K (a.put o.dst v)) : o.quiet P a C K := ⟨v, h1, h2⟩
theorem wp_region_quiet_in {P : Program} {C : World → Prop} {id : Nat} {Q : Exit → Act → World → Prop} {a : Act} {w : World} {l : List Oper} (hm : P.follows .mixedOrders = true) (hB : Region.lexB .any l.toArray = true) (hC : C w.drew)
    (h : wpQuiet P l.toArray C (fun a' => ∀ w', C w' → Q .normal a' w') l a) : (Code.region id l.toArray true).wp P Q a w := wp_region_quiet (C := C) hm hB hC (by simpa using h)
end Go.Proofs.YtcjflglpkpkflaaDoor
