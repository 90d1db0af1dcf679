/-
  NARROWER THAN 'FOR EVERY INPUT', by the rows' own cells (each row's printed sentence says how): ValueTells: loops · ValueOrder: loops · ValueFields: loops · ValuePairs: loops · EditSwaps: loops · EditTells: loops · InvertOf: loops · InvertSteps: loops · InvertTwice: loops.
  DERIVED. THE GIVEN ROWS OF THIS SEAT. 9 by the template 'for every input the law returns true; each argument reads behind the call as it read before'; 0 by the template 'total and deterministic' (their statements: YtcnjlbbckdmifaaTotals.lean).
  GIVEN WITH THE SEED: the statements are not yours to turn. If you find one false, say at which input.
  Laid BY PROGRAM, IN A SANDBOX (cutbox-rows.mjs): the forced cells as the released guide's own fill.sh prints them over the translation b9f769afca647bef… (all of the seat's roots in one cut). By AI agents, Wed Nov 11 2026. No macro, syntax, notation, axiom, sorry.
-/
import Derived.Test.YtcnjlbbckdmifaaChecked
import GoSem.Claim
import GoSem.ClaimJoined
import GoSem.ClaimMapViews
import Derived.JoinedTies
import Derived.KernelRfl
namespace Go.Proofs.Ytcnjlbbckdmifaa
/- THE CELL 'sum', in the pinned program and in every row, IS THE sha256 OF THE DUMP (.gsa) THAT YtcnjlbbckdmifaaProg.lean LOADS. Nothing in Lean hashes anything: it is a label: what it is worth is what the hold of that sum in a sandbox is worth. -/
noncomputable def Try.pinned : Pinned := { name := "ytcnjlbbckdmifaa", sum := "b9f769afca647bef638c9af6f8764a5a0c1d5fbfe8f872f94e336dcc5595665d", checked := Try.checked }
namespace Rows
def none {H : Type} : Left H := { results := [], args := [] }

/-- 'redlinelaw13.ValueTells': WHATEVER THE INPUT: true; the input reads as it did. -/
def valueTellsSpec : ChangeSpec := { name := "valueTells", fn := fun _ => fun
  | [d1, d2] => { results := [.lit (.bool true)], args := [d1, d2] }
  | _ => none }
def valueTellsRow : OpenClaim := { program := "ytcnjlbbckdmifaa", sum := "b9f769afca647bef638c9af6f8764a5a0c1d5fbfe8f872f94e336dcc5595665d", func := "redline/redlinelaw13.ValueTells", spec := "valueTells", unfollowed := true, recurses := true, loops := true, apart := false }
def ValueTellsSaid : Prop := valueTellsRow.holds Try.pinned (OpenSpec.ofChange valueTellsSpec)

/-- ITS FALSE NEIGHBOUR: 'it returns false'. Refute it at one input. -/
def valueTellsWrong : ChangeSpec := { name := "valueTells", fn := fun _ => fun
  | [d1, d2] => { results := [.lit (.bool false)], args := [d1, d2] }
  | _ => none }
def ValueTellsWrongFalsely : Prop := valueTellsRow.holds Try.pinned (OpenSpec.ofChange valueTellsWrong)

/-- 'redlinelaw13.ValueOrder': WHATEVER THE INPUT: true; the input reads as it did. -/
def valueOrderSpec : ChangeSpec := { name := "valueOrder", fn := fun _ => fun
  | [d1, d2, d3] => { results := [.lit (.bool true)], args := [d1, d2, d3] }
  | _ => none }
def valueOrderRow : OpenClaim := { program := "ytcnjlbbckdmifaa", sum := "b9f769afca647bef638c9af6f8764a5a0c1d5fbfe8f872f94e336dcc5595665d", func := "redline/redlinelaw13.ValueOrder", spec := "valueOrder", unfollowed := true, recurses := true, loops := true, apart := false }
def ValueOrderSaid : Prop := valueOrderRow.holds Try.pinned (OpenSpec.ofChange valueOrderSpec)

/-- ITS FALSE NEIGHBOUR: 'it returns false'. Refute it at one input. -/
def valueOrderWrong : ChangeSpec := { name := "valueOrder", fn := fun _ => fun
  | [d1, d2, d3] => { results := [.lit (.bool false)], args := [d1, d2, d3] }
  | _ => none }
def ValueOrderWrongFalsely : Prop := valueOrderRow.holds Try.pinned (OpenSpec.ofChange valueOrderWrong)

/-- 'redlinelaw13.ValueFields': WHATEVER THE INPUT: true; the input reads as it did. -/
def valueFieldsSpec : ChangeSpec := { name := "valueFields", fn := fun _ => fun
  | [d1, d2, d3] => { results := [.lit (.bool true)], args := [d1, d2, d3] }
  | _ => none }
def valueFieldsRow : OpenClaim := { program := "ytcnjlbbckdmifaa", sum := "b9f769afca647bef638c9af6f8764a5a0c1d5fbfe8f872f94e336dcc5595665d", func := "redline/redlinelaw13.ValueFields", spec := "valueFields", unfollowed := true, recurses := true, loops := true, apart := false }
def ValueFieldsSaid : Prop := valueFieldsRow.holds Try.pinned (OpenSpec.ofChange valueFieldsSpec)

/-- ITS FALSE NEIGHBOUR: 'it returns false'. Refute it at one input. -/
def valueFieldsWrong : ChangeSpec := { name := "valueFields", fn := fun _ => fun
  | [d1, d2, d3] => { results := [.lit (.bool false)], args := [d1, d2, d3] }
  | _ => none }
def ValueFieldsWrongFalsely : Prop := valueFieldsRow.holds Try.pinned (OpenSpec.ofChange valueFieldsWrong)

/-- 'redlinelaw13.ValuePairs': WHATEVER THE INPUT: true; the input reads as it did. -/
def valuePairsSpec : ChangeSpec := { name := "valuePairs", fn := fun _ => fun
  | [d1, d2, d3] => { results := [.lit (.bool true)], args := [d1, d2, d3] }
  | _ => none }
def valuePairsRow : OpenClaim := { program := "ytcnjlbbckdmifaa", sum := "b9f769afca647bef638c9af6f8764a5a0c1d5fbfe8f872f94e336dcc5595665d", func := "redline/redlinelaw13.ValuePairs", spec := "valuePairs", unfollowed := true, recurses := true, loops := true, apart := false }
def ValuePairsSaid : Prop := valuePairsRow.holds Try.pinned (OpenSpec.ofChange valuePairsSpec)

/-- ITS FALSE NEIGHBOUR: 'it returns false'. Refute it at one input. -/
def valuePairsWrong : ChangeSpec := { name := "valuePairs", fn := fun _ => fun
  | [d1, d2, d3] => { results := [.lit (.bool false)], args := [d1, d2, d3] }
  | _ => none }
def ValuePairsWrongFalsely : Prop := valuePairsRow.holds Try.pinned (OpenSpec.ofChange valuePairsWrong)

/-- 'redlinelaw21.EditSwaps': WHATEVER THE INPUT: true; the input reads as it did. -/
def editSwapsSpec : ChangeSpec := { name := "editSwaps", fn := fun _ => fun
  | [d1, d2] => { results := [.lit (.bool true)], args := [d1, d2] }
  | _ => none }
def editSwapsRow : OpenClaim := { program := "ytcnjlbbckdmifaa", sum := "b9f769afca647bef638c9af6f8764a5a0c1d5fbfe8f872f94e336dcc5595665d", func := "redline/redlinelaw21.EditSwaps", spec := "editSwaps", unfollowed := true, recurses := true, loops := true, apart := false }
def EditSwapsSaid : Prop := editSwapsRow.holds Try.pinned (OpenSpec.ofChange editSwapsSpec)

/-- ITS FALSE NEIGHBOUR: 'it returns false'. Refute it at one input. -/
def editSwapsWrong : ChangeSpec := { name := "editSwaps", fn := fun _ => fun
  | [d1, d2] => { results := [.lit (.bool false)], args := [d1, d2] }
  | _ => none }
def EditSwapsWrongFalsely : Prop := editSwapsRow.holds Try.pinned (OpenSpec.ofChange editSwapsWrong)

/-- 'redlinelaw21.EditTells': WHATEVER THE INPUT: true; the input reads as it did. -/
def editTellsSpec : ChangeSpec := { name := "editTells", fn := fun _ => fun
  | [d1, d2] => { results := [.lit (.bool true)], args := [d1, d2] }
  | _ => none }
def editTellsRow : OpenClaim := { program := "ytcnjlbbckdmifaa", sum := "b9f769afca647bef638c9af6f8764a5a0c1d5fbfe8f872f94e336dcc5595665d", func := "redline/redlinelaw21.EditTells", spec := "editTells", unfollowed := true, recurses := true, loops := true, apart := false }
def EditTellsSaid : Prop := editTellsRow.holds Try.pinned (OpenSpec.ofChange editTellsSpec)

/-- ITS FALSE NEIGHBOUR: 'it returns false'. Refute it at one input. -/
def editTellsWrong : ChangeSpec := { name := "editTells", fn := fun _ => fun
  | [d1, d2] => { results := [.lit (.bool false)], args := [d1, d2] }
  | _ => none }
def EditTellsWrongFalsely : Prop := editTellsRow.holds Try.pinned (OpenSpec.ofChange editTellsWrong)

/-- 'redlinelaw22.InvertOf': WHATEVER THE INPUT: true; the input reads as it did. -/
def invertOfSpec : ChangeSpec := { name := "invertOf", fn := fun _ => fun
  | [d] => { results := [.lit (.bool true)], args := [d] }
  | _ => none }
def invertOfRow : OpenClaim := { program := "ytcnjlbbckdmifaa", sum := "b9f769afca647bef638c9af6f8764a5a0c1d5fbfe8f872f94e336dcc5595665d", func := "redline/redlinelaw22.InvertOf", spec := "invertOf", unfollowed := true, recurses := true, loops := true, apart := false }
def InvertOfSaid : Prop := invertOfRow.holds Try.pinned (OpenSpec.ofChange invertOfSpec)

/-- ITS FALSE NEIGHBOUR: 'it returns false'. Refute it at one input. -/
def invertOfWrong : ChangeSpec := { name := "invertOf", fn := fun _ => fun
  | [d] => { results := [.lit (.bool false)], args := [d] }
  | _ => none }
def InvertOfWrongFalsely : Prop := invertOfRow.holds Try.pinned (OpenSpec.ofChange invertOfWrong)

/-- 'redlinelaw22.InvertSteps': WHATEVER THE INPUT: true; the input reads as it did. -/
def invertStepsSpec : ChangeSpec := { name := "invertSteps", fn := fun _ => fun
  | [d] => { results := [.lit (.bool true)], args := [d] }
  | _ => none }
def invertStepsRow : OpenClaim := { program := "ytcnjlbbckdmifaa", sum := "b9f769afca647bef638c9af6f8764a5a0c1d5fbfe8f872f94e336dcc5595665d", func := "redline/redlinelaw22.InvertSteps", spec := "invertSteps", unfollowed := true, recurses := true, loops := true, apart := false }
def InvertStepsSaid : Prop := invertStepsRow.holds Try.pinned (OpenSpec.ofChange invertStepsSpec)

/-- ITS FALSE NEIGHBOUR: 'it returns false'. Refute it at one input. -/
def invertStepsWrong : ChangeSpec := { name := "invertSteps", fn := fun _ => fun
  | [d] => { results := [.lit (.bool false)], args := [d] }
  | _ => none }
def InvertStepsWrongFalsely : Prop := invertStepsRow.holds Try.pinned (OpenSpec.ofChange invertStepsWrong)

/-- 'redlinelaw22.InvertTwice': WHATEVER THE INPUT: true; the input reads as it did. -/
def invertTwiceSpec : ChangeSpec := { name := "invertTwice", fn := fun _ => fun
  | [d] => { results := [.lit (.bool true)], args := [d] }
  | _ => none }
def invertTwiceRow : OpenClaim := { program := "ytcnjlbbckdmifaa", sum := "b9f769afca647bef638c9af6f8764a5a0c1d5fbfe8f872f94e336dcc5595665d", func := "redline/redlinelaw22.InvertTwice", spec := "invertTwice", unfollowed := true, recurses := true, loops := true, apart := false }
def InvertTwiceSaid : Prop := invertTwiceRow.holds Try.pinned (OpenSpec.ofChange invertTwiceSpec)

/-- ITS FALSE NEIGHBOUR: 'it returns false'. Refute it at one input. -/
def invertTwiceWrong : ChangeSpec := { name := "invertTwice", fn := fun _ => fun
  | [d] => { results := [.lit (.bool false)], args := [d] }
  | _ => none }
def InvertTwiceWrongFalsely : Prop := invertTwiceRow.holds Try.pinned (OpenSpec.ofChange invertTwiceWrong)

/- THE SECOND FORM. 'bulk': how many values and letters a reading holds, each counted each time it is reached (what is shared counts as often as it is met; a slice's spare places count too). A statement '..UptoSaid' is the law's where the arguments, and the package variables that the reading takes, are together of bulk at most 1048576: NARROWER than '..Said'. Prove '..Said' where nothing that the law and all that it calls make is longer than what came in: it says more and counts as full. Else prove '..UptoSaid'. A law counts once. -/
mutual
def uptoBulk {H : Type} : DataW H → Nat
  | .lit (.string bytes) => bytes.length + 1
  | .lit _ => 1
  | .nil => 1
  | .ptr d => uptoBulk d + 1
  | .slice elems spare => uptoBulkAll elems + uptoBulkAll spare + 1
  | .agg parts => uptoBulkAll parts + 1
  | .iface _ d => uptoBulk d + 1
  | .map entries => uptoBulkEntries entries + 1
  | .held _ => 1
def uptoBulkAll {H : Type} : List (DataW H) → Nat
  | [] => 0
  | d :: r => uptoBulk d + uptoBulkAll r
def uptoBulkEntries {H : Type} : List (Lit × DataW H) → Nat
  | [] => 0
  | x :: r => uptoBulkEntry x + uptoBulkEntries r
def uptoBulkEntry {H : Type} : Lit × DataW H → Nat
  | (.string bytes, d) => bytes.length + uptoBulk d + 1
  | (_, d) => uptoBulk d + 1
 end
def uptoSmall : (H : Type) → List (DataW H) → Bool := fun _ ds => decide (uptoBulkAll ds ≤ 1048576)
def OpenSpec.upto (s : _root_.Go.ChangeSpec) : _root_.Go.OpenSpec := { _root_.Go.OpenSpec.ofChange s with cond := some uptoSmall }

/-- 'redlinelaw13.ValueTells', WHERE WHAT IT READS IS OF BULK AT MOST 1048576: true; the input reads as it did. -/
def valueTellsUptoRow : OpenClaim := { program := "ytcnjlbbckdmifaa", sum := "b9f769afca647bef638c9af6f8764a5a0c1d5fbfe8f872f94e336dcc5595665d", func := "redline/redlinelaw13.ValueTells", spec := "valueTells", unfollowed := true, recurses := true, loops := true, apart := false, narrowed := true }
def ValueTellsUptoSaid : Prop := valueTellsUptoRow.holds Try.pinned (OpenSpec.upto valueTellsSpec)

/-- 'redlinelaw13.ValueOrder', WHERE WHAT IT READS IS OF BULK AT MOST 1048576: true; the input reads as it did. -/
def valueOrderUptoRow : OpenClaim := { program := "ytcnjlbbckdmifaa", sum := "b9f769afca647bef638c9af6f8764a5a0c1d5fbfe8f872f94e336dcc5595665d", func := "redline/redlinelaw13.ValueOrder", spec := "valueOrder", unfollowed := true, recurses := true, loops := true, apart := false, narrowed := true }
def ValueOrderUptoSaid : Prop := valueOrderUptoRow.holds Try.pinned (OpenSpec.upto valueOrderSpec)

/-- 'redlinelaw13.ValueFields', WHERE WHAT IT READS IS OF BULK AT MOST 1048576: true; the input reads as it did. -/
def valueFieldsUptoRow : OpenClaim := { program := "ytcnjlbbckdmifaa", sum := "b9f769afca647bef638c9af6f8764a5a0c1d5fbfe8f872f94e336dcc5595665d", func := "redline/redlinelaw13.ValueFields", spec := "valueFields", unfollowed := true, recurses := true, loops := true, apart := false, narrowed := true }
def ValueFieldsUptoSaid : Prop := valueFieldsUptoRow.holds Try.pinned (OpenSpec.upto valueFieldsSpec)

/-- 'redlinelaw13.ValuePairs', WHERE WHAT IT READS IS OF BULK AT MOST 1048576: true; the input reads as it did. -/
def valuePairsUptoRow : OpenClaim := { program := "ytcnjlbbckdmifaa", sum := "b9f769afca647bef638c9af6f8764a5a0c1d5fbfe8f872f94e336dcc5595665d", func := "redline/redlinelaw13.ValuePairs", spec := "valuePairs", unfollowed := true, recurses := true, loops := true, apart := false, narrowed := true }
def ValuePairsUptoSaid : Prop := valuePairsUptoRow.holds Try.pinned (OpenSpec.upto valuePairsSpec)

/-- 'redlinelaw21.EditSwaps', WHERE WHAT IT READS IS OF BULK AT MOST 1048576: true; the input reads as it did. -/
def editSwapsUptoRow : OpenClaim := { program := "ytcnjlbbckdmifaa", sum := "b9f769afca647bef638c9af6f8764a5a0c1d5fbfe8f872f94e336dcc5595665d", func := "redline/redlinelaw21.EditSwaps", spec := "editSwaps", unfollowed := true, recurses := true, loops := true, apart := false, narrowed := true }
def EditSwapsUptoSaid : Prop := editSwapsUptoRow.holds Try.pinned (OpenSpec.upto editSwapsSpec)

/-- 'redlinelaw21.EditTells', WHERE WHAT IT READS IS OF BULK AT MOST 1048576: true; the input reads as it did. -/
def editTellsUptoRow : OpenClaim := { program := "ytcnjlbbckdmifaa", sum := "b9f769afca647bef638c9af6f8764a5a0c1d5fbfe8f872f94e336dcc5595665d", func := "redline/redlinelaw21.EditTells", spec := "editTells", unfollowed := true, recurses := true, loops := true, apart := false, narrowed := true }
def EditTellsUptoSaid : Prop := editTellsUptoRow.holds Try.pinned (OpenSpec.upto editTellsSpec)

/-- 'redlinelaw22.InvertOf', WHERE WHAT IT READS IS OF BULK AT MOST 1048576: true; the input reads as it did. -/
def invertOfUptoRow : OpenClaim := { program := "ytcnjlbbckdmifaa", sum := "b9f769afca647bef638c9af6f8764a5a0c1d5fbfe8f872f94e336dcc5595665d", func := "redline/redlinelaw22.InvertOf", spec := "invertOf", unfollowed := true, recurses := true, loops := true, apart := false, narrowed := true }
def InvertOfUptoSaid : Prop := invertOfUptoRow.holds Try.pinned (OpenSpec.upto invertOfSpec)

/-- 'redlinelaw22.InvertSteps', WHERE WHAT IT READS IS OF BULK AT MOST 1048576: true; the input reads as it did. -/
def invertStepsUptoRow : OpenClaim := { program := "ytcnjlbbckdmifaa", sum := "b9f769afca647bef638c9af6f8764a5a0c1d5fbfe8f872f94e336dcc5595665d", func := "redline/redlinelaw22.InvertSteps", spec := "invertSteps", unfollowed := true, recurses := true, loops := true, apart := false, narrowed := true }
def InvertStepsUptoSaid : Prop := invertStepsUptoRow.holds Try.pinned (OpenSpec.upto invertStepsSpec)

/-- 'redlinelaw22.InvertTwice', WHERE WHAT IT READS IS OF BULK AT MOST 1048576: true; the input reads as it did. -/
def invertTwiceUptoRow : OpenClaim := { program := "ytcnjlbbckdmifaa", sum := "b9f769afca647bef638c9af6f8764a5a0c1d5fbfe8f872f94e336dcc5595665d", func := "redline/redlinelaw22.InvertTwice", spec := "invertTwice", unfollowed := true, recurses := true, loops := true, apart := false, narrowed := true }
def InvertTwiceUptoSaid : Prop := invertTwiceUptoRow.holds Try.pinned (OpenSpec.upto invertTwiceSpec)

end Rows
end Go.Proofs.Ytcnjlbbckdmifaa
