/-
  No cell of these rows narrows 'for every input' (looked for: loops, veiled, ifaces, maps, wideKeys, modest, calm, conditions, laid).
  DERIVED. THE GIVEN ROWS OF THIS SEAT. 7 by the template 'for every input the law returns true; each argument reads behind the call as it read before'; 0 by the template 'total and deterministic' (their statements: YtnbadeaiocandaaTotals.lean).
  GIVEN WITH THE SEED: the statements are not yours to turn. If you find one false, say at which input.
  Laid BY PROGRAM, IN A SANDBOX (cutbox-rows.mjs): the forced cells as the released guide's own fill.sh prints them over the translation b870ada69bceab0b… (all of the seat's roots in one cut). By AI agents, Wed Nov 11 2026. No macro, syntax, notation, axiom, sorry.
-/
import Derived.Test.YtnbadeaiocandaaChecked
import GoSem.Claim
import GoSem.ClaimJoined
import GoSem.ClaimMapViews
import Derived.JoinedTies
import Derived.KernelRfl
namespace Go.Proofs.Ytnbadeaiocandaa
/- THE CELL 'sum', in the pinned program and in every row, IS THE sha256 OF THE DUMP (.gsa) THAT YtnbadeaiocandaaProg.lean LOADS. Nothing in Lean hashes anything: it is a label: what it is worth is what the hold of that sum in a sandbox is worth. -/
noncomputable def Try.pinned : Pinned := { name := "ytnbadeaiocandaa", sum := "b870ada69bceab0bf402c28cc5306de0d6749b96a51900c932c669eafb8c5514", checked := Try.checked }
namespace Rows
def none {H : Type} : Left H := { results := [], args := [] }

/-- 'jetwaylaw01.WordVars': WHATEVER THE INPUT: true; the input reads as it did. -/
def wordVarsSpec : ChangeSpec := { name := "wordVars", fn := fun _ => fun
  | [d1, d2] => { results := [.lit (.bool true)], args := [d1, d2] }
  | _ => none }
def wordVarsRow : OpenClaim := { program := "ytnbadeaiocandaa", sum := "b870ada69bceab0bf402c28cc5306de0d6749b96a51900c932c669eafb8c5514", func := "jetway/jetwaylaw01.WordVars", spec := "wordVars", apart := false }
def WordVarsSaid : Prop := wordVarsRow.holds Try.pinned (OpenSpec.ofChange wordVarsSpec)

/-- ITS FALSE NEIGHBOUR: 'it returns false'. Refute it at one input. -/
def wordVarsWrong : ChangeSpec := { name := "wordVars", fn := fun _ => fun
  | [d1, d2] => { results := [.lit (.bool false)], args := [d1, d2] }
  | _ => none }
def WordVarsWrongFalsely : Prop := wordVarsRow.holds Try.pinned (OpenSpec.ofChange wordVarsWrong)

/-- 'jetwaylaw01.WordSums': WHATEVER THE INPUT: true; the input reads as it did. -/
def wordSumsSpec : ChangeSpec := { name := "wordSums", fn := fun _ => fun
  | [d] => { results := [.lit (.bool true)], args := [d] }
  | _ => none }
def wordSumsRow : OpenClaim := { program := "ytnbadeaiocandaa", sum := "b870ada69bceab0bf402c28cc5306de0d6749b96a51900c932c669eafb8c5514", func := "jetway/jetwaylaw01.WordSums", spec := "wordSums", apart := false }
def WordSumsSaid : Prop := wordSumsRow.holds Try.pinned (OpenSpec.ofChange wordSumsSpec)

/-- ITS FALSE NEIGHBOUR: 'it returns false'. Refute it at one input. -/
def wordSumsWrong : ChangeSpec := { name := "wordSums", fn := fun _ => fun
  | [d] => { results := [.lit (.bool false)], args := [d] }
  | _ => none }
def WordSumsWrongFalsely : Prop := wordSumsRow.holds Try.pinned (OpenSpec.ofChange wordSumsWrong)

/-- 'jetwaylaw01.WordBack': WHATEVER THE INPUT: true; the input reads as it did. -/
def wordBackSpec : ChangeSpec := { name := "wordBack", fn := fun _ => fun
  | [d1, d2] => { results := [.lit (.bool true)], args := [d1, d2] }
  | _ => none }
def wordBackRow : OpenClaim := { program := "ytnbadeaiocandaa", sum := "b870ada69bceab0bf402c28cc5306de0d6749b96a51900c932c669eafb8c5514", func := "jetway/jetwaylaw01.WordBack", spec := "wordBack", apart := false }
def WordBackSaid : Prop := wordBackRow.holds Try.pinned (OpenSpec.ofChange wordBackSpec)

/-- ITS FALSE NEIGHBOUR: 'it returns false'. Refute it at one input. -/
def wordBackWrong : ChangeSpec := { name := "wordBack", fn := fun _ => fun
  | [d1, d2] => { results := [.lit (.bool false)], args := [d1, d2] }
  | _ => none }
def WordBackWrongFalsely : Prop := wordBackRow.holds Try.pinned (OpenSpec.ofChange wordBackWrong)

/-- 'jetwaylaw01.WordUnlike': WHATEVER THE INPUT: true; the input reads as it did. -/
def wordUnlikeSpec : ChangeSpec := { name := "wordUnlike", fn := fun _ => fun
  | [d1, d2] => { results := [.lit (.bool true)], args := [d1, d2] }
  | _ => none }
def wordUnlikeRow : OpenClaim := { program := "ytnbadeaiocandaa", sum := "b870ada69bceab0bf402c28cc5306de0d6749b96a51900c932c669eafb8c5514", func := "jetway/jetwaylaw01.WordUnlike", spec := "wordUnlike", apart := false }
def WordUnlikeSaid : Prop := wordUnlikeRow.holds Try.pinned (OpenSpec.ofChange wordUnlikeSpec)

/-- ITS FALSE NEIGHBOUR: 'it returns false'. Refute it at one input. -/
def wordUnlikeWrong : ChangeSpec := { name := "wordUnlike", fn := fun _ => fun
  | [d1, d2] => { results := [.lit (.bool false)], args := [d1, d2] }
  | _ => none }
def WordUnlikeWrongFalsely : Prop := wordUnlikeRow.holds Try.pinned (OpenSpec.ofChange wordUnlikeWrong)

/-- 'jetwaylaw01.WordTurned': WHATEVER THE INPUT: true; the input reads as it did. -/
def wordTurnedSpec : ChangeSpec := { name := "wordTurned", fn := fun _ => fun
  | [d1, d2, d3] => { results := [.lit (.bool true)], args := [d1, d2, d3] }
  | _ => none }
def wordTurnedRow : OpenClaim := { program := "ytnbadeaiocandaa", sum := "b870ada69bceab0bf402c28cc5306de0d6749b96a51900c932c669eafb8c5514", func := "jetway/jetwaylaw01.WordTurned", spec := "wordTurned", apart := false }
def WordTurnedSaid : Prop := wordTurnedRow.holds Try.pinned (OpenSpec.ofChange wordTurnedSpec)

/-- ITS FALSE NEIGHBOUR: 'it returns false'. Refute it at one input. -/
def wordTurnedWrong : ChangeSpec := { name := "wordTurned", fn := fun _ => fun
  | [d1, d2, d3] => { results := [.lit (.bool false)], args := [d1, d2, d3] }
  | _ => none }
def WordTurnedWrongFalsely : Prop := wordTurnedRow.holds Try.pinned (OpenSpec.ofChange wordTurnedWrong)

/-- 'jetwaylaw01.WordZigs': WHATEVER THE INPUT: true; the input reads as it did. -/
def wordZigsSpec : ChangeSpec := { name := "wordZigs", fn := fun _ => fun
  | [d1, d2] => { results := [.lit (.bool true)], args := [d1, d2] }
  | _ => none }
def wordZigsRow : OpenClaim := { program := "ytnbadeaiocandaa", sum := "b870ada69bceab0bf402c28cc5306de0d6749b96a51900c932c669eafb8c5514", func := "jetway/jetwaylaw01.WordZigs", spec := "wordZigs", apart := false }
def WordZigsSaid : Prop := wordZigsRow.holds Try.pinned (OpenSpec.ofChange wordZigsSpec)

/-- ITS FALSE NEIGHBOUR: 'it returns false'. Refute it at one input. -/
def wordZigsWrong : ChangeSpec := { name := "wordZigs", fn := fun _ => fun
  | [d1, d2] => { results := [.lit (.bool false)], args := [d1, d2] }
  | _ => none }
def WordZigsWrongFalsely : Prop := wordZigsRow.holds Try.pinned (OpenSpec.ofChange wordZigsWrong)

/-- 'jetwaylaw01.WordPuts': WHATEVER THE INPUT: true; the input reads as it did. -/
def wordPutsSpec : ChangeSpec := { name := "wordPuts", fn := fun _ => fun
  | [d1, d2, d3, d4] => { results := [.lit (.bool true)], args := [d1, d2, d3, d4] }
  | _ => none }
def wordPutsRow : OpenClaim := { program := "ytnbadeaiocandaa", sum := "b870ada69bceab0bf402c28cc5306de0d6749b96a51900c932c669eafb8c5514", func := "jetway/jetwaylaw01.WordPuts", spec := "wordPuts", apart := false }
def WordPutsSaid : Prop := wordPutsRow.holds Try.pinned (OpenSpec.ofChange wordPutsSpec)

/-- ITS FALSE NEIGHBOUR: 'it returns false'. Refute it at one input. -/
def wordPutsWrong : ChangeSpec := { name := "wordPuts", fn := fun _ => fun
  | [d1, d2, d3, d4] => { results := [.lit (.bool false)], args := [d1, d2, d3, d4] }
  | _ => none }
def WordPutsWrongFalsely : Prop := wordPutsRow.holds Try.pinned (OpenSpec.ofChange wordPutsWrong)

/- THE SECOND FORM. 'bulk': how many values and letters a reading holds, each counted each time it is reached (what is shared counts as often as it is met; a slice's spare places count too). A statement '..UptoSaid' is the law's where the arguments, and the package variables that the reading takes, are together of bulk at most 1048576: NARROWER than '..Said'. Prove '..Said' where nothing that the law and all that it calls make is longer than what came in: it says more and counts as full. Else prove '..UptoSaid'. A law counts once. -/
mutual
def uptoBulk {H : Type} : DataW H → Nat
  | .lit (.string bytes) => bytes.length + 1
  | .lit _ => 1
  | .nil => 1
  | .ptr d => uptoBulk d + 1
  | .slice elems spare => uptoBulkAll elems + uptoBulkAll spare + 1
  | .agg parts => uptoBulkAll parts + 1
  | .iface _ d => uptoBulk d + 1
  | .map entries => uptoBulkEntries entries + 1
  | .held _ => 1
def uptoBulkAll {H : Type} : List (DataW H) → Nat
  | [] => 0
  | d :: r => uptoBulk d + uptoBulkAll r
def uptoBulkEntries {H : Type} : List (Lit × DataW H) → Nat
  | [] => 0
  | x :: r => uptoBulkEntry x + uptoBulkEntries r
def uptoBulkEntry {H : Type} : Lit × DataW H → Nat
  | (.string bytes, d) => bytes.length + uptoBulk d + 1
  | (_, d) => uptoBulk d + 1
 end
def uptoSmall : (H : Type) → List (DataW H) → Bool := fun _ ds => decide (uptoBulkAll ds ≤ 1048576)
def OpenSpec.upto (s : _root_.Go.ChangeSpec) : _root_.Go.OpenSpec := { _root_.Go.OpenSpec.ofChange s with cond := some uptoSmall }

/-- 'jetwaylaw01.WordVars', WHERE WHAT IT READS IS OF BULK AT MOST 1048576: true; the input reads as it did. -/
def wordVarsUptoRow : OpenClaim := { program := "ytnbadeaiocandaa", sum := "b870ada69bceab0bf402c28cc5306de0d6749b96a51900c932c669eafb8c5514", func := "jetway/jetwaylaw01.WordVars", spec := "wordVars", apart := false, narrowed := true }
def WordVarsUptoSaid : Prop := wordVarsUptoRow.holds Try.pinned (OpenSpec.upto wordVarsSpec)

/-- 'jetwaylaw01.WordSums', WHERE WHAT IT READS IS OF BULK AT MOST 1048576: true; the input reads as it did. -/
def wordSumsUptoRow : OpenClaim := { program := "ytnbadeaiocandaa", sum := "b870ada69bceab0bf402c28cc5306de0d6749b96a51900c932c669eafb8c5514", func := "jetway/jetwaylaw01.WordSums", spec := "wordSums", apart := false, narrowed := true }
def WordSumsUptoSaid : Prop := wordSumsUptoRow.holds Try.pinned (OpenSpec.upto wordSumsSpec)

/-- 'jetwaylaw01.WordBack', WHERE WHAT IT READS IS OF BULK AT MOST 1048576: true; the input reads as it did. -/
def wordBackUptoRow : OpenClaim := { program := "ytnbadeaiocandaa", sum := "b870ada69bceab0bf402c28cc5306de0d6749b96a51900c932c669eafb8c5514", func := "jetway/jetwaylaw01.WordBack", spec := "wordBack", apart := false, narrowed := true }
def WordBackUptoSaid : Prop := wordBackUptoRow.holds Try.pinned (OpenSpec.upto wordBackSpec)

/-- 'jetwaylaw01.WordUnlike', WHERE WHAT IT READS IS OF BULK AT MOST 1048576: true; the input reads as it did. -/
def wordUnlikeUptoRow : OpenClaim := { program := "ytnbadeaiocandaa", sum := "b870ada69bceab0bf402c28cc5306de0d6749b96a51900c932c669eafb8c5514", func := "jetway/jetwaylaw01.WordUnlike", spec := "wordUnlike", apart := false, narrowed := true }
def WordUnlikeUptoSaid : Prop := wordUnlikeUptoRow.holds Try.pinned (OpenSpec.upto wordUnlikeSpec)

/-- 'jetwaylaw01.WordTurned', WHERE WHAT IT READS IS OF BULK AT MOST 1048576: true; the input reads as it did. -/
def wordTurnedUptoRow : OpenClaim := { program := "ytnbadeaiocandaa", sum := "b870ada69bceab0bf402c28cc5306de0d6749b96a51900c932c669eafb8c5514", func := "jetway/jetwaylaw01.WordTurned", spec := "wordTurned", apart := false, narrowed := true }
def WordTurnedUptoSaid : Prop := wordTurnedUptoRow.holds Try.pinned (OpenSpec.upto wordTurnedSpec)

/-- 'jetwaylaw01.WordZigs', WHERE WHAT IT READS IS OF BULK AT MOST 1048576: true; the input reads as it did. -/
def wordZigsUptoRow : OpenClaim := { program := "ytnbadeaiocandaa", sum := "b870ada69bceab0bf402c28cc5306de0d6749b96a51900c932c669eafb8c5514", func := "jetway/jetwaylaw01.WordZigs", spec := "wordZigs", apart := false, narrowed := true }
def WordZigsUptoSaid : Prop := wordZigsUptoRow.holds Try.pinned (OpenSpec.upto wordZigsSpec)

/-- 'jetwaylaw01.WordPuts', WHERE WHAT IT READS IS OF BULK AT MOST 1048576: true; the input reads as it did. -/
def wordPutsUptoRow : OpenClaim := { program := "ytnbadeaiocandaa", sum := "b870ada69bceab0bf402c28cc5306de0d6749b96a51900c932c669eafb8c5514", func := "jetway/jetwaylaw01.WordPuts", spec := "wordPuts", apart := false, narrowed := true }
def WordPutsUptoSaid : Prop := wordPutsUptoRow.holds Try.pinned (OpenSpec.upto wordPutsSpec)

end Rows
end Go.Proofs.Ytnbadeaiocandaa
