/-
  No cell of these rows narrows 'for every input' (looked for: loops, veiled, ifaces, maps, wideKeys, modest, calm, conditions, laid).
  DERIVED. THE GIVEN ROWS OF THIS SEAT. 6 by the template 'for every input the law returns true; each argument reads behind the call as it read before'; 0 by the template 'total and deterministic' (their statements: YtnjfioikpajhlaaTotals.lean).
  GIVEN WITH THE SEED: the statements are not yours to turn. If you find one false, say at which input.
  Laid BY PROGRAM, IN A SANDBOX (cutbox-rows.mjs): the forced cells as the released guide's own fill.sh prints them over the translation 894807168bf5fb78… (all of the seat's roots in one cut). By AI agents, Wed Nov 11 2026. No macro, syntax, notation, axiom, sorry.
-/
import Derived.Test.YtnjfioikpajhlaaChecked
import GoSem.Claim
import GoSem.ClaimJoined
import GoSem.ClaimMapViews
import Derived.JoinedTies
import Derived.KernelRfl
namespace Go.Proofs.Ytnjfioikpajhlaa
/- THE CELL 'sum', in the pinned program and in every row, IS THE sha256 OF THE DUMP (.gsa) THAT YtnjfioikpajhlaaProg.lean LOADS. Nothing in Lean hashes anything: it is a label: what it is worth is what the hold of that sum in a sandbox is worth. -/
noncomputable def Try.pinned : Pinned := { name := "ytnjfioikpajhlaa", sum := "894807168bf5fb78349ab2fad38f8ea7bf2bb28dcc81f46d12bf159f5e6e39e8", checked := Try.checked }
namespace Rows
def none {H : Type} : Left H := { results := [], args := [] }

/-- 'jetwaylaw06.StoreAtOnce': WHATEVER THE INPUT: true; the input reads as it did. -/
def storeAtOnceSpec : ChangeSpec := { name := "storeAtOnce", fn := fun _ => fun
  | [d1, d2] => { results := [.lit (.bool true)], args := [d1, d2] }
  | _ => none }
def storeAtOnceRow : OpenClaim := { program := "ytnjfioikpajhlaa", sum := "894807168bf5fb78349ab2fad38f8ea7bf2bb28dcc81f46d12bf159f5e6e39e8", func := "jetway/jetwaylaw06.StoreAtOnce", spec := "storeAtOnce", unfollowed := true, recurses := true, apart := false }
def StoreAtOnceSaid : Prop := storeAtOnceRow.holds Try.pinned (OpenSpec.ofChange storeAtOnceSpec)

/-- ITS FALSE NEIGHBOUR: 'it returns false'. Refute it at one input. -/
def storeAtOnceWrong : ChangeSpec := { name := "storeAtOnce", fn := fun _ => fun
  | [d1, d2] => { results := [.lit (.bool false)], args := [d1, d2] }
  | _ => none }
def StoreAtOnceWrongFalsely : Prop := storeAtOnceRow.holds Try.pinned (OpenSpec.ofChange storeAtOnceWrong)

/-- 'jetwaylaw06.StoreRanges': WHATEVER THE INPUT: true; the input reads as it did. -/
def storeRangesSpec : ChangeSpec := { name := "storeRanges", fn := fun _ => fun
  | [d1, d2, d3, d4] => { results := [.lit (.bool true)], args := [d1, d2, d3, d4] }
  | _ => none }
def storeRangesRow : OpenClaim := { program := "ytnjfioikpajhlaa", sum := "894807168bf5fb78349ab2fad38f8ea7bf2bb28dcc81f46d12bf159f5e6e39e8", func := "jetway/jetwaylaw06.StoreRanges", spec := "storeRanges", unfollowed := true, recurses := true, apart := false }
def StoreRangesSaid : Prop := storeRangesRow.holds Try.pinned (OpenSpec.ofChange storeRangesSpec)

/-- ITS FALSE NEIGHBOUR: 'it returns false'. Refute it at one input. -/
def storeRangesWrong : ChangeSpec := { name := "storeRanges", fn := fun _ => fun
  | [d1, d2, d3, d4] => { results := [.lit (.bool false)], args := [d1, d2, d3, d4] }
  | _ => none }
def StoreRangesWrongFalsely : Prop := storeRangesRow.holds Try.pinned (OpenSpec.ofChange storeRangesWrong)

/-- 'jetwaylaw06.StoreFull': WHATEVER THE INPUT: true; the input reads as it did. -/
def storeFullSpec : ChangeSpec := { name := "storeFull", fn := fun _ => fun
  | [d1, d2, d3, d4] => { results := [.lit (.bool true)], args := [d1, d2, d3, d4] }
  | _ => none }
def storeFullRow : OpenClaim := { program := "ytnjfioikpajhlaa", sum := "894807168bf5fb78349ab2fad38f8ea7bf2bb28dcc81f46d12bf159f5e6e39e8", func := "jetway/jetwaylaw06.StoreFull", spec := "storeFull", unfollowed := true, recurses := true, apart := false }
def StoreFullSaid : Prop := storeFullRow.holds Try.pinned (OpenSpec.ofChange storeFullSpec)

/-- ITS FALSE NEIGHBOUR: 'it returns false'. Refute it at one input. -/
def storeFullWrong : ChangeSpec := { name := "storeFull", fn := fun _ => fun
  | [d1, d2, d3, d4] => { results := [.lit (.bool false)], args := [d1, d2, d3, d4] }
  | _ => none }
def StoreFullWrongFalsely : Prop := storeFullRow.holds Try.pinned (OpenSpec.ofChange storeFullWrong)

/-- 'jetwaylaw06.StoreOpens': WHATEVER THE INPUT: true; the input reads as it did. -/
def storeOpensSpec : ChangeSpec := { name := "storeOpens", fn := fun _ => fun
  | [d] => { results := [.lit (.bool true)], args := [d] }
  | _ => none }
def storeOpensRow : OpenClaim := { program := "ytnjfioikpajhlaa", sum := "894807168bf5fb78349ab2fad38f8ea7bf2bb28dcc81f46d12bf159f5e6e39e8", func := "jetway/jetwaylaw06.StoreOpens", spec := "storeOpens", unfollowed := true, recurses := true, apart := false }
def StoreOpensSaid : Prop := storeOpensRow.holds Try.pinned (OpenSpec.ofChange storeOpensSpec)

/-- ITS FALSE NEIGHBOUR: 'it returns false'. Refute it at one input. -/
def storeOpensWrong : ChangeSpec := { name := "storeOpens", fn := fun _ => fun
  | [d] => { results := [.lit (.bool false)], args := [d] }
  | _ => none }
def StoreOpensWrongFalsely : Prop := storeOpensRow.holds Try.pinned (OpenSpec.ofChange storeOpensWrong)

/-- 'jetwaylaw06.StoreVersions': WHATEVER THE INPUT: true; the input reads as it did. -/
def storeVersionsSpec : ChangeSpec := { name := "storeVersions", fn := fun _ => fun
  | [d] => { results := [.lit (.bool true)], args := [d] }
  | _ => none }
def storeVersionsRow : OpenClaim := { program := "ytnjfioikpajhlaa", sum := "894807168bf5fb78349ab2fad38f8ea7bf2bb28dcc81f46d12bf159f5e6e39e8", func := "jetway/jetwaylaw06.StoreVersions", spec := "storeVersions", unfollowed := true, recurses := true, apart := false }
def StoreVersionsSaid : Prop := storeVersionsRow.holds Try.pinned (OpenSpec.ofChange storeVersionsSpec)

/-- ITS FALSE NEIGHBOUR: 'it returns false'. Refute it at one input. -/
def storeVersionsWrong : ChangeSpec := { name := "storeVersions", fn := fun _ => fun
  | [d] => { results := [.lit (.bool false)], args := [d] }
  | _ => none }
def StoreVersionsWrongFalsely : Prop := storeVersionsRow.holds Try.pinned (OpenSpec.ofChange storeVersionsWrong)

/-- 'jetwaylaw06.StoreLasts': WHATEVER THE INPUT: true; the input reads as it did. -/
def storeLastsSpec : ChangeSpec := { name := "storeLasts", fn := fun _ => fun
  | [d1, d2, d3, d4, d5, d6] => { results := [.lit (.bool true)], args := [d1, d2, d3, d4, d5, d6] }
  | _ => none }
def storeLastsRow : OpenClaim := { program := "ytnjfioikpajhlaa", sum := "894807168bf5fb78349ab2fad38f8ea7bf2bb28dcc81f46d12bf159f5e6e39e8", func := "jetway/jetwaylaw06.StoreLasts", spec := "storeLasts", unfollowed := true, recurses := true, apart := false }
def StoreLastsSaid : Prop := storeLastsRow.holds Try.pinned (OpenSpec.ofChange storeLastsSpec)

/-- ITS FALSE NEIGHBOUR: 'it returns false'. Refute it at one input. -/
def storeLastsWrong : ChangeSpec := { name := "storeLasts", fn := fun _ => fun
  | [d1, d2, d3, d4, d5, d6] => { results := [.lit (.bool false)], args := [d1, d2, d3, d4, d5, d6] }
  | _ => none }
def StoreLastsWrongFalsely : Prop := storeLastsRow.holds Try.pinned (OpenSpec.ofChange storeLastsWrong)

/- THE SECOND FORM. 'bulk': how many values and letters a reading holds, each counted each time it is reached (what is shared counts as often as it is met; a slice's spare places count too). A statement '..UptoSaid' is the law's where the arguments, and the package variables that the reading takes, are together of bulk at most 1048576: NARROWER than '..Said'. Prove '..Said' where nothing that the law and all that it calls make is longer than what came in: it says more and counts as full. Else prove '..UptoSaid'. A law counts once. -/
mutual
def uptoBulk {H : Type} : DataW H → Nat
  | .lit (.string bytes) => bytes.length + 1
  | .lit _ => 1
  | .nil => 1
  | .ptr d => uptoBulk d + 1
  | .slice elems spare => uptoBulkAll elems + uptoBulkAll spare + 1
  | .agg parts => uptoBulkAll parts + 1
  | .iface _ d => uptoBulk d + 1
  | .map entries => uptoBulkEntries entries + 1
  | .held _ => 1
def uptoBulkAll {H : Type} : List (DataW H) → Nat
  | [] => 0
  | d :: r => uptoBulk d + uptoBulkAll r
def uptoBulkEntries {H : Type} : List (Lit × DataW H) → Nat
  | [] => 0
  | x :: r => uptoBulkEntry x + uptoBulkEntries r
def uptoBulkEntry {H : Type} : Lit × DataW H → Nat
  | (.string bytes, d) => bytes.length + uptoBulk d + 1
  | (_, d) => uptoBulk d + 1
 end
def uptoSmall : (H : Type) → List (DataW H) → Bool := fun _ ds => decide (uptoBulkAll ds ≤ 1048576)
def OpenSpec.upto (s : _root_.Go.ChangeSpec) : _root_.Go.OpenSpec := { _root_.Go.OpenSpec.ofChange s with cond := some uptoSmall }

/-- 'jetwaylaw06.StoreAtOnce', WHERE WHAT IT READS IS OF BULK AT MOST 1048576: true; the input reads as it did. -/
def storeAtOnceUptoRow : OpenClaim := { program := "ytnjfioikpajhlaa", sum := "894807168bf5fb78349ab2fad38f8ea7bf2bb28dcc81f46d12bf159f5e6e39e8", func := "jetway/jetwaylaw06.StoreAtOnce", spec := "storeAtOnce", unfollowed := true, recurses := true, apart := false, narrowed := true }
def StoreAtOnceUptoSaid : Prop := storeAtOnceUptoRow.holds Try.pinned (OpenSpec.upto storeAtOnceSpec)

/-- 'jetwaylaw06.StoreRanges', WHERE WHAT IT READS IS OF BULK AT MOST 1048576: true; the input reads as it did. -/
def storeRangesUptoRow : OpenClaim := { program := "ytnjfioikpajhlaa", sum := "894807168bf5fb78349ab2fad38f8ea7bf2bb28dcc81f46d12bf159f5e6e39e8", func := "jetway/jetwaylaw06.StoreRanges", spec := "storeRanges", unfollowed := true, recurses := true, apart := false, narrowed := true }
def StoreRangesUptoSaid : Prop := storeRangesUptoRow.holds Try.pinned (OpenSpec.upto storeRangesSpec)

/-- 'jetwaylaw06.StoreFull', WHERE WHAT IT READS IS OF BULK AT MOST 1048576: true; the input reads as it did. -/
def storeFullUptoRow : OpenClaim := { program := "ytnjfioikpajhlaa", sum := "894807168bf5fb78349ab2fad38f8ea7bf2bb28dcc81f46d12bf159f5e6e39e8", func := "jetway/jetwaylaw06.StoreFull", spec := "storeFull", unfollowed := true, recurses := true, apart := false, narrowed := true }
def StoreFullUptoSaid : Prop := storeFullUptoRow.holds Try.pinned (OpenSpec.upto storeFullSpec)

/-- 'jetwaylaw06.StoreOpens', WHERE WHAT IT READS IS OF BULK AT MOST 1048576: true; the input reads as it did. -/
def storeOpensUptoRow : OpenClaim := { program := "ytnjfioikpajhlaa", sum := "894807168bf5fb78349ab2fad38f8ea7bf2bb28dcc81f46d12bf159f5e6e39e8", func := "jetway/jetwaylaw06.StoreOpens", spec := "storeOpens", unfollowed := true, recurses := true, apart := false, narrowed := true }
def StoreOpensUptoSaid : Prop := storeOpensUptoRow.holds Try.pinned (OpenSpec.upto storeOpensSpec)

/-- 'jetwaylaw06.StoreVersions', WHERE WHAT IT READS IS OF BULK AT MOST 1048576: true; the input reads as it did. -/
def storeVersionsUptoRow : OpenClaim := { program := "ytnjfioikpajhlaa", sum := "894807168bf5fb78349ab2fad38f8ea7bf2bb28dcc81f46d12bf159f5e6e39e8", func := "jetway/jetwaylaw06.StoreVersions", spec := "storeVersions", unfollowed := true, recurses := true, apart := false, narrowed := true }
def StoreVersionsUptoSaid : Prop := storeVersionsUptoRow.holds Try.pinned (OpenSpec.upto storeVersionsSpec)

/-- 'jetwaylaw06.StoreLasts', WHERE WHAT IT READS IS OF BULK AT MOST 1048576: true; the input reads as it did. -/
def storeLastsUptoRow : OpenClaim := { program := "ytnjfioikpajhlaa", sum := "894807168bf5fb78349ab2fad38f8ea7bf2bb28dcc81f46d12bf159f5e6e39e8", func := "jetway/jetwaylaw06.StoreLasts", spec := "storeLasts", unfollowed := true, recurses := true, apart := false, narrowed := true }
def StoreLastsUptoSaid : Prop := storeLastsUptoRow.holds Try.pinned (OpenSpec.upto storeLastsSpec)

end Rows
end Go.Proofs.Ytnjfioikpajhlaa
