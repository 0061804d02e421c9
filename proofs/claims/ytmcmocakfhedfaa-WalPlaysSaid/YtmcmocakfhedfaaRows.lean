/-
  No cell of these rows narrows 'for every input' (looked for: loops, veiled, ifaces, maps, wideKeys, modest, calm, conditions, laid).
  DERIVED. THE GIVEN ROWS OF THIS SEAT. 7 by the template 'for every input the law returns true; each argument reads behind the call as it read before'; 0 by the template 'total and deterministic' (their statements: YtmcmocakfhedfaaTotals.lean).
  GIVEN WITH THE SEED: the statements are not yours to turn. If you find one false, say at which input.
  Laid BY PROGRAM, IN A SANDBOX (cutbox-rows.mjs): the forced cells as the released guide's own fill.sh prints them over the translation ab8d8735d11c504d… (all of the seat's roots in one cut). By AI agents, Wed Nov 11 2026. No macro, syntax, notation, axiom, sorry.
-/
import Derived.Test.YtmcmocakfhedfaaChecked
import GoSem.Claim
import GoSem.ClaimJoined
import GoSem.ClaimMapViews
import Derived.JoinedTies
import Derived.KernelRfl
namespace Go.Proofs.Ytmcmocakfhedfaa
/- THE CELL 'sum', in the pinned program and in every row, IS THE sha256 OF THE DUMP (.gsa) THAT YtmcmocakfhedfaaProg.lean LOADS. Nothing in Lean hashes anything: it is a label: what it is worth is what the hold of that sum in a sandbox is worth. -/
noncomputable def Try.pinned : Pinned := { name := "ytmcmocakfhedfaa", sum := "ab8d8735d11c504dc71a89459681648afa98a35f97024d5f348792929601c95f", checked := Try.checked }
namespace Rows
def none {H : Type} : Left H := { results := [], args := [] }

/-- 'jetwaylaw05.WalNeeds': WHATEVER THE INPUT: true; the input reads as it did. -/
def walNeedsSpec : ChangeSpec := { name := "walNeeds", fn := fun _ => fun
  | [d1, d2] => { results := [.lit (.bool true)], args := [d1, d2] }
  | _ => none }
def walNeedsRow : OpenClaim := { program := "ytmcmocakfhedfaa", sum := "ab8d8735d11c504dc71a89459681648afa98a35f97024d5f348792929601c95f", func := "jetway/jetwaylaw05.WalNeeds", spec := "walNeeds", apart := false }
def WalNeedsSaid : Prop := walNeedsRow.holds Try.pinned (OpenSpec.ofChange walNeedsSpec)

/-- ITS FALSE NEIGHBOUR: 'it returns false'. Refute it at one input. -/
def walNeedsWrong : ChangeSpec := { name := "walNeeds", fn := fun _ => fun
  | [d1, d2] => { results := [.lit (.bool false)], args := [d1, d2] }
  | _ => none }
def WalNeedsWrongFalsely : Prop := walNeedsRow.holds Try.pinned (OpenSpec.ofChange walNeedsWrong)

/-- 'jetwaylaw05.WalFull': WHATEVER THE INPUT: true; the input reads as it did. -/
def walFullSpec : ChangeSpec := { name := "walFull", fn := fun _ => fun
  | [d1, d2] => { results := [.lit (.bool true)], args := [d1, d2] }
  | _ => none }
def walFullRow : OpenClaim := { program := "ytmcmocakfhedfaa", sum := "ab8d8735d11c504dc71a89459681648afa98a35f97024d5f348792929601c95f", func := "jetway/jetwaylaw05.WalFull", spec := "walFull", apart := false }
def WalFullSaid : Prop := walFullRow.holds Try.pinned (OpenSpec.ofChange walFullSpec)

/-- ITS FALSE NEIGHBOUR: 'it returns false'. Refute it at one input. -/
def walFullWrong : ChangeSpec := { name := "walFull", fn := fun _ => fun
  | [d1, d2] => { results := [.lit (.bool false)], args := [d1, d2] }
  | _ => none }
def WalFullWrongFalsely : Prop := walFullRow.holds Try.pinned (OpenSpec.ofChange walFullWrong)

/-- 'jetwaylaw05.WalTurned': WHATEVER THE INPUT: true; the input reads as it did. -/
def walTurnedSpec : ChangeSpec := { name := "walTurned", fn := fun _ => fun
  | [d1, d2, d3, d4] => { results := [.lit (.bool true)], args := [d1, d2, d3, d4] }
  | _ => none }
def walTurnedRow : OpenClaim := { program := "ytmcmocakfhedfaa", sum := "ab8d8735d11c504dc71a89459681648afa98a35f97024d5f348792929601c95f", func := "jetway/jetwaylaw05.WalTurned", spec := "walTurned", apart := false }
def WalTurnedSaid : Prop := walTurnedRow.holds Try.pinned (OpenSpec.ofChange walTurnedSpec)

/-- ITS FALSE NEIGHBOUR: 'it returns false'. Refute it at one input. -/
def walTurnedWrong : ChangeSpec := { name := "walTurned", fn := fun _ => fun
  | [d1, d2, d3, d4] => { results := [.lit (.bool false)], args := [d1, d2, d3, d4] }
  | _ => none }
def WalTurnedWrongFalsely : Prop := walTurnedRow.holds Try.pinned (OpenSpec.ofChange walTurnedWrong)

/-- 'jetwaylaw05.WalOpens': WHATEVER THE INPUT: true; the input reads as it did. -/
def walOpensSpec : ChangeSpec := { name := "walOpens", fn := fun _ => fun
  | [d1, d2] => { results := [.lit (.bool true)], args := [d1, d2] }
  | _ => none }
def walOpensRow : OpenClaim := { program := "ytmcmocakfhedfaa", sum := "ab8d8735d11c504dc71a89459681648afa98a35f97024d5f348792929601c95f", func := "jetway/jetwaylaw05.WalOpens", spec := "walOpens", apart := false }
def WalOpensSaid : Prop := walOpensRow.holds Try.pinned (OpenSpec.ofChange walOpensSpec)

/-- ITS FALSE NEIGHBOUR: 'it returns false'. Refute it at one input. -/
def walOpensWrong : ChangeSpec := { name := "walOpens", fn := fun _ => fun
  | [d1, d2] => { results := [.lit (.bool false)], args := [d1, d2] }
  | _ => none }
def WalOpensWrongFalsely : Prop := walOpensRow.holds Try.pinned (OpenSpec.ofChange walOpensWrong)

/-- 'jetwaylaw05.WalLasts': WHATEVER THE INPUT: true; the input reads as it did. -/
def walLastsSpec : ChangeSpec := { name := "walLasts", fn := fun _ => fun
  | [d1, d2, d3, d4, d5, d6] => { results := [.lit (.bool true)], args := [d1, d2, d3, d4, d5, d6] }
  | _ => none }
def walLastsRow : OpenClaim := { program := "ytmcmocakfhedfaa", sum := "ab8d8735d11c504dc71a89459681648afa98a35f97024d5f348792929601c95f", func := "jetway/jetwaylaw05.WalLasts", spec := "walLasts", apart := false }
def WalLastsSaid : Prop := walLastsRow.holds Try.pinned (OpenSpec.ofChange walLastsSpec)

/-- ITS FALSE NEIGHBOUR: 'it returns false'. Refute it at one input. -/
def walLastsWrong : ChangeSpec := { name := "walLasts", fn := fun _ => fun
  | [d1, d2, d3, d4, d5, d6] => { results := [.lit (.bool false)], args := [d1, d2, d3, d4, d5, d6] }
  | _ => none }
def WalLastsWrongFalsely : Prop := walLastsRow.holds Try.pinned (OpenSpec.ofChange walLastsWrong)

/-- 'jetwaylaw05.WalGrows': WHATEVER THE INPUT: true; the input reads as it did. -/
def walGrowsSpec : ChangeSpec := { name := "walGrows", fn := fun _ => fun
  | [d1, d2] => { results := [.lit (.bool true)], args := [d1, d2] }
  | _ => none }
def walGrowsRow : OpenClaim := { program := "ytmcmocakfhedfaa", sum := "ab8d8735d11c504dc71a89459681648afa98a35f97024d5f348792929601c95f", func := "jetway/jetwaylaw05.WalGrows", spec := "walGrows", apart := false }
def WalGrowsSaid : Prop := walGrowsRow.holds Try.pinned (OpenSpec.ofChange walGrowsSpec)

/-- ITS FALSE NEIGHBOUR: 'it returns false'. Refute it at one input. -/
def walGrowsWrong : ChangeSpec := { name := "walGrows", fn := fun _ => fun
  | [d1, d2] => { results := [.lit (.bool false)], args := [d1, d2] }
  | _ => none }
def WalGrowsWrongFalsely : Prop := walGrowsRow.holds Try.pinned (OpenSpec.ofChange walGrowsWrong)

/-- 'jetwaylaw05.WalPlays': WHATEVER THE INPUT: true; the input reads as it did. -/
def walPlaysSpec : ChangeSpec := { name := "walPlays", fn := fun _ => fun
  | [d1, d2] => { results := [.lit (.bool true)], args := [d1, d2] }
  | _ => none }
def walPlaysRow : OpenClaim := { program := "ytmcmocakfhedfaa", sum := "ab8d8735d11c504dc71a89459681648afa98a35f97024d5f348792929601c95f", func := "jetway/jetwaylaw05.WalPlays", spec := "walPlays", apart := false }
def WalPlaysSaid : Prop := walPlaysRow.holds Try.pinned (OpenSpec.ofChange walPlaysSpec)

/-- ITS FALSE NEIGHBOUR: 'it returns false'. Refute it at one input. -/
def walPlaysWrong : ChangeSpec := { name := "walPlays", fn := fun _ => fun
  | [d1, d2] => { results := [.lit (.bool false)], args := [d1, d2] }
  | _ => none }
def WalPlaysWrongFalsely : Prop := walPlaysRow.holds Try.pinned (OpenSpec.ofChange walPlaysWrong)

/- THE SECOND FORM. 'bulk': how many values and letters a reading holds, each counted each time it is reached (what is shared counts as often as it is met; a slice's spare places count too). A statement '..UptoSaid' is the law's where the arguments, and the package variables that the reading takes, are together of bulk at most 1048576: NARROWER than '..Said'. Prove '..Said' where nothing that the law and all that it calls make is longer than what came in: it says more and counts as full. Else prove '..UptoSaid'. A law counts once. -/
mutual
def uptoBulk {H : Type} : DataW H → Nat
  | .lit (.string bytes) => bytes.length + 1
  | .lit _ => 1
  | .nil => 1
  | .ptr d => uptoBulk d + 1
  | .slice elems spare => uptoBulkAll elems + uptoBulkAll spare + 1
  | .agg parts => uptoBulkAll parts + 1
  | .iface _ d => uptoBulk d + 1
  | .map entries => uptoBulkEntries entries + 1
  | .held _ => 1
def uptoBulkAll {H : Type} : List (DataW H) → Nat
  | [] => 0
  | d :: r => uptoBulk d + uptoBulkAll r
def uptoBulkEntries {H : Type} : List (Lit × DataW H) → Nat
  | [] => 0
  | x :: r => uptoBulkEntry x + uptoBulkEntries r
def uptoBulkEntry {H : Type} : Lit × DataW H → Nat
  | (.string bytes, d) => bytes.length + uptoBulk d + 1
  | (_, d) => uptoBulk d + 1
 end
def uptoSmall : (H : Type) → List (DataW H) → Bool := fun _ ds => decide (uptoBulkAll ds ≤ 1048576)
def OpenSpec.upto (s : _root_.Go.ChangeSpec) : _root_.Go.OpenSpec := { _root_.Go.OpenSpec.ofChange s with cond := some uptoSmall }

/-- 'jetwaylaw05.WalNeeds', WHERE WHAT IT READS IS OF BULK AT MOST 1048576: true; the input reads as it did. -/
def walNeedsUptoRow : OpenClaim := { program := "ytmcmocakfhedfaa", sum := "ab8d8735d11c504dc71a89459681648afa98a35f97024d5f348792929601c95f", func := "jetway/jetwaylaw05.WalNeeds", spec := "walNeeds", apart := false, narrowed := true }
def WalNeedsUptoSaid : Prop := walNeedsUptoRow.holds Try.pinned (OpenSpec.upto walNeedsSpec)

/-- 'jetwaylaw05.WalFull', WHERE WHAT IT READS IS OF BULK AT MOST 1048576: true; the input reads as it did. -/
def walFullUptoRow : OpenClaim := { program := "ytmcmocakfhedfaa", sum := "ab8d8735d11c504dc71a89459681648afa98a35f97024d5f348792929601c95f", func := "jetway/jetwaylaw05.WalFull", spec := "walFull", apart := false, narrowed := true }
def WalFullUptoSaid : Prop := walFullUptoRow.holds Try.pinned (OpenSpec.upto walFullSpec)

/-- 'jetwaylaw05.WalTurned', WHERE WHAT IT READS IS OF BULK AT MOST 1048576: true; the input reads as it did. -/
def walTurnedUptoRow : OpenClaim := { program := "ytmcmocakfhedfaa", sum := "ab8d8735d11c504dc71a89459681648afa98a35f97024d5f348792929601c95f", func := "jetway/jetwaylaw05.WalTurned", spec := "walTurned", apart := false, narrowed := true }
def WalTurnedUptoSaid : Prop := walTurnedUptoRow.holds Try.pinned (OpenSpec.upto walTurnedSpec)

/-- 'jetwaylaw05.WalOpens', WHERE WHAT IT READS IS OF BULK AT MOST 1048576: true; the input reads as it did. -/
def walOpensUptoRow : OpenClaim := { program := "ytmcmocakfhedfaa", sum := "ab8d8735d11c504dc71a89459681648afa98a35f97024d5f348792929601c95f", func := "jetway/jetwaylaw05.WalOpens", spec := "walOpens", apart := false, narrowed := true }
def WalOpensUptoSaid : Prop := walOpensUptoRow.holds Try.pinned (OpenSpec.upto walOpensSpec)

/-- 'jetwaylaw05.WalLasts', WHERE WHAT IT READS IS OF BULK AT MOST 1048576: true; the input reads as it did. -/
def walLastsUptoRow : OpenClaim := { program := "ytmcmocakfhedfaa", sum := "ab8d8735d11c504dc71a89459681648afa98a35f97024d5f348792929601c95f", func := "jetway/jetwaylaw05.WalLasts", spec := "walLasts", apart := false, narrowed := true }
def WalLastsUptoSaid : Prop := walLastsUptoRow.holds Try.pinned (OpenSpec.upto walLastsSpec)

/-- 'jetwaylaw05.WalGrows', WHERE WHAT IT READS IS OF BULK AT MOST 1048576: true; the input reads as it did. -/
def walGrowsUptoRow : OpenClaim := { program := "ytmcmocakfhedfaa", sum := "ab8d8735d11c504dc71a89459681648afa98a35f97024d5f348792929601c95f", func := "jetway/jetwaylaw05.WalGrows", spec := "walGrows", apart := false, narrowed := true }
def WalGrowsUptoSaid : Prop := walGrowsUptoRow.holds Try.pinned (OpenSpec.upto walGrowsSpec)

/-- 'jetwaylaw05.WalPlays', WHERE WHAT IT READS IS OF BULK AT MOST 1048576: true; the input reads as it did. -/
def walPlaysUptoRow : OpenClaim := { program := "ytmcmocakfhedfaa", sum := "ab8d8735d11c504dc71a89459681648afa98a35f97024d5f348792929601c95f", func := "jetway/jetwaylaw05.WalPlays", spec := "walPlays", apart := false, narrowed := true }
def WalPlaysUptoSaid : Prop := walPlaysUptoRow.holds Try.pinned (OpenSpec.upto walPlaysSpec)

end Rows
end Go.Proofs.Ytmcmocakfhedfaa
