/-
  No cell of these rows narrows 'for every input' (looked for: loops, veiled, ifaces, maps, wideKeys, modest, calm, conditions, laid).
  DERIVED. THE GIVEN ROWS OF THIS SEAT. 5 by the template 'for every input the law returns true; each argument reads behind the call as it read before'; 0 by the template 'total and deterministic' (their statements: YtbgngpgebhnpbaaTotals.lean).
  GIVEN WITH THE SEED: the statements are not yours to turn. If you find one false, say at which input.
  Laid BY PROGRAM, IN A SANDBOX (cutbox-rows.mjs): the forced cells as the released guide's own fill.sh prints them over the translation 21ffaaef7185e897… (all of the seat's roots in one cut). By AI agents, Wed Nov 11 2026. No macro, syntax, notation, axiom, sorry.
-/
import Derived.Test.YtbgngpgebhnpbaaChecked
import GoSem.Claim
import GoSem.ClaimJoined
import GoSem.ClaimMapViews
import Derived.JoinedTies
import Derived.KernelRfl
namespace Go.Proofs.Ytbgngpgebhnpbaa
/- THE CELL 'sum', in the pinned program and in every row, IS THE sha256 OF THE DUMP (.gsa) THAT YtbgngpgebhnpbaaProg.lean LOADS. Nothing in Lean hashes anything: it is a label: what it is worth is what the hold of that sum in a sandbox is worth. -/
noncomputable def Try.pinned : Pinned := { name := "ytbgngpgebhnpbaa", sum := "21ffaaef7185e8977cbf4518bd0795f1d4e0b204d0020c289e652a00c2626ee9", checked := Try.checked }
namespace Rows
def none {H : Type} : Left H := { results := [], args := [] }

/-- 'pennyweightlaw01.CostOrders': WHATEVER THE INPUT: true; the input reads as it did. -/
def costOrdersSpec : ChangeSpec := { name := "costOrders", fn := fun _ => fun
  | [d1, d2, d3, d4] => { results := [.lit (.bool true)], args := [d1, d2, d3, d4] }
  | _ => none }
def costOrdersRow : OpenClaim := { program := "ytbgngpgebhnpbaa", sum := "21ffaaef7185e8977cbf4518bd0795f1d4e0b204d0020c289e652a00c2626ee9", func := "pennyweight/pennyweightlaw01.CostOrders", spec := "costOrders", apart := false }
def CostOrdersSaid : Prop := costOrdersRow.holds Try.pinned (OpenSpec.ofChange costOrdersSpec)

/-- ITS FALSE NEIGHBOUR: 'it returns false'. Refute it at one input. -/
def costOrdersWrong : ChangeSpec := { name := "costOrders", fn := fun _ => fun
  | [d1, d2, d3, d4] => { results := [.lit (.bool false)], args := [d1, d2, d3, d4] }
  | _ => none }
def CostOrdersWrongFalsely : Prop := costOrdersRow.holds Try.pinned (OpenSpec.ofChange costOrdersWrong)

/-- 'pennyweightlaw01.CostSums': WHATEVER THE INPUT: true; the input reads as it did. -/
def costSumsSpec : ChangeSpec := { name := "costSums", fn := fun _ => fun
  | [d1, d2, d3] => { results := [.lit (.bool true)], args := [d1, d2, d3] }
  | _ => none }
def costSumsRow : OpenClaim := { program := "ytbgngpgebhnpbaa", sum := "21ffaaef7185e8977cbf4518bd0795f1d4e0b204d0020c289e652a00c2626ee9", func := "pennyweight/pennyweightlaw01.CostSums", spec := "costSums", apart := false }
def CostSumsSaid : Prop := costSumsRow.holds Try.pinned (OpenSpec.ofChange costSumsSpec)

/-- ITS FALSE NEIGHBOUR: 'it returns false'. Refute it at one input. -/
def costSumsWrong : ChangeSpec := { name := "costSums", fn := fun _ => fun
  | [d1, d2, d3] => { results := [.lit (.bool false)], args := [d1, d2, d3] }
  | _ => none }
def CostSumsWrongFalsely : Prop := costSumsRow.holds Try.pinned (OpenSpec.ofChange costSumsWrong)

/-- 'pennyweightlaw01.CostMoves': WHATEVER THE INPUT: true; the input reads as it did. -/
def costMovesSpec : ChangeSpec := { name := "costMoves", fn := fun _ => fun
  | [d1, d2, d3, d4] => { results := [.lit (.bool true)], args := [d1, d2, d3, d4] }
  | _ => none }
def costMovesRow : OpenClaim := { program := "ytbgngpgebhnpbaa", sum := "21ffaaef7185e8977cbf4518bd0795f1d4e0b204d0020c289e652a00c2626ee9", func := "pennyweight/pennyweightlaw01.CostMoves", spec := "costMoves", apart := false }
def CostMovesSaid : Prop := costMovesRow.holds Try.pinned (OpenSpec.ofChange costMovesSpec)

/-- ITS FALSE NEIGHBOUR: 'it returns false'. Refute it at one input. -/
def costMovesWrong : ChangeSpec := { name := "costMoves", fn := fun _ => fun
  | [d1, d2, d3, d4] => { results := [.lit (.bool false)], args := [d1, d2, d3, d4] }
  | _ => none }
def CostMovesWrongFalsely : Prop := costMovesRow.holds Try.pinned (OpenSpec.ofChange costMovesWrong)

/-- 'pennyweightlaw01.CostLists': WHATEVER THE INPUT: true; the input reads as it did. -/
def costListsSpec : ChangeSpec := { name := "costLists", fn := fun _ => fun
  | [d1, d2, d3] => { results := [.lit (.bool true)], args := [d1, d2, d3] }
  | _ => none }
def costListsRow : OpenClaim := { program := "ytbgngpgebhnpbaa", sum := "21ffaaef7185e8977cbf4518bd0795f1d4e0b204d0020c289e652a00c2626ee9", func := "pennyweight/pennyweightlaw01.CostLists", spec := "costLists", unfollowed := true, recurses := true, apart := false }
def CostListsSaid : Prop := costListsRow.holds Try.pinned (OpenSpec.ofChange costListsSpec)

/-- ITS FALSE NEIGHBOUR: 'it returns false'. Refute it at one input. -/
def costListsWrong : ChangeSpec := { name := "costLists", fn := fun _ => fun
  | [d1, d2, d3] => { results := [.lit (.bool false)], args := [d1, d2, d3] }
  | _ => none }
def CostListsWrongFalsely : Prop := costListsRow.holds Try.pinned (OpenSpec.ofChange costListsWrong)

/-- 'pennyweightlaw01.CostGaps': WHATEVER THE INPUT: true; the input reads as it did. -/
def costGapsSpec : ChangeSpec := { name := "costGaps", fn := fun _ => fun
  | [d1, d2, d3, d4] => { results := [.lit (.bool true)], args := [d1, d2, d3, d4] }
  | _ => none }
def costGapsRow : OpenClaim := { program := "ytbgngpgebhnpbaa", sum := "21ffaaef7185e8977cbf4518bd0795f1d4e0b204d0020c289e652a00c2626ee9", func := "pennyweight/pennyweightlaw01.CostGaps", spec := "costGaps", unfollowed := true, recurses := true, apart := false }
def CostGapsSaid : Prop := costGapsRow.holds Try.pinned (OpenSpec.ofChange costGapsSpec)

/-- ITS FALSE NEIGHBOUR: 'it returns false'. Refute it at one input. -/
def costGapsWrong : ChangeSpec := { name := "costGaps", fn := fun _ => fun
  | [d1, d2, d3, d4] => { results := [.lit (.bool false)], args := [d1, d2, d3, d4] }
  | _ => none }
def CostGapsWrongFalsely : Prop := costGapsRow.holds Try.pinned (OpenSpec.ofChange costGapsWrong)

/- THE SECOND FORM. 'bulk': how many values and letters a reading holds, each counted each time it is reached (what is shared counts as often as it is met; a slice's spare places count too). A statement '..UptoSaid' is the law's where the arguments, and the package variables that the reading takes, are together of bulk at most 1048576: NARROWER than '..Said'. Prove '..Said' where nothing that the law and all that it calls make is longer than what came in: it says more and counts as full. Else prove '..UptoSaid'. A law counts once. -/
mutual
def uptoBulk {H : Type} : DataW H → Nat
  | .lit (.string bytes) => bytes.length + 1
  | .lit _ => 1
  | .nil => 1
  | .ptr d => uptoBulk d + 1
  | .slice elems spare => uptoBulkAll elems + uptoBulkAll spare + 1
  | .agg parts => uptoBulkAll parts + 1
  | .iface _ d => uptoBulk d + 1
  | .map entries => uptoBulkEntries entries + 1
  | .held _ => 1
def uptoBulkAll {H : Type} : List (DataW H) → Nat
  | [] => 0
  | d :: r => uptoBulk d + uptoBulkAll r
def uptoBulkEntries {H : Type} : List (Lit × DataW H) → Nat
  | [] => 0
  | x :: r => uptoBulkEntry x + uptoBulkEntries r
def uptoBulkEntry {H : Type} : Lit × DataW H → Nat
  | (.string bytes, d) => bytes.length + uptoBulk d + 1
  | (_, d) => uptoBulk d + 1
 end
def uptoSmall : (H : Type) → List (DataW H) → Bool := fun _ ds => decide (uptoBulkAll ds ≤ 1048576)
def OpenSpec.upto (s : _root_.Go.ChangeSpec) : _root_.Go.OpenSpec := { _root_.Go.OpenSpec.ofChange s with cond := some uptoSmall }

/-- 'pennyweightlaw01.CostOrders', WHERE WHAT IT READS IS OF BULK AT MOST 1048576: true; the input reads as it did. -/
def costOrdersUptoRow : OpenClaim := { program := "ytbgngpgebhnpbaa", sum := "21ffaaef7185e8977cbf4518bd0795f1d4e0b204d0020c289e652a00c2626ee9", func := "pennyweight/pennyweightlaw01.CostOrders", spec := "costOrders", apart := false, narrowed := true }
def CostOrdersUptoSaid : Prop := costOrdersUptoRow.holds Try.pinned (OpenSpec.upto costOrdersSpec)

/-- 'pennyweightlaw01.CostSums', WHERE WHAT IT READS IS OF BULK AT MOST 1048576: true; the input reads as it did. -/
def costSumsUptoRow : OpenClaim := { program := "ytbgngpgebhnpbaa", sum := "21ffaaef7185e8977cbf4518bd0795f1d4e0b204d0020c289e652a00c2626ee9", func := "pennyweight/pennyweightlaw01.CostSums", spec := "costSums", apart := false, narrowed := true }
def CostSumsUptoSaid : Prop := costSumsUptoRow.holds Try.pinned (OpenSpec.upto costSumsSpec)

/-- 'pennyweightlaw01.CostMoves', WHERE WHAT IT READS IS OF BULK AT MOST 1048576: true; the input reads as it did. -/
def costMovesUptoRow : OpenClaim := { program := "ytbgngpgebhnpbaa", sum := "21ffaaef7185e8977cbf4518bd0795f1d4e0b204d0020c289e652a00c2626ee9", func := "pennyweight/pennyweightlaw01.CostMoves", spec := "costMoves", apart := false, narrowed := true }
def CostMovesUptoSaid : Prop := costMovesUptoRow.holds Try.pinned (OpenSpec.upto costMovesSpec)

/-- 'pennyweightlaw01.CostLists', WHERE WHAT IT READS IS OF BULK AT MOST 1048576: true; the input reads as it did. -/
def costListsUptoRow : OpenClaim := { program := "ytbgngpgebhnpbaa", sum := "21ffaaef7185e8977cbf4518bd0795f1d4e0b204d0020c289e652a00c2626ee9", func := "pennyweight/pennyweightlaw01.CostLists", spec := "costLists", unfollowed := true, recurses := true, apart := false, narrowed := true }
def CostListsUptoSaid : Prop := costListsUptoRow.holds Try.pinned (OpenSpec.upto costListsSpec)

/-- 'pennyweightlaw01.CostGaps', WHERE WHAT IT READS IS OF BULK AT MOST 1048576: true; the input reads as it did. -/
def costGapsUptoRow : OpenClaim := { program := "ytbgngpgebhnpbaa", sum := "21ffaaef7185e8977cbf4518bd0795f1d4e0b204d0020c289e652a00c2626ee9", func := "pennyweight/pennyweightlaw01.CostGaps", spec := "costGaps", unfollowed := true, recurses := true, apart := false, narrowed := true }
def CostGapsUptoSaid : Prop := costGapsUptoRow.holds Try.pinned (OpenSpec.upto costGapsSpec)

end Rows
end Go.Proofs.Ytbgngpgebhnpbaa
