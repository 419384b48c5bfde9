/-
  No cell of these rows narrows 'for every input' (looked for: loops, veiled, ifaces, maps, wideKeys, modest, calm, conditions, laid).
  DERIVED. THE GIVEN ROWS OF THIS SEAT. 4 by the template 'for every input the law returns true; each argument reads behind the call as it read before'; 0 by the template 'total and deterministic' (their statements: YtbdeghhoophkbaaTotals.lean).
  GIVEN WITH THE SEED: the statements are not yours to turn. If you find one false, say at which input.
  Laid BY PROGRAM, IN A SANDBOX (cutbox-rows.mjs): the forced cells as the released guide's own fill.sh prints them over the translation 3e7d2640cd26d60b… (all of the seat's roots in one cut). By AI agents, Wed Nov 11 2026. No macro, syntax, notation, axiom, sorry.
-/
import Derived.Test.YtbdeghhoophkbaaChecked
import GoSem.Claim
import GoSem.ClaimJoined
import GoSem.ClaimMapViews
import Derived.JoinedTies
import Derived.KernelRfl
namespace Go.Proofs.Ytbdeghhoophkbaa
/- THE CELL 'sum', in the pinned program and in every row, IS THE sha256 OF THE DUMP (.gsa) THAT YtbdeghhoophkbaaProg.lean LOADS. Nothing in Lean hashes anything: it is a label: what it is worth is what the hold of that sum in a sandbox is worth. -/
noncomputable def Try.pinned : Pinned := { name := "ytbdeghhoophkbaa", sum := "3e7d2640cd26d60b0cda3fb4bb1e214055c50433e79c29b0dd862062c9e27130", checked := Try.checked }
namespace Rows
def none {H : Type} : Left H := { results := [], args := [] }

/-- 'pennyweightlaw06.ScanInts': WHATEVER THE INPUT: true; the input reads as it did. -/
def scanIntsSpec : ChangeSpec := { name := "scanInts", fn := fun _ => fun
  | [d] => { results := [.lit (.bool true)], args := [d] }
  | _ => none }
def scanIntsRow : OpenClaim := { program := "ytbdeghhoophkbaa", sum := "3e7d2640cd26d60b0cda3fb4bb1e214055c50433e79c29b0dd862062c9e27130", func := "pennyweight/pennyweightlaw06.ScanInts", spec := "scanInts", apart := false }
def ScanIntsSaid : Prop := scanIntsRow.holds Try.pinned (OpenSpec.ofChange scanIntsSpec)

/-- ITS FALSE NEIGHBOUR: 'it returns false'. Refute it at one input. -/
def scanIntsWrong : ChangeSpec := { name := "scanInts", fn := fun _ => fun
  | [d] => { results := [.lit (.bool false)], args := [d] }
  | _ => none }
def ScanIntsWrongFalsely : Prop := scanIntsRow.holds Try.pinned (OpenSpec.ofChange scanIntsWrong)

/-- 'pennyweightlaw06.ScanAts': WHATEVER THE INPUT: true; the input reads as it did. -/
def scanAtsSpec : ChangeSpec := { name := "scanAts", fn := fun _ => fun
  | [d1, d2] => { results := [.lit (.bool true)], args := [d1, d2] }
  | _ => none }
def scanAtsRow : OpenClaim := { program := "ytbdeghhoophkbaa", sum := "3e7d2640cd26d60b0cda3fb4bb1e214055c50433e79c29b0dd862062c9e27130", func := "pennyweight/pennyweightlaw06.ScanAts", spec := "scanAts", apart := false }
def ScanAtsSaid : Prop := scanAtsRow.holds Try.pinned (OpenSpec.ofChange scanAtsSpec)

/-- ITS FALSE NEIGHBOUR: 'it returns false'. Refute it at one input. -/
def scanAtsWrong : ChangeSpec := { name := "scanAts", fn := fun _ => fun
  | [d1, d2] => { results := [.lit (.bool false)], args := [d1, d2] }
  | _ => none }
def ScanAtsWrongFalsely : Prop := scanAtsRow.holds Try.pinned (OpenSpec.ofChange scanAtsWrong)

/-- 'pennyweightlaw06.ScanJoins': WHATEVER THE INPUT: true; the input reads as it did. -/
def scanJoinsSpec : ChangeSpec := { name := "scanJoins", fn := fun _ => fun
  | [d1, d2] => { results := [.lit (.bool true)], args := [d1, d2] }
  | _ => none }
def scanJoinsRow : OpenClaim := { program := "ytbdeghhoophkbaa", sum := "3e7d2640cd26d60b0cda3fb4bb1e214055c50433e79c29b0dd862062c9e27130", func := "pennyweight/pennyweightlaw06.ScanJoins", spec := "scanJoins", apart := false }
def ScanJoinsSaid : Prop := scanJoinsRow.holds Try.pinned (OpenSpec.ofChange scanJoinsSpec)

/-- ITS FALSE NEIGHBOUR: 'it returns false'. Refute it at one input. -/
def scanJoinsWrong : ChangeSpec := { name := "scanJoins", fn := fun _ => fun
  | [d1, d2] => { results := [.lit (.bool false)], args := [d1, d2] }
  | _ => none }
def ScanJoinsWrongFalsely : Prop := scanJoinsRow.holds Try.pinned (OpenSpec.ofChange scanJoinsWrong)

/-- 'pennyweightlaw06.ScanWords': WHATEVER THE INPUT: true; the input reads as it did. -/
def scanWordsSpec : ChangeSpec := { name := "scanWords", fn := fun _ => fun
  | [d] => { results := [.lit (.bool true)], args := [d] }
  | _ => none }
def scanWordsRow : OpenClaim := { program := "ytbdeghhoophkbaa", sum := "3e7d2640cd26d60b0cda3fb4bb1e214055c50433e79c29b0dd862062c9e27130", func := "pennyweight/pennyweightlaw06.ScanWords", spec := "scanWords", apart := false }
def ScanWordsSaid : Prop := scanWordsRow.holds Try.pinned (OpenSpec.ofChange scanWordsSpec)

/-- ITS FALSE NEIGHBOUR: 'it returns false'. Refute it at one input. -/
def scanWordsWrong : ChangeSpec := { name := "scanWords", fn := fun _ => fun
  | [d] => { results := [.lit (.bool false)], args := [d] }
  | _ => none }
def ScanWordsWrongFalsely : Prop := scanWordsRow.holds Try.pinned (OpenSpec.ofChange scanWordsWrong)

/- THE SECOND FORM. 'bulk': how many values and letters a reading holds, each counted each time it is reached (what is shared counts as often as it is met; a slice's spare places count too). A statement '..UptoSaid' is the law's where the arguments, and the package variables that the reading takes, are together of bulk at most 1048576: NARROWER than '..Said'. Prove '..Said' where nothing that the law and all that it calls make is longer than what came in: it says more and counts as full. Else prove '..UptoSaid'. A law counts once. -/
mutual
def uptoBulk {H : Type} : DataW H → Nat
  | .lit (.string bytes) => bytes.length + 1
  | .lit _ => 1
  | .nil => 1
  | .ptr d => uptoBulk d + 1
  | .slice elems spare => uptoBulkAll elems + uptoBulkAll spare + 1
  | .agg parts => uptoBulkAll parts + 1
  | .iface _ d => uptoBulk d + 1
  | .map entries => uptoBulkEntries entries + 1
  | .held _ => 1
def uptoBulkAll {H : Type} : List (DataW H) → Nat
  | [] => 0
  | d :: r => uptoBulk d + uptoBulkAll r
def uptoBulkEntries {H : Type} : List (Lit × DataW H) → Nat
  | [] => 0
  | x :: r => uptoBulkEntry x + uptoBulkEntries r
def uptoBulkEntry {H : Type} : Lit × DataW H → Nat
  | (.string bytes, d) => bytes.length + uptoBulk d + 1
  | (_, d) => uptoBulk d + 1
 end
def uptoSmall : (H : Type) → List (DataW H) → Bool := fun _ ds => decide (uptoBulkAll ds ≤ 1048576)
def OpenSpec.upto (s : _root_.Go.ChangeSpec) : _root_.Go.OpenSpec := { _root_.Go.OpenSpec.ofChange s with cond := some uptoSmall }

/-- 'pennyweightlaw06.ScanInts', WHERE WHAT IT READS IS OF BULK AT MOST 1048576: true; the input reads as it did. -/
def scanIntsUptoRow : OpenClaim := { program := "ytbdeghhoophkbaa", sum := "3e7d2640cd26d60b0cda3fb4bb1e214055c50433e79c29b0dd862062c9e27130", func := "pennyweight/pennyweightlaw06.ScanInts", spec := "scanInts", apart := false, narrowed := true }
def ScanIntsUptoSaid : Prop := scanIntsUptoRow.holds Try.pinned (OpenSpec.upto scanIntsSpec)

/-- 'pennyweightlaw06.ScanAts', WHERE WHAT IT READS IS OF BULK AT MOST 1048576: true; the input reads as it did. -/
def scanAtsUptoRow : OpenClaim := { program := "ytbdeghhoophkbaa", sum := "3e7d2640cd26d60b0cda3fb4bb1e214055c50433e79c29b0dd862062c9e27130", func := "pennyweight/pennyweightlaw06.ScanAts", spec := "scanAts", apart := false, narrowed := true }
def ScanAtsUptoSaid : Prop := scanAtsUptoRow.holds Try.pinned (OpenSpec.upto scanAtsSpec)

/-- 'pennyweightlaw06.ScanJoins', WHERE WHAT IT READS IS OF BULK AT MOST 1048576: true; the input reads as it did. -/
def scanJoinsUptoRow : OpenClaim := { program := "ytbdeghhoophkbaa", sum := "3e7d2640cd26d60b0cda3fb4bb1e214055c50433e79c29b0dd862062c9e27130", func := "pennyweight/pennyweightlaw06.ScanJoins", spec := "scanJoins", apart := false, narrowed := true }
def ScanJoinsUptoSaid : Prop := scanJoinsUptoRow.holds Try.pinned (OpenSpec.upto scanJoinsSpec)

/-- 'pennyweightlaw06.ScanWords', WHERE WHAT IT READS IS OF BULK AT MOST 1048576: true; the input reads as it did. -/
def scanWordsUptoRow : OpenClaim := { program := "ytbdeghhoophkbaa", sum := "3e7d2640cd26d60b0cda3fb4bb1e214055c50433e79c29b0dd862062c9e27130", func := "pennyweight/pennyweightlaw06.ScanWords", spec := "scanWords", apart := false, narrowed := true }
def ScanWordsUptoSaid : Prop := scanWordsUptoRow.holds Try.pinned (OpenSpec.upto scanWordsSpec)

end Rows
end Go.Proofs.Ytbdeghhoophkbaa
