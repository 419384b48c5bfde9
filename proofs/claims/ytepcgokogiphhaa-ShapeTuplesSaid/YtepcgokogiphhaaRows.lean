/-
  No cell of these rows narrows 'for every input' (looked for: loops, veiled, ifaces, maps, wideKeys, modest, calm, conditions, laid).
  DERIVED. THE GIVEN ROWS OF THIS SEAT. 5 by the template 'for every input the law returns true; each argument reads behind the call as it read before'; 0 by the template 'total and deterministic' (their statements: YtepcgokogiphhaaTotals.lean).
  GIVEN WITH THE SEED: the statements are not yours to turn. If you find one false, say at which input.
  Laid BY PROGRAM, IN A SANDBOX (cutbox-rows.mjs): the forced cells as the released guide's own fill.sh prints them over the translation 6a2390e25f535c95… (all of the seat's roots in one cut). By AI agents, Wed Nov 11 2026. No macro, syntax, notation, axiom, sorry.
-/
import Derived.Test.YtepcgokogiphhaaChecked
import GoSem.Claim
import GoSem.ClaimJoined
import GoSem.ClaimMapViews
import Derived.JoinedTies
import Derived.KernelRfl
namespace Go.Proofs.Ytepcgokogiphhaa
/- THE CELL 'sum', in the pinned program and in every row, IS THE sha256 OF THE DUMP (.gsa) THAT YtepcgokogiphhaaProg.lean LOADS. Nothing in Lean hashes anything: it is a label: what it is worth is what the hold of that sum in a sandbox is worth. -/
noncomputable def Try.pinned : Pinned := { name := "ytepcgokogiphhaa", sum := "6a2390e25f535c950f33781d2ee3d8ff5b5a768783072f32d93cdcc8dfaab9f7", checked := Try.checked }
namespace Rows
def none {H : Type} : Left H := { results := [], args := [] }

/-- 'pennyweightlaw03.ShapeSteps': WHATEVER THE INPUT: true; the input reads as it did. -/
def shapeStepsSpec : ChangeSpec := { name := "shapeSteps", fn := fun _ => fun
  | [d1, d2] => { results := [.lit (.bool true)], args := [d1, d2] }
  | _ => none }
def shapeStepsRow : OpenClaim := { program := "ytepcgokogiphhaa", sum := "6a2390e25f535c950f33781d2ee3d8ff5b5a768783072f32d93cdcc8dfaab9f7", func := "pennyweight/pennyweightlaw03.ShapeSteps", spec := "shapeSteps", unfollowed := true, recurses := true, apart := false }
def ShapeStepsSaid : Prop := shapeStepsRow.holds Try.pinned (OpenSpec.ofChange shapeStepsSpec)

/-- ITS FALSE NEIGHBOUR: 'it returns false'. Refute it at one input. -/
def shapeStepsWrong : ChangeSpec := { name := "shapeSteps", fn := fun _ => fun
  | [d1, d2] => { results := [.lit (.bool false)], args := [d1, d2] }
  | _ => none }
def ShapeStepsWrongFalsely : Prop := shapeStepsRow.holds Try.pinned (OpenSpec.ofChange shapeStepsWrong)

/-- 'pennyweightlaw03.ShapeRaw': WHATEVER THE INPUT: true; the input reads as it did. -/
def shapeRawSpec : ChangeSpec := { name := "shapeRaw", fn := fun _ => fun
  | [d1, d2, d3] => { results := [.lit (.bool true)], args := [d1, d2, d3] }
  | _ => none }
def shapeRawRow : OpenClaim := { program := "ytepcgokogiphhaa", sum := "6a2390e25f535c950f33781d2ee3d8ff5b5a768783072f32d93cdcc8dfaab9f7", func := "pennyweight/pennyweightlaw03.ShapeRaw", spec := "shapeRaw", unfollowed := true, recurses := true, apart := false }
def ShapeRawSaid : Prop := shapeRawRow.holds Try.pinned (OpenSpec.ofChange shapeRawSpec)

/-- ITS FALSE NEIGHBOUR: 'it returns false'. Refute it at one input. -/
def shapeRawWrong : ChangeSpec := { name := "shapeRaw", fn := fun _ => fun
  | [d1, d2, d3] => { results := [.lit (.bool false)], args := [d1, d2, d3] }
  | _ => none }
def ShapeRawWrongFalsely : Prop := shapeRawRow.holds Try.pinned (OpenSpec.ofChange shapeRawWrong)

/-- 'pennyweightlaw03.ShapeApart': WHATEVER THE INPUT: true; the input reads as it did. -/
def shapeApartSpec : ChangeSpec := { name := "shapeApart", fn := fun _ => fun
  | [d1, d2] => { results := [.lit (.bool true)], args := [d1, d2] }
  | _ => none }
def shapeApartRow : OpenClaim := { program := "ytepcgokogiphhaa", sum := "6a2390e25f535c950f33781d2ee3d8ff5b5a768783072f32d93cdcc8dfaab9f7", func := "pennyweight/pennyweightlaw03.ShapeApart", spec := "shapeApart", unfollowed := true, recurses := true, apart := false }
def ShapeApartSaid : Prop := shapeApartRow.holds Try.pinned (OpenSpec.ofChange shapeApartSpec)

/-- ITS FALSE NEIGHBOUR: 'it returns false'. Refute it at one input. -/
def shapeApartWrong : ChangeSpec := { name := "shapeApart", fn := fun _ => fun
  | [d1, d2] => { results := [.lit (.bool false)], args := [d1, d2] }
  | _ => none }
def ShapeApartWrongFalsely : Prop := shapeApartRow.holds Try.pinned (OpenSpec.ofChange shapeApartWrong)

/-- 'pennyweightlaw03.ShapeCarries': WHATEVER THE INPUT: true; the input reads as it did. -/
def shapeCarriesSpec : ChangeSpec := { name := "shapeCarries", fn := fun _ => fun
  | [d] => { results := [.lit (.bool true)], args := [d] }
  | _ => none }
def shapeCarriesRow : OpenClaim := { program := "ytepcgokogiphhaa", sum := "6a2390e25f535c950f33781d2ee3d8ff5b5a768783072f32d93cdcc8dfaab9f7", func := "pennyweight/pennyweightlaw03.ShapeCarries", spec := "shapeCarries", unfollowed := true, recurses := true, apart := false }
def ShapeCarriesSaid : Prop := shapeCarriesRow.holds Try.pinned (OpenSpec.ofChange shapeCarriesSpec)

/-- ITS FALSE NEIGHBOUR: 'it returns false'. Refute it at one input. -/
def shapeCarriesWrong : ChangeSpec := { name := "shapeCarries", fn := fun _ => fun
  | [d] => { results := [.lit (.bool false)], args := [d] }
  | _ => none }
def ShapeCarriesWrongFalsely : Prop := shapeCarriesRow.holds Try.pinned (OpenSpec.ofChange shapeCarriesWrong)

/-- 'pennyweightlaw03.ShapeTuples': WHATEVER THE INPUT: true; the input reads as it did. -/
def shapeTuplesSpec : ChangeSpec := { name := "shapeTuples", fn := fun _ => fun
  | [d] => { results := [.lit (.bool true)], args := [d] }
  | _ => none }
def shapeTuplesRow : OpenClaim := { program := "ytepcgokogiphhaa", sum := "6a2390e25f535c950f33781d2ee3d8ff5b5a768783072f32d93cdcc8dfaab9f7", func := "pennyweight/pennyweightlaw03.ShapeTuples", spec := "shapeTuples", unfollowed := true, recurses := true, apart := false }
def ShapeTuplesSaid : Prop := shapeTuplesRow.holds Try.pinned (OpenSpec.ofChange shapeTuplesSpec)

/-- ITS FALSE NEIGHBOUR: 'it returns false'. Refute it at one input. -/
def shapeTuplesWrong : ChangeSpec := { name := "shapeTuples", fn := fun _ => fun
  | [d] => { results := [.lit (.bool false)], args := [d] }
  | _ => none }
def ShapeTuplesWrongFalsely : Prop := shapeTuplesRow.holds Try.pinned (OpenSpec.ofChange shapeTuplesWrong)

/- THE SECOND FORM. 'bulk': how many values and letters a reading holds, each counted each time it is reached (what is shared counts as often as it is met; a slice's spare places count too). A statement '..UptoSaid' is the law's where the arguments, and the package variables that the reading takes, are together of bulk at most 1048576: NARROWER than '..Said'. Prove '..Said' where nothing that the law and all that it calls make is longer than what came in: it says more and counts as full. Else prove '..UptoSaid'. A law counts once. -/
mutual
def uptoBulk {H : Type} : DataW H → Nat
  | .lit (.string bytes) => bytes.length + 1
  | .lit _ => 1
  | .nil => 1
  | .ptr d => uptoBulk d + 1
  | .slice elems spare => uptoBulkAll elems + uptoBulkAll spare + 1
  | .agg parts => uptoBulkAll parts + 1
  | .iface _ d => uptoBulk d + 1
  | .map entries => uptoBulkEntries entries + 1
  | .held _ => 1
def uptoBulkAll {H : Type} : List (DataW H) → Nat
  | [] => 0
  | d :: r => uptoBulk d + uptoBulkAll r
def uptoBulkEntries {H : Type} : List (Lit × DataW H) → Nat
  | [] => 0
  | x :: r => uptoBulkEntry x + uptoBulkEntries r
def uptoBulkEntry {H : Type} : Lit × DataW H → Nat
  | (.string bytes, d) => bytes.length + uptoBulk d + 1
  | (_, d) => uptoBulk d + 1
 end
def uptoSmall : (H : Type) → List (DataW H) → Bool := fun _ ds => decide (uptoBulkAll ds ≤ 1048576)
def OpenSpec.upto (s : _root_.Go.ChangeSpec) : _root_.Go.OpenSpec := { _root_.Go.OpenSpec.ofChange s with cond := some uptoSmall }

/-- 'pennyweightlaw03.ShapeSteps', WHERE WHAT IT READS IS OF BULK AT MOST 1048576: true; the input reads as it did. -/
def shapeStepsUptoRow : OpenClaim := { program := "ytepcgokogiphhaa", sum := "6a2390e25f535c950f33781d2ee3d8ff5b5a768783072f32d93cdcc8dfaab9f7", func := "pennyweight/pennyweightlaw03.ShapeSteps", spec := "shapeSteps", unfollowed := true, recurses := true, apart := false, narrowed := true }
def ShapeStepsUptoSaid : Prop := shapeStepsUptoRow.holds Try.pinned (OpenSpec.upto shapeStepsSpec)

/-- 'pennyweightlaw03.ShapeRaw', WHERE WHAT IT READS IS OF BULK AT MOST 1048576: true; the input reads as it did. -/
def shapeRawUptoRow : OpenClaim := { program := "ytepcgokogiphhaa", sum := "6a2390e25f535c950f33781d2ee3d8ff5b5a768783072f32d93cdcc8dfaab9f7", func := "pennyweight/pennyweightlaw03.ShapeRaw", spec := "shapeRaw", unfollowed := true, recurses := true, apart := false, narrowed := true }
def ShapeRawUptoSaid : Prop := shapeRawUptoRow.holds Try.pinned (OpenSpec.upto shapeRawSpec)

/-- 'pennyweightlaw03.ShapeApart', WHERE WHAT IT READS IS OF BULK AT MOST 1048576: true; the input reads as it did. -/
def shapeApartUptoRow : OpenClaim := { program := "ytepcgokogiphhaa", sum := "6a2390e25f535c950f33781d2ee3d8ff5b5a768783072f32d93cdcc8dfaab9f7", func := "pennyweight/pennyweightlaw03.ShapeApart", spec := "shapeApart", unfollowed := true, recurses := true, apart := false, narrowed := true }
def ShapeApartUptoSaid : Prop := shapeApartUptoRow.holds Try.pinned (OpenSpec.upto shapeApartSpec)

/-- 'pennyweightlaw03.ShapeCarries', WHERE WHAT IT READS IS OF BULK AT MOST 1048576: true; the input reads as it did. -/
def shapeCarriesUptoRow : OpenClaim := { program := "ytepcgokogiphhaa", sum := "6a2390e25f535c950f33781d2ee3d8ff5b5a768783072f32d93cdcc8dfaab9f7", func := "pennyweight/pennyweightlaw03.ShapeCarries", spec := "shapeCarries", unfollowed := true, recurses := true, apart := false, narrowed := true }
def ShapeCarriesUptoSaid : Prop := shapeCarriesUptoRow.holds Try.pinned (OpenSpec.upto shapeCarriesSpec)

/-- 'pennyweightlaw03.ShapeTuples', WHERE WHAT IT READS IS OF BULK AT MOST 1048576: true; the input reads as it did. -/
def shapeTuplesUptoRow : OpenClaim := { program := "ytepcgokogiphhaa", sum := "6a2390e25f535c950f33781d2ee3d8ff5b5a768783072f32d93cdcc8dfaab9f7", func := "pennyweight/pennyweightlaw03.ShapeTuples", spec := "shapeTuples", unfollowed := true, recurses := true, apart := false, narrowed := true }
def ShapeTuplesUptoSaid : Prop := shapeTuplesUptoRow.holds Try.pinned (OpenSpec.upto shapeTuplesSpec)

end Rows
end Go.Proofs.Ytepcgokogiphhaa
