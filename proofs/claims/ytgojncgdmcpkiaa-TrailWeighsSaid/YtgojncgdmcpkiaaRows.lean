/-
  No cell of these rows narrows 'for every input' (looked for: loops, veiled, ifaces, maps, wideKeys, modest, calm, conditions, laid).
  DERIVED. THE GIVEN ROWS OF THIS SEAT. 6 by the template 'for every input the law returns true; each argument reads behind the call as it read before'; 0 by the template 'total and deterministic' (their statements: YtgojncgdmcpkiaaTotals.lean).
  GIVEN WITH THE SEED: the statements are not yours to turn. If you find one false, say at which input.
  Laid BY PROGRAM, IN A SANDBOX (cutbox-rows.mjs): the forced cells as the released guide's own fill.sh prints them over the translation bddc57db5d234b60… (all of the seat's roots in one cut). By AI agents, Wed Nov 11 2026. No macro, syntax, notation, axiom, sorry.
-/
import Derived.Test.YtgojncgdmcpkiaaChecked
import GoSem.Claim
import GoSem.ClaimJoined
import GoSem.ClaimMapViews
import Derived.JoinedTies
import Derived.KernelRfl
namespace Go.Proofs.Ytgojncgdmcpkiaa
/- THE CELL 'sum', in the pinned program and in every row, IS THE sha256 OF THE DUMP (.gsa) THAT YtgojncgdmcpkiaaProg.lean LOADS. Nothing in Lean hashes anything: it is a label: what it is worth is what the hold of that sum in a sandbox is worth. -/
noncomputable def Try.pinned : Pinned := { name := "ytgojncgdmcpkiaa", sum := "bddc57db5d234b60c7f4577a3e321302740fb1d217c9c28cda3f935400f3754f", checked := Try.checked }
namespace Rows
def none {H : Type} : Left H := { results := [], args := [] }

/-- 'pennyweightlaw10.TrailDeep': WHATEVER THE INPUT: true; the input reads as it did. -/
def trailDeepSpec : ChangeSpec := { name := "trailDeep", fn := fun _ => fun
  | [d1, d2, d3] => { results := [.lit (.bool true)], args := [d1, d2, d3] }
  | _ => none }
def trailDeepRow : OpenClaim := { program := "ytgojncgdmcpkiaa", sum := "bddc57db5d234b60c7f4577a3e321302740fb1d217c9c28cda3f935400f3754f", func := "pennyweight/pennyweightlaw10.TrailDeep", spec := "trailDeep", unfollowed := true, recurses := true, apart := false }
def TrailDeepSaid : Prop := trailDeepRow.holds Try.pinned (OpenSpec.ofChange trailDeepSpec)

/-- ITS FALSE NEIGHBOUR: 'it returns false'. Refute it at one input. -/
def trailDeepWrong : ChangeSpec := { name := "trailDeep", fn := fun _ => fun
  | [d1, d2, d3] => { results := [.lit (.bool false)], args := [d1, d2, d3] }
  | _ => none }
def TrailDeepWrongFalsely : Prop := trailDeepRow.holds Try.pinned (OpenSpec.ofChange trailDeepWrong)

/-- 'pennyweightlaw10.TrailWeighs': WHATEVER THE INPUT: true; the input reads as it did. -/
def trailWeighsSpec : ChangeSpec := { name := "trailWeighs", fn := fun _ => fun
  | [d1, d2, d3] => { results := [.lit (.bool true)], args := [d1, d2, d3] }
  | _ => none }
def trailWeighsRow : OpenClaim := { program := "ytgojncgdmcpkiaa", sum := "bddc57db5d234b60c7f4577a3e321302740fb1d217c9c28cda3f935400f3754f", func := "pennyweight/pennyweightlaw10.TrailWeighs", spec := "trailWeighs", unfollowed := true, recurses := true, apart := false }
def TrailWeighsSaid : Prop := trailWeighsRow.holds Try.pinned (OpenSpec.ofChange trailWeighsSpec)

/-- ITS FALSE NEIGHBOUR: 'it returns false'. Refute it at one input. -/
def trailWeighsWrong : ChangeSpec := { name := "trailWeighs", fn := fun _ => fun
  | [d1, d2, d3] => { results := [.lit (.bool false)], args := [d1, d2, d3] }
  | _ => none }
def TrailWeighsWrongFalsely : Prop := trailWeighsRow.holds Try.pinned (OpenSpec.ofChange trailWeighsWrong)

/-- 'pennyweightlaw10.TrailNests': WHATEVER THE INPUT: true; the input reads as it did. -/
def trailNestsSpec : ChangeSpec := { name := "trailNests", fn := fun _ => fun
  | [d1, d2] => { results := [.lit (.bool true)], args := [d1, d2] }
  | _ => none }
def trailNestsRow : OpenClaim := { program := "ytgojncgdmcpkiaa", sum := "bddc57db5d234b60c7f4577a3e321302740fb1d217c9c28cda3f935400f3754f", func := "pennyweight/pennyweightlaw10.TrailNests", spec := "trailNests", unfollowed := true, recurses := true, apart := false }
def TrailNestsSaid : Prop := trailNestsRow.holds Try.pinned (OpenSpec.ofChange trailNestsSpec)

/-- ITS FALSE NEIGHBOUR: 'it returns false'. Refute it at one input. -/
def trailNestsWrong : ChangeSpec := { name := "trailNests", fn := fun _ => fun
  | [d1, d2] => { results := [.lit (.bool false)], args := [d1, d2] }
  | _ => none }
def TrailNestsWrongFalsely : Prop := trailNestsRow.holds Try.pinned (OpenSpec.ofChange trailNestsWrong)

/-- 'pennyweightlaw10.TrailNil': WHATEVER THE INPUT: true; the input reads as it did. -/
def trailNilSpec : ChangeSpec := { name := "trailNil", fn := fun _ => fun
  | [d1, d2, d3] => { results := [.lit (.bool true)], args := [d1, d2, d3] }
  | _ => none }
def trailNilRow : OpenClaim := { program := "ytgojncgdmcpkiaa", sum := "bddc57db5d234b60c7f4577a3e321302740fb1d217c9c28cda3f935400f3754f", func := "pennyweight/pennyweightlaw10.TrailNil", spec := "trailNil", unfollowed := true, recurses := true, apart := false }
def TrailNilSaid : Prop := trailNilRow.holds Try.pinned (OpenSpec.ofChange trailNilSpec)

/-- ITS FALSE NEIGHBOUR: 'it returns false'. Refute it at one input. -/
def trailNilWrong : ChangeSpec := { name := "trailNil", fn := fun _ => fun
  | [d1, d2, d3] => { results := [.lit (.bool false)], args := [d1, d2, d3] }
  | _ => none }
def TrailNilWrongFalsely : Prop := trailNilRow.holds Try.pinned (OpenSpec.ofChange trailNilWrong)

/-- 'pennyweightlaw10.TrailPlays': WHATEVER THE INPUT: true; the input reads as it did. -/
def trailPlaysSpec : ChangeSpec := { name := "trailPlays", fn := fun _ => fun
  | [d1, d2] => { results := [.lit (.bool true)], args := [d1, d2] }
  | _ => none }
def trailPlaysRow : OpenClaim := { program := "ytgojncgdmcpkiaa", sum := "bddc57db5d234b60c7f4577a3e321302740fb1d217c9c28cda3f935400f3754f", func := "pennyweight/pennyweightlaw10.TrailPlays", spec := "trailPlays", unfollowed := true, recurses := true, apart := false }
def TrailPlaysSaid : Prop := trailPlaysRow.holds Try.pinned (OpenSpec.ofChange trailPlaysSpec)

/-- ITS FALSE NEIGHBOUR: 'it returns false'. Refute it at one input. -/
def trailPlaysWrong : ChangeSpec := { name := "trailPlays", fn := fun _ => fun
  | [d1, d2] => { results := [.lit (.bool false)], args := [d1, d2] }
  | _ => none }
def TrailPlaysWrongFalsely : Prop := trailPlaysRow.holds Try.pinned (OpenSpec.ofChange trailPlaysWrong)

/-- 'pennyweightlaw10.TrailForgets': WHATEVER THE INPUT: true; the input reads as it did. -/
def trailForgetsSpec : ChangeSpec := { name := "trailForgets", fn := fun _ => fun
  | [d1, d2, d3] => { results := [.lit (.bool true)], args := [d1, d2, d3] }
  | _ => none }
def trailForgetsRow : OpenClaim := { program := "ytgojncgdmcpkiaa", sum := "bddc57db5d234b60c7f4577a3e321302740fb1d217c9c28cda3f935400f3754f", func := "pennyweight/pennyweightlaw10.TrailForgets", spec := "trailForgets", unfollowed := true, recurses := true, apart := false }
def TrailForgetsSaid : Prop := trailForgetsRow.holds Try.pinned (OpenSpec.ofChange trailForgetsSpec)

/-- ITS FALSE NEIGHBOUR: 'it returns false'. Refute it at one input. -/
def trailForgetsWrong : ChangeSpec := { name := "trailForgets", fn := fun _ => fun
  | [d1, d2, d3] => { results := [.lit (.bool false)], args := [d1, d2, d3] }
  | _ => none }
def TrailForgetsWrongFalsely : Prop := trailForgetsRow.holds Try.pinned (OpenSpec.ofChange trailForgetsWrong)

/- THE SECOND FORM. 'bulk': how many values and letters a reading holds, each counted each time it is reached (what is shared counts as often as it is met; a slice's spare places count too). A statement '..UptoSaid' is the law's where the arguments, and the package variables that the reading takes, are together of bulk at most 1048576: NARROWER than '..Said'. Prove '..Said' where nothing that the law and all that it calls make is longer than what came in: it says more and counts as full. Else prove '..UptoSaid'. A law counts once. -/
mutual
def uptoBulk {H : Type} : DataW H → Nat
  | .lit (.string bytes) => bytes.length + 1
  | .lit _ => 1
  | .nil => 1
  | .ptr d => uptoBulk d + 1
  | .slice elems spare => uptoBulkAll elems + uptoBulkAll spare + 1
  | .agg parts => uptoBulkAll parts + 1
  | .iface _ d => uptoBulk d + 1
  | .map entries => uptoBulkEntries entries + 1
  | .held _ => 1
def uptoBulkAll {H : Type} : List (DataW H) → Nat
  | [] => 0
  | d :: r => uptoBulk d + uptoBulkAll r
def uptoBulkEntries {H : Type} : List (Lit × DataW H) → Nat
  | [] => 0
  | x :: r => uptoBulkEntry x + uptoBulkEntries r
def uptoBulkEntry {H : Type} : Lit × DataW H → Nat
  | (.string bytes, d) => bytes.length + uptoBulk d + 1
  | (_, d) => uptoBulk d + 1
 end
def uptoSmall : (H : Type) → List (DataW H) → Bool := fun _ ds => decide (uptoBulkAll ds ≤ 1048576)
def OpenSpec.upto (s : _root_.Go.ChangeSpec) : _root_.Go.OpenSpec := { _root_.Go.OpenSpec.ofChange s with cond := some uptoSmall }

/-- 'pennyweightlaw10.TrailDeep', WHERE WHAT IT READS IS OF BULK AT MOST 1048576: true; the input reads as it did. -/
def trailDeepUptoRow : OpenClaim := { program := "ytgojncgdmcpkiaa", sum := "bddc57db5d234b60c7f4577a3e321302740fb1d217c9c28cda3f935400f3754f", func := "pennyweight/pennyweightlaw10.TrailDeep", spec := "trailDeep", unfollowed := true, recurses := true, apart := false, narrowed := true }
def TrailDeepUptoSaid : Prop := trailDeepUptoRow.holds Try.pinned (OpenSpec.upto trailDeepSpec)

/-- 'pennyweightlaw10.TrailWeighs', WHERE WHAT IT READS IS OF BULK AT MOST 1048576: true; the input reads as it did. -/
def trailWeighsUptoRow : OpenClaim := { program := "ytgojncgdmcpkiaa", sum := "bddc57db5d234b60c7f4577a3e321302740fb1d217c9c28cda3f935400f3754f", func := "pennyweight/pennyweightlaw10.TrailWeighs", spec := "trailWeighs", unfollowed := true, recurses := true, apart := false, narrowed := true }
def TrailWeighsUptoSaid : Prop := trailWeighsUptoRow.holds Try.pinned (OpenSpec.upto trailWeighsSpec)

/-- 'pennyweightlaw10.TrailNests', WHERE WHAT IT READS IS OF BULK AT MOST 1048576: true; the input reads as it did. -/
def trailNestsUptoRow : OpenClaim := { program := "ytgojncgdmcpkiaa", sum := "bddc57db5d234b60c7f4577a3e321302740fb1d217c9c28cda3f935400f3754f", func := "pennyweight/pennyweightlaw10.TrailNests", spec := "trailNests", unfollowed := true, recurses := true, apart := false, narrowed := true }
def TrailNestsUptoSaid : Prop := trailNestsUptoRow.holds Try.pinned (OpenSpec.upto trailNestsSpec)

/-- 'pennyweightlaw10.TrailNil', WHERE WHAT IT READS IS OF BULK AT MOST 1048576: true; the input reads as it did. -/
def trailNilUptoRow : OpenClaim := { program := "ytgojncgdmcpkiaa", sum := "bddc57db5d234b60c7f4577a3e321302740fb1d217c9c28cda3f935400f3754f", func := "pennyweight/pennyweightlaw10.TrailNil", spec := "trailNil", unfollowed := true, recurses := true, apart := false, narrowed := true }
def TrailNilUptoSaid : Prop := trailNilUptoRow.holds Try.pinned (OpenSpec.upto trailNilSpec)

/-- 'pennyweightlaw10.TrailPlays', WHERE WHAT IT READS IS OF BULK AT MOST 1048576: true; the input reads as it did. -/
def trailPlaysUptoRow : OpenClaim := { program := "ytgojncgdmcpkiaa", sum := "bddc57db5d234b60c7f4577a3e321302740fb1d217c9c28cda3f935400f3754f", func := "pennyweight/pennyweightlaw10.TrailPlays", spec := "trailPlays", unfollowed := true, recurses := true, apart := false, narrowed := true }
def TrailPlaysUptoSaid : Prop := trailPlaysUptoRow.holds Try.pinned (OpenSpec.upto trailPlaysSpec)

/-- 'pennyweightlaw10.TrailForgets', WHERE WHAT IT READS IS OF BULK AT MOST 1048576: true; the input reads as it did. -/
def trailForgetsUptoRow : OpenClaim := { program := "ytgojncgdmcpkiaa", sum := "bddc57db5d234b60c7f4577a3e321302740fb1d217c9c28cda3f935400f3754f", func := "pennyweight/pennyweightlaw10.TrailForgets", spec := "trailForgets", unfollowed := true, recurses := true, apart := false, narrowed := true }
def TrailForgetsUptoSaid : Prop := trailForgetsUptoRow.holds Try.pinned (OpenSpec.upto trailForgetsSpec)

end Rows
end Go.Proofs.Ytgojncgdmcpkiaa
