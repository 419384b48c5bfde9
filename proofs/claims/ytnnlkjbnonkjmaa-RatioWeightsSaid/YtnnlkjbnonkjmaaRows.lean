/-
  No cell of these rows narrows 'for every input' (looked for: loops, veiled, ifaces, maps, wideKeys, modest, calm, conditions, laid).
  DERIVED. THE GIVEN ROWS OF THIS SEAT. 6 by the template 'for every input the law returns true; each argument reads behind the call as it read before'; 0 by the template 'total and deterministic' (their statements: YtnnlkjbnonkjmaaTotals.lean).
  GIVEN WITH THE SEED: the statements are not yours to turn. If you find one false, say at which input.
  Laid BY PROGRAM, IN A SANDBOX (cutbox-rows.mjs): the forced cells as the released guide's own fill.sh prints them over the translation 32e219e1d3eade0b… (all of the seat's roots in one cut). By AI agents, Wed Nov 11 2026. No macro, syntax, notation, axiom, sorry.
-/
import Derived.Test.YtnnlkjbnonkjmaaChecked
import GoSem.Claim
import GoSem.ClaimJoined
import GoSem.ClaimMapViews
import Derived.JoinedTies
import Derived.KernelRfl
namespace Go.Proofs.Ytnnlkjbnonkjmaa
/- THE CELL 'sum', in the pinned program and in every row, IS THE sha256 OF THE DUMP (.gsa) THAT YtnnlkjbnonkjmaaProg.lean LOADS. Nothing in Lean hashes anything: it is a label: what it is worth is what the hold of that sum in a sandbox is worth. -/
noncomputable def Try.pinned : Pinned := { name := "ytnnlkjbnonkjmaa", sum := "32e219e1d3eade0b2b11d5b17af894930871164eff7e53c7bbaf8daa9f82ea3f", checked := Try.checked }
namespace Rows
def none {H : Type} : Left H := { results := [], args := [] }

/-- 'pennyweightlaw21.RatioOrders': WHATEVER THE INPUT: true; the input reads as it did. -/
def ratioOrdersSpec : ChangeSpec := { name := "ratioOrders", fn := fun _ => fun
  | [d] => { results := [.lit (.bool true)], args := [d] }
  | _ => none }
def ratioOrdersRow : OpenClaim := { program := "ytnnlkjbnonkjmaa", sum := "32e219e1d3eade0b2b11d5b17af894930871164eff7e53c7bbaf8daa9f82ea3f", func := "pennyweight/pennyweightlaw21.RatioOrders", spec := "ratioOrders", inPlace := ["math.Float64frombits", "math.Float64bits"], apart := false }
def RatioOrdersSaid : Prop := ratioOrdersRow.holds Try.pinned (OpenSpec.ofChange ratioOrdersSpec)

/-- ITS FALSE NEIGHBOUR: 'it returns false'. Refute it at one input. -/
def ratioOrdersWrong : ChangeSpec := { name := "ratioOrders", fn := fun _ => fun
  | [d] => { results := [.lit (.bool false)], args := [d] }
  | _ => none }
def RatioOrdersWrongFalsely : Prop := ratioOrdersRow.holds Try.pinned (OpenSpec.ofChange ratioOrdersWrong)

/-- 'pennyweightlaw21.RatioSorts': WHATEVER THE INPUT: true; the input reads as it did. -/
def ratioSortsSpec : ChangeSpec := { name := "ratioSorts", fn := fun _ => fun
  | [d] => { results := [.lit (.bool true)], args := [d] }
  | _ => none }
def ratioSortsRow : OpenClaim := { program := "ytnnlkjbnonkjmaa", sum := "32e219e1d3eade0b2b11d5b17af894930871164eff7e53c7bbaf8daa9f82ea3f", func := "pennyweight/pennyweightlaw21.RatioSorts", spec := "ratioSorts", inPlace := ["math.Float64frombits", "math.Float64bits"], apart := false }
def RatioSortsSaid : Prop := ratioSortsRow.holds Try.pinned (OpenSpec.ofChange ratioSortsSpec)

/-- ITS FALSE NEIGHBOUR: 'it returns false'. Refute it at one input. -/
def ratioSortsWrong : ChangeSpec := { name := "ratioSorts", fn := fun _ => fun
  | [d] => { results := [.lit (.bool false)], args := [d] }
  | _ => none }
def RatioSortsWrongFalsely : Prop := ratioSortsRow.holds Try.pinned (OpenSpec.ofChange ratioSortsWrong)

/-- 'pennyweightlaw21.RatioHalves': WHATEVER THE INPUT: true; the input reads as it did. -/
def ratioHalvesSpec : ChangeSpec := { name := "ratioHalves", fn := fun _ => fun
  | [d1, d2, d3, d4] => { results := [.lit (.bool true)], args := [d1, d2, d3, d4] }
  | _ => none }
def ratioHalvesRow : OpenClaim := { program := "ytnnlkjbnonkjmaa", sum := "32e219e1d3eade0b2b11d5b17af894930871164eff7e53c7bbaf8daa9f82ea3f", func := "pennyweight/pennyweightlaw21.RatioHalves", spec := "ratioHalves", inPlace := ["math.Float64frombits", "math.Float64bits"], apart := false }
def RatioHalvesSaid : Prop := ratioHalvesRow.holds Try.pinned (OpenSpec.ofChange ratioHalvesSpec)

/-- ITS FALSE NEIGHBOUR: 'it returns false'. Refute it at one input. -/
def ratioHalvesWrong : ChangeSpec := { name := "ratioHalves", fn := fun _ => fun
  | [d1, d2, d3, d4] => { results := [.lit (.bool false)], args := [d1, d2, d3, d4] }
  | _ => none }
def RatioHalvesWrongFalsely : Prop := ratioHalvesRow.holds Try.pinned (OpenSpec.ofChange ratioHalvesWrong)

/-- 'pennyweightlaw21.RatioDivides': WHATEVER THE INPUT: true; the input reads as it did. -/
def ratioDividesSpec : ChangeSpec := { name := "ratioDivides", fn := fun _ => fun
  | [d1, d2] => { results := [.lit (.bool true)], args := [d1, d2] }
  | _ => none }
def ratioDividesRow : OpenClaim := { program := "ytnnlkjbnonkjmaa", sum := "32e219e1d3eade0b2b11d5b17af894930871164eff7e53c7bbaf8daa9f82ea3f", func := "pennyweight/pennyweightlaw21.RatioDivides", spec := "ratioDivides", inPlace := ["math.Float64frombits", "math.Float64bits"], apart := false }
def RatioDividesSaid : Prop := ratioDividesRow.holds Try.pinned (OpenSpec.ofChange ratioDividesSpec)

/-- ITS FALSE NEIGHBOUR: 'it returns false'. Refute it at one input. -/
def ratioDividesWrong : ChangeSpec := { name := "ratioDivides", fn := fun _ => fun
  | [d1, d2] => { results := [.lit (.bool false)], args := [d1, d2] }
  | _ => none }
def RatioDividesWrongFalsely : Prop := ratioDividesRow.holds Try.pinned (OpenSpec.ofChange ratioDividesWrong)

/-- 'pennyweightlaw21.RatioWeights': WHATEVER THE INPUT: true; the input reads as it did. -/
def ratioWeightsSpec : ChangeSpec := { name := "ratioWeights", fn := fun _ => fun
  | [d1, d2, d3] => { results := [.lit (.bool true)], args := [d1, d2, d3] }
  | _ => none }
def ratioWeightsRow : OpenClaim := { program := "ytnnlkjbnonkjmaa", sum := "32e219e1d3eade0b2b11d5b17af894930871164eff7e53c7bbaf8daa9f82ea3f", func := "pennyweight/pennyweightlaw21.RatioWeights", spec := "ratioWeights", inPlace := ["math.Float64frombits", "math.Float64bits"], apart := false }
def RatioWeightsSaid : Prop := ratioWeightsRow.holds Try.pinned (OpenSpec.ofChange ratioWeightsSpec)

/-- ITS FALSE NEIGHBOUR: 'it returns false'. Refute it at one input. -/
def ratioWeightsWrong : ChangeSpec := { name := "ratioWeights", fn := fun _ => fun
  | [d1, d2, d3] => { results := [.lit (.bool false)], args := [d1, d2, d3] }
  | _ => none }
def RatioWeightsWrongFalsely : Prop := ratioWeightsRow.holds Try.pinned (OpenSpec.ofChange ratioWeightsWrong)

/-- 'pennyweightlaw21.RatioNil': WHATEVER THE INPUT: true; the input reads as it did. -/
def ratioNilSpec : ChangeSpec := { name := "ratioNil", fn := fun _ => fun
  | [d1, d2, d3] => { results := [.lit (.bool true)], args := [d1, d2, d3] }
  | _ => none }
def ratioNilRow : OpenClaim := { program := "ytnnlkjbnonkjmaa", sum := "32e219e1d3eade0b2b11d5b17af894930871164eff7e53c7bbaf8daa9f82ea3f", func := "pennyweight/pennyweightlaw21.RatioNil", spec := "ratioNil", inPlace := ["math.Float64frombits", "math.Float64bits"], apart := false }
def RatioNilSaid : Prop := ratioNilRow.holds Try.pinned (OpenSpec.ofChange ratioNilSpec)

/-- ITS FALSE NEIGHBOUR: 'it returns false'. Refute it at one input. -/
def ratioNilWrong : ChangeSpec := { name := "ratioNil", fn := fun _ => fun
  | [d1, d2, d3] => { results := [.lit (.bool false)], args := [d1, d2, d3] }
  | _ => none }
def RatioNilWrongFalsely : Prop := ratioNilRow.holds Try.pinned (OpenSpec.ofChange ratioNilWrong)

/- THE SECOND FORM. 'bulk': how many values and letters a reading holds, each counted each time it is reached (what is shared counts as often as it is met; a slice's spare places count too). A statement '..UptoSaid' is the law's where the arguments, and the package variables that the reading takes, are together of bulk at most 1048576: NARROWER than '..Said'. Prove '..Said' where nothing that the law and all that it calls make is longer than what came in: it says more and counts as full. Else prove '..UptoSaid'. A law counts once. -/
mutual
def uptoBulk {H : Type} : DataW H → Nat
  | .lit (.string bytes) => bytes.length + 1
  | .lit _ => 1
  | .nil => 1
  | .ptr d => uptoBulk d + 1
  | .slice elems spare => uptoBulkAll elems + uptoBulkAll spare + 1
  | .agg parts => uptoBulkAll parts + 1
  | .iface _ d => uptoBulk d + 1
  | .map entries => uptoBulkEntries entries + 1
  | .held _ => 1
def uptoBulkAll {H : Type} : List (DataW H) → Nat
  | [] => 0
  | d :: r => uptoBulk d + uptoBulkAll r
def uptoBulkEntries {H : Type} : List (Lit × DataW H) → Nat
  | [] => 0
  | x :: r => uptoBulkEntry x + uptoBulkEntries r
def uptoBulkEntry {H : Type} : Lit × DataW H → Nat
  | (.string bytes, d) => bytes.length + uptoBulk d + 1
  | (_, d) => uptoBulk d + 1
 end
def uptoSmall : (H : Type) → List (DataW H) → Bool := fun _ ds => decide (uptoBulkAll ds ≤ 1048576)
def OpenSpec.upto (s : _root_.Go.ChangeSpec) : _root_.Go.OpenSpec := { _root_.Go.OpenSpec.ofChange s with cond := some uptoSmall }

/-- 'pennyweightlaw21.RatioOrders', WHERE WHAT IT READS IS OF BULK AT MOST 1048576: true; the input reads as it did. -/
def ratioOrdersUptoRow : OpenClaim := { program := "ytnnlkjbnonkjmaa", sum := "32e219e1d3eade0b2b11d5b17af894930871164eff7e53c7bbaf8daa9f82ea3f", func := "pennyweight/pennyweightlaw21.RatioOrders", spec := "ratioOrders", inPlace := ["math.Float64frombits", "math.Float64bits"], apart := false, narrowed := true }
def RatioOrdersUptoSaid : Prop := ratioOrdersUptoRow.holds Try.pinned (OpenSpec.upto ratioOrdersSpec)

/-- 'pennyweightlaw21.RatioSorts', WHERE WHAT IT READS IS OF BULK AT MOST 1048576: true; the input reads as it did. -/
def ratioSortsUptoRow : OpenClaim := { program := "ytnnlkjbnonkjmaa", sum := "32e219e1d3eade0b2b11d5b17af894930871164eff7e53c7bbaf8daa9f82ea3f", func := "pennyweight/pennyweightlaw21.RatioSorts", spec := "ratioSorts", inPlace := ["math.Float64frombits", "math.Float64bits"], apart := false, narrowed := true }
def RatioSortsUptoSaid : Prop := ratioSortsUptoRow.holds Try.pinned (OpenSpec.upto ratioSortsSpec)

/-- 'pennyweightlaw21.RatioHalves', WHERE WHAT IT READS IS OF BULK AT MOST 1048576: true; the input reads as it did. -/
def ratioHalvesUptoRow : OpenClaim := { program := "ytnnlkjbnonkjmaa", sum := "32e219e1d3eade0b2b11d5b17af894930871164eff7e53c7bbaf8daa9f82ea3f", func := "pennyweight/pennyweightlaw21.RatioHalves", spec := "ratioHalves", inPlace := ["math.Float64frombits", "math.Float64bits"], apart := false, narrowed := true }
def RatioHalvesUptoSaid : Prop := ratioHalvesUptoRow.holds Try.pinned (OpenSpec.upto ratioHalvesSpec)

/-- 'pennyweightlaw21.RatioDivides', WHERE WHAT IT READS IS OF BULK AT MOST 1048576: true; the input reads as it did. -/
def ratioDividesUptoRow : OpenClaim := { program := "ytnnlkjbnonkjmaa", sum := "32e219e1d3eade0b2b11d5b17af894930871164eff7e53c7bbaf8daa9f82ea3f", func := "pennyweight/pennyweightlaw21.RatioDivides", spec := "ratioDivides", inPlace := ["math.Float64frombits", "math.Float64bits"], apart := false, narrowed := true }
def RatioDividesUptoSaid : Prop := ratioDividesUptoRow.holds Try.pinned (OpenSpec.upto ratioDividesSpec)

/-- 'pennyweightlaw21.RatioWeights', WHERE WHAT IT READS IS OF BULK AT MOST 1048576: true; the input reads as it did. -/
def ratioWeightsUptoRow : OpenClaim := { program := "ytnnlkjbnonkjmaa", sum := "32e219e1d3eade0b2b11d5b17af894930871164eff7e53c7bbaf8daa9f82ea3f", func := "pennyweight/pennyweightlaw21.RatioWeights", spec := "ratioWeights", inPlace := ["math.Float64frombits", "math.Float64bits"], apart := false, narrowed := true }
def RatioWeightsUptoSaid : Prop := ratioWeightsUptoRow.holds Try.pinned (OpenSpec.upto ratioWeightsSpec)

/-- 'pennyweightlaw21.RatioNil', WHERE WHAT IT READS IS OF BULK AT MOST 1048576: true; the input reads as it did. -/
def ratioNilUptoRow : OpenClaim := { program := "ytnnlkjbnonkjmaa", sum := "32e219e1d3eade0b2b11d5b17af894930871164eff7e53c7bbaf8daa9f82ea3f", func := "pennyweight/pennyweightlaw21.RatioNil", spec := "ratioNil", inPlace := ["math.Float64frombits", "math.Float64bits"], apart := false, narrowed := true }
def RatioNilUptoSaid : Prop := ratioNilUptoRow.holds Try.pinned (OpenSpec.upto ratioNilSpec)

end Rows
end Go.Proofs.Ytnnlkjbnonkjmaa
