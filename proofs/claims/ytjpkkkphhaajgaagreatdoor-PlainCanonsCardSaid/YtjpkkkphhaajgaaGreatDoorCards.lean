/-
  DERIVED. GIVEN WITH THE SEED: THE CARDS: each row of YtjpkkkphhaajgaaGreatDoorRows.lean that lists a variable, with what it lists TIED to the program's text (the seventh form; the later family's looks); each row that meets fmt, with fmt's text TOLD by the authors' own Lean function (tested against real Go, not proved from fmt's source: count such statements apart). THE CARD IS WHAT COUNTS. Prove the row's statement (the work); the ties are given (YtjpkkkphhaajgaaGreatDoorTie.lean); close each card by the builder's one call (the guide's Derived/Test/ToyasCard.lean, 'card_holds'). Laid BY PROGRAM, IN A SANDBOX (cutbox-door.mjs). By AI agents, Wed Nov 11 2026. No macro, syntax, notation, axiom, sorry.
-/
import Derived.Test.YtjpkkkphhaajgaaGreatDoorRows
import GoSem.ClaimSeven
namespace Go.Proofs.YtjpkkkphhaajgaaGreatDoor
namespace Rows

/-- THE TIED CARD OF 'pennyweightlaw08.PlainSorted'. -/
def plainSortedCard : Claim7 := { stood := { row := plainSortedRow, standIns := [], harness := (true, "24f086b8aa23aa35ecb35d45b7521ee4f0ceb6e49e1565a2f72969220e406d29"), looks := true }, kinds := [], alts := [], laidByText := true, laidKinds := [.data, .data, .data], laidTests := true, laidLooks := .later }
def PlainSortedCardSaid : Prop := Claim7.holds Tryz.pinned (.plain (OpenSpec.ofChange plainSortedSpec)) plainSortedCard

/-- THE TIED CARD OF 'pennyweightlaw08.PlainCanons'. -/
def plainCanonsCard : Claim7 := { stood := { row := plainCanonsRow, standIns := [], harness := (true, "24f086b8aa23aa35ecb35d45b7521ee4f0ceb6e49e1565a2f72969220e406d29"), looks := true }, kinds := [], alts := [], laidByText := true, laidKinds := [.data, .data, .data], laidTests := true, laidLooks := .later }
def PlainCanonsCardSaid : Prop := Claim7.holds Tryz.pinned (.plain (OpenSpec.ofChange plainCanonsSpec)) plainCanonsCard

/-- THE TIED CARD OF 'pennyweightlaw08.PlainPrints'. -/
def plainPrintsCard : Claim7 := { stood := { row := plainPrintsRow, standIns := [], harness := (true, "24f086b8aa23aa35ecb35d45b7521ee4f0ceb6e49e1565a2f72969220e406d29"), looks := true }, kinds := [], alts := [], laidByText := true, laidKinds := [.data, .data, .data], laidTests := true, laidLooks := .later }
def PlainPrintsCardSaid : Prop := Claim7.holds Tryz.pinned (.plain (OpenSpec.ofChange plainPrintsSpec)) plainPrintsCard

/-- THE TIED CARD OF 'pennyweightlaw08.PlainOnce'. -/
def plainOnceCard : Claim7 := { stood := { row := plainOnceRow, standIns := [], harness := (true, "24f086b8aa23aa35ecb35d45b7521ee4f0ceb6e49e1565a2f72969220e406d29"), looks := true }, kinds := [], alts := [], laidByText := true, laidKinds := [.data, .data, .data], laidTests := true, laidLooks := .later }
def PlainOnceCardSaid : Prop := Claim7.holds Tryz.pinned (.plain (OpenSpec.ofChange plainOnceSpec)) plainOnceCard

/-- THE TIED CARD OF 'pennyweightlaw08.PlainErrs'. -/
def plainErrsCard : Claim7 := { stood := { row := plainErrsRow, standIns := [], harness := (true, "24f086b8aa23aa35ecb35d45b7521ee4f0ceb6e49e1565a2f72969220e406d29"), looks := true }, kinds := [], alts := [], laidByText := true, laidKinds := [.data, .data, .data], laidTests := true, laidLooks := .later }
def PlainErrsCardSaid : Prop := Claim7.holds Tryz.pinned (.plain (OpenSpec.ofChange plainErrsSpec)) plainErrsCard

/-- THE SECOND FORM's CARD OF 'pennyweightlaw08.PlainSorted'. -/
def plainSortedUptoCard : Claim7 := { stood := { row := plainSortedUptoRow, standIns := [], harness := (true, "24f086b8aa23aa35ecb35d45b7521ee4f0ceb6e49e1565a2f72969220e406d29"), looks := true }, kinds := [], alts := [], laidByText := true, laidKinds := [.data, .data, .data], laidTests := true, laidLooks := .later }
def PlainSortedUptoCardSaid : Prop := Claim7.holds Tryz.pinned (.plain (OpenSpec.upto plainSortedSpec)) plainSortedUptoCard

/-- THE SECOND FORM's CARD OF 'pennyweightlaw08.PlainCanons'. -/
def plainCanonsUptoCard : Claim7 := { stood := { row := plainCanonsUptoRow, standIns := [], harness := (true, "24f086b8aa23aa35ecb35d45b7521ee4f0ceb6e49e1565a2f72969220e406d29"), looks := true }, kinds := [], alts := [], laidByText := true, laidKinds := [.data, .data, .data], laidTests := true, laidLooks := .later }
def PlainCanonsUptoCardSaid : Prop := Claim7.holds Tryz.pinned (.plain (OpenSpec.upto plainCanonsSpec)) plainCanonsUptoCard

/-- THE SECOND FORM's CARD OF 'pennyweightlaw08.PlainPrints'. -/
def plainPrintsUptoCard : Claim7 := { stood := { row := plainPrintsUptoRow, standIns := [], harness := (true, "24f086b8aa23aa35ecb35d45b7521ee4f0ceb6e49e1565a2f72969220e406d29"), looks := true }, kinds := [], alts := [], laidByText := true, laidKinds := [.data, .data, .data], laidTests := true, laidLooks := .later }
def PlainPrintsUptoCardSaid : Prop := Claim7.holds Tryz.pinned (.plain (OpenSpec.upto plainPrintsSpec)) plainPrintsUptoCard

/-- THE SECOND FORM's CARD OF 'pennyweightlaw08.PlainOnce'. -/
def plainOnceUptoCard : Claim7 := { stood := { row := plainOnceUptoRow, standIns := [], harness := (true, "24f086b8aa23aa35ecb35d45b7521ee4f0ceb6e49e1565a2f72969220e406d29"), looks := true }, kinds := [], alts := [], laidByText := true, laidKinds := [.data, .data, .data], laidTests := true, laidLooks := .later }
def PlainOnceUptoCardSaid : Prop := Claim7.holds Tryz.pinned (.plain (OpenSpec.upto plainOnceSpec)) plainOnceUptoCard

/-- THE SECOND FORM's CARD OF 'pennyweightlaw08.PlainErrs'. -/
def plainErrsUptoCard : Claim7 := { stood := { row := plainErrsUptoRow, standIns := [], harness := (true, "24f086b8aa23aa35ecb35d45b7521ee4f0ceb6e49e1565a2f72969220e406d29"), looks := true }, kinds := [], alts := [], laidByText := true, laidKinds := [.data, .data, .data], laidTests := true, laidLooks := .later }
def PlainErrsUptoCardSaid : Prop := Claim7.holds Tryz.pinned (.plain (OpenSpec.upto plainErrsSpec)) plainErrsUptoCard
end Rows
end Go.Proofs.YtjpkkkphhaajgaaGreatDoor
