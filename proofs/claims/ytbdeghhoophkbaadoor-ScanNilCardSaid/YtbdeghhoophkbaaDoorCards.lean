/-
  DERIVED. GIVEN WITH THE SEED: THE CARDS: each row of YtbdeghhoophkbaaDoorRows.lean that lists a variable, with what it lists TIED to the program's text (the seventh form; the later family's looks); each row that meets fmt, with fmt's text TOLD by the authors' own Lean function (tested against real Go, not proved from fmt's source: count such statements apart). THE CARD IS WHAT COUNTS. Prove the row's statement (the work); the ties are given (YtbdeghhoophkbaaDoorTie.lean); close each card by the builder's one call (the guide's Derived/Test/ToyasCard.lean, 'card_holds'). Laid BY PROGRAM, IN A SANDBOX (cutbox-door.mjs). By AI agents, Wed Nov 11 2026. No macro, syntax, notation, axiom, sorry.
-/
import Derived.Test.YtbdeghhoophkbaaDoorRows
import GoSem.ClaimSeven
namespace Go.Proofs.YtbdeghhoophkbaaDoor
namespace Rows

/-- THE TIED CARD OF 'pennyweightlaw06.ScanNumbers'. -/
def scanNumbersCard : Claim7 := { stood := { row := scanNumbersRow, standIns := [], harness := (true, "1e1c631b6d5010a47c4c0bd6b2bbff3fc7ff78992d06677b611cf43b008e2da3"), looks := false }, kinds := [], alts := [], laidByText := true, laidKinds := [.data, .data, .data], laidTests := true, laidLooks := .later }
def ScanNumbersCardSaid : Prop := Claim7.holds Tryd.pinned (.plain (OpenSpec.ofChange scanNumbersSpec)) scanNumbersCard

/-- THE TIED CARD OF 'pennyweightlaw06.ScanNil'. -/
def scanNilCard : Claim7 := { stood := { row := scanNilRow, standIns := [], harness := (true, "1e1c631b6d5010a47c4c0bd6b2bbff3fc7ff78992d06677b611cf43b008e2da3"), looks := false }, kinds := [], alts := [], laidByText := true, laidKinds := [.data, .data, .data], laidTests := true, laidLooks := .later }
def ScanNilCardSaid : Prop := Claim7.holds Tryd.pinned (.plain (OpenSpec.ofChange scanNilSpec)) scanNilCard

/-- THE SECOND FORM's CARD OF 'pennyweightlaw06.ScanNumbers'. -/
def scanNumbersUptoCard : Claim7 := { stood := { row := scanNumbersUptoRow, standIns := [], harness := (true, "1e1c631b6d5010a47c4c0bd6b2bbff3fc7ff78992d06677b611cf43b008e2da3"), looks := false }, kinds := [], alts := [], laidByText := true, laidKinds := [.data, .data, .data], laidTests := true, laidLooks := .later }
def ScanNumbersUptoCardSaid : Prop := Claim7.holds Tryd.pinned (.plain (OpenSpec.upto scanNumbersSpec)) scanNumbersUptoCard

/-- THE SECOND FORM's CARD OF 'pennyweightlaw06.ScanNil'. -/
def scanNilUptoCard : Claim7 := { stood := { row := scanNilUptoRow, standIns := [], harness := (true, "1e1c631b6d5010a47c4c0bd6b2bbff3fc7ff78992d06677b611cf43b008e2da3"), looks := false }, kinds := [], alts := [], laidByText := true, laidKinds := [.data, .data, .data], laidTests := true, laidLooks := .later }
def ScanNilUptoCardSaid : Prop := Claim7.holds Tryd.pinned (.plain (OpenSpec.upto scanNilSpec)) scanNilUptoCard
end Rows
end Go.Proofs.YtbdeghhoophkbaaDoor
