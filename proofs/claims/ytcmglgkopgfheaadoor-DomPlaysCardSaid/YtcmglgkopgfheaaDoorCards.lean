/-
  DERIVED. GIVEN WITH THE SEED: THE CARDS: each row of YtcmglgkopgfheaaDoorRows.lean that lists a variable, with what it lists TIED to the program's text (the seventh form; the later family's looks); each row that meets fmt, with fmt's text TOLD by the authors' own Lean function (tested against real Go, not proved from fmt's source: count such statements apart). THE CARD IS WHAT COUNTS. Prove the row's statement (the work); the ties are given (YtcmglgkopgfheaaDoorTie.lean); close each card by the builder's one call (the guide's Derived/Test/ToyasCard.lean, 'card_holds'). Laid BY PROGRAM, IN A SANDBOX (cutbox-door.mjs). By AI agents, Wed Nov 11 2026. No macro, syntax, notation, axiom, sorry.
-/
import Derived.Test.YtcmglgkopgfheaaDoorRows
import GoSem.ClaimSeven
namespace Go.Proofs.YtcmglgkopgfheaaDoor
namespace Rows

/-- THE TIED CARD OF 'pennyweightlaw02.DomSubsets'. -/
def domSubsetsCard : Claim7 := { stood := { row := domSubsetsRow, standIns := [], harness := (true, "afc2dbe4ac9ff405b8b3a6ab015542c61ec40076c83ec69ff285943260666963"), looks := false }, kinds := [], alts := [], laidByText := true, laidKinds := [.data], laidTests := true, laidLooks := .later }
def DomSubsetsCardSaid : Prop := Claim7.holds Tryd.pinned (.plain (OpenSpec.ofChange domSubsetsSpec)) domSubsetsCard

/-- THE TIED CARD OF 'pennyweightlaw02.DomNexts'. -/
def domNextsCard : Claim7 := { stood := { row := domNextsRow, standIns := [], harness := (true, "afc2dbe4ac9ff405b8b3a6ab015542c61ec40076c83ec69ff285943260666963"), looks := false }, kinds := [], alts := [], laidByText := true, laidKinds := [.data], laidTests := true, laidLooks := .later }
def DomNextsCardSaid : Prop := Claim7.holds Tryd.pinned (.plain (OpenSpec.ofChange domNextsSpec)) domNextsCard

/-- THE TIED CARD OF 'pennyweightlaw02.DomNew'. -/
def domNewCard : Claim7 := { stood := { row := domNewRow, standIns := [], harness := (true, "afc2dbe4ac9ff405b8b3a6ab015542c61ec40076c83ec69ff285943260666963"), looks := false }, kinds := [], alts := [], laidByText := true, laidKinds := [.data], laidTests := true, laidLooks := .later }
def DomNewCardSaid : Prop := Claim7.holds Tryd.pinned (.plain (OpenSpec.ofChange domNewSpec)) domNewCard

/-- THE TIED CARD OF 'pennyweightlaw02.DomInters'. -/
def domIntersCard : Claim7 := { stood := { row := domIntersRow, standIns := [], harness := (true, "afc2dbe4ac9ff405b8b3a6ab015542c61ec40076c83ec69ff285943260666963"), looks := false }, kinds := [], alts := [], laidByText := true, laidKinds := [.data], laidTests := true, laidLooks := .later }
def DomIntersCardSaid : Prop := Claim7.holds Tryd.pinned (.plain (OpenSpec.ofChange domIntersSpec)) domIntersCard

/-- THE TIED CARD OF 'pennyweightlaw02.DomPlays'. -/
def domPlaysCard : Claim7 := { stood := { row := domPlaysRow, standIns := [], harness := (true, "afc2dbe4ac9ff405b8b3a6ab015542c61ec40076c83ec69ff285943260666963"), looks := false }, kinds := [], alts := [], laidByText := true, laidKinds := [.data], laidTests := true, laidLooks := .later }
def DomPlaysCardSaid : Prop := Claim7.holds Tryd.pinned (.plain (OpenSpec.ofChange domPlaysSpec)) domPlaysCard

/-- THE SECOND FORM's CARD OF 'pennyweightlaw02.DomSubsets'. -/
def domSubsetsUptoCard : Claim7 := { stood := { row := domSubsetsUptoRow, standIns := [], harness := (true, "afc2dbe4ac9ff405b8b3a6ab015542c61ec40076c83ec69ff285943260666963"), looks := false }, kinds := [], alts := [], laidByText := true, laidKinds := [.data], laidTests := true, laidLooks := .later }
def DomSubsetsUptoCardSaid : Prop := Claim7.holds Tryd.pinned (.plain (OpenSpec.upto domSubsetsSpec)) domSubsetsUptoCard

/-- THE SECOND FORM's CARD OF 'pennyweightlaw02.DomNexts'. -/
def domNextsUptoCard : Claim7 := { stood := { row := domNextsUptoRow, standIns := [], harness := (true, "afc2dbe4ac9ff405b8b3a6ab015542c61ec40076c83ec69ff285943260666963"), looks := false }, kinds := [], alts := [], laidByText := true, laidKinds := [.data], laidTests := true, laidLooks := .later }
def DomNextsUptoCardSaid : Prop := Claim7.holds Tryd.pinned (.plain (OpenSpec.upto domNextsSpec)) domNextsUptoCard

/-- THE SECOND FORM's CARD OF 'pennyweightlaw02.DomNew'. -/
def domNewUptoCard : Claim7 := { stood := { row := domNewUptoRow, standIns := [], harness := (true, "afc2dbe4ac9ff405b8b3a6ab015542c61ec40076c83ec69ff285943260666963"), looks := false }, kinds := [], alts := [], laidByText := true, laidKinds := [.data], laidTests := true, laidLooks := .later }
def DomNewUptoCardSaid : Prop := Claim7.holds Tryd.pinned (.plain (OpenSpec.upto domNewSpec)) domNewUptoCard

/-- THE SECOND FORM's CARD OF 'pennyweightlaw02.DomInters'. -/
def domIntersUptoCard : Claim7 := { stood := { row := domIntersUptoRow, standIns := [], harness := (true, "afc2dbe4ac9ff405b8b3a6ab015542c61ec40076c83ec69ff285943260666963"), looks := false }, kinds := [], alts := [], laidByText := true, laidKinds := [.data], laidTests := true, laidLooks := .later }
def DomIntersUptoCardSaid : Prop := Claim7.holds Tryd.pinned (.plain (OpenSpec.upto domIntersSpec)) domIntersUptoCard

/-- THE SECOND FORM's CARD OF 'pennyweightlaw02.DomPlays'. -/
def domPlaysUptoCard : Claim7 := { stood := { row := domPlaysUptoRow, standIns := [], harness := (true, "afc2dbe4ac9ff405b8b3a6ab015542c61ec40076c83ec69ff285943260666963"), looks := false }, kinds := [], alts := [], laidByText := true, laidKinds := [.data], laidTests := true, laidLooks := .later }
def DomPlaysUptoCardSaid : Prop := Claim7.holds Tryd.pinned (.plain (OpenSpec.upto domPlaysSpec)) domPlaysUptoCard
end Rows
end Go.Proofs.YtcmglgkopgfheaaDoor
