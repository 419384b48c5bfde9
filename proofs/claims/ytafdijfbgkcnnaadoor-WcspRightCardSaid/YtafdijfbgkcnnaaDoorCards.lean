/-
  DERIVED. GIVEN WITH THE SEED: THE CARDS: each row of YtafdijfbgkcnnaaDoorRows.lean that lists a variable, with what it lists TIED to the program's text (the seventh form; the later family's looks); each row that meets fmt, with fmt's text TOLD by the authors' own Lean function (tested against real Go, not proved from fmt's source: count such statements apart). THE CARD IS WHAT COUNTS. Prove the row's statement (the work); the ties are given (YtafdijfbgkcnnaaDoorTie.lean); close each card by the builder's one call (the guide's Derived/Test/ToyasCard.lean, 'card_holds'). Laid BY PROGRAM, IN A SANDBOX (cutbox-door.mjs). By AI agents, Wed Nov 11 2026. No macro, syntax, notation, axiom, sorry.
-/
import Derived.Test.YtafdijfbgkcnnaaDoorRows
import GoSem.ClaimSeven
namespace Go.Proofs.YtafdijfbgkcnnaaDoor
namespace Rows

/-- THE TIED CARD OF 'pennyweightlaw07.WcspVals'. -/
def wcspValsCard : Claim7 := { stood := { row := wcspValsRow, standIns := [], harness := (true, "6d8c22b2f00d45eff5ba0dc9921a681b4d823abeef8edf226f0bc9aca022e99b"), looks := false }, kinds := [], alts := [], laidByText := true, laidKinds := [.data, .data, .data], laidTests := true, laidLooks := .later }
def WcspValsCardSaid : Prop := Claim7.holds Tryd.pinned (.plain (OpenSpec.ofChange wcspValsSpec)) wcspValsCard

/-- THE TIED CARD OF 'pennyweightlaw07.WcspLarge'. -/
def wcspLargeCard : Claim7 := { stood := { row := wcspLargeRow, standIns := [], harness := (true, "6d8c22b2f00d45eff5ba0dc9921a681b4d823abeef8edf226f0bc9aca022e99b"), looks := false }, kinds := [], alts := [], laidByText := true, laidKinds := [.data, .data, .data], laidTests := true, laidLooks := .later }
def WcspLargeCardSaid : Prop := Claim7.holds Tryd.pinned (.plain (OpenSpec.ofChange wcspLargeSpec)) wcspLargeCard

/-- THE TIED CARD OF 'pennyweightlaw07.WcspPlaces'. -/
def wcspPlacesCard : Claim7 := { stood := { row := wcspPlacesRow, standIns := [], harness := (true, "6d8c22b2f00d45eff5ba0dc9921a681b4d823abeef8edf226f0bc9aca022e99b"), looks := false }, kinds := [], alts := [], laidByText := true, laidKinds := [.data, .data, .data], laidTests := true, laidLooks := .later }
def WcspPlacesCardSaid : Prop := Claim7.holds Tryd.pinned (.plain (OpenSpec.ofChange wcspPlacesSpec)) wcspPlacesCard

/-- THE TIED CARD OF 'pennyweightlaw07.WcspShared'. -/
def wcspSharedCard : Claim7 := { stood := { row := wcspSharedRow, standIns := [], harness := (true, "6d8c22b2f00d45eff5ba0dc9921a681b4d823abeef8edf226f0bc9aca022e99b"), looks := false }, kinds := [], alts := [], laidByText := true, laidKinds := [.data, .data, .data], laidTests := true, laidLooks := .later }
def WcspSharedCardSaid : Prop := Claim7.holds Tryd.pinned (.plain (OpenSpec.ofChange wcspSharedSpec)) wcspSharedCard

/-- THE TIED CARD OF 'pennyweightlaw07.WcspSpaces'. -/
def wcspSpacesCard : Claim7 := { stood := { row := wcspSpacesRow, standIns := [], harness := (true, "6d8c22b2f00d45eff5ba0dc9921a681b4d823abeef8edf226f0bc9aca022e99b"), looks := false }, kinds := [], alts := [], laidByText := true, laidKinds := [.data, .data, .data], laidTests := true, laidLooks := .later }
def WcspSpacesCardSaid : Prop := Claim7.holds Tryd.pinned (.plain (OpenSpec.ofChange wcspSpacesSpec)) wcspSpacesCard

/-- THE TIED CARD OF 'pennyweightlaw07.WcspRight'. -/
def wcspRightCard : Claim7 := { stood := { row := wcspRightRow, standIns := [], harness := (true, "6d8c22b2f00d45eff5ba0dc9921a681b4d823abeef8edf226f0bc9aca022e99b"), looks := false }, kinds := [], alts := [], laidByText := true, laidKinds := [.data, .data, .data], laidTests := true, laidLooks := .later }
def WcspRightCardSaid : Prop := Claim7.holds Tryd.pinned (.plain (OpenSpec.ofChange wcspRightSpec)) wcspRightCard

/-- THE SECOND FORM's CARD OF 'pennyweightlaw07.WcspVals'. -/
def wcspValsUptoCard : Claim7 := { stood := { row := wcspValsUptoRow, standIns := [], harness := (true, "6d8c22b2f00d45eff5ba0dc9921a681b4d823abeef8edf226f0bc9aca022e99b"), looks := false }, kinds := [], alts := [], laidByText := true, laidKinds := [.data, .data, .data], laidTests := true, laidLooks := .later }
def WcspValsUptoCardSaid : Prop := Claim7.holds Tryd.pinned (.plain (OpenSpec.upto wcspValsSpec)) wcspValsUptoCard

/-- THE SECOND FORM's CARD OF 'pennyweightlaw07.WcspLarge'. -/
def wcspLargeUptoCard : Claim7 := { stood := { row := wcspLargeUptoRow, standIns := [], harness := (true, "6d8c22b2f00d45eff5ba0dc9921a681b4d823abeef8edf226f0bc9aca022e99b"), looks := false }, kinds := [], alts := [], laidByText := true, laidKinds := [.data, .data, .data], laidTests := true, laidLooks := .later }
def WcspLargeUptoCardSaid : Prop := Claim7.holds Tryd.pinned (.plain (OpenSpec.upto wcspLargeSpec)) wcspLargeUptoCard

/-- THE SECOND FORM's CARD OF 'pennyweightlaw07.WcspPlaces'. -/
def wcspPlacesUptoCard : Claim7 := { stood := { row := wcspPlacesUptoRow, standIns := [], harness := (true, "6d8c22b2f00d45eff5ba0dc9921a681b4d823abeef8edf226f0bc9aca022e99b"), looks := false }, kinds := [], alts := [], laidByText := true, laidKinds := [.data, .data, .data], laidTests := true, laidLooks := .later }
def WcspPlacesUptoCardSaid : Prop := Claim7.holds Tryd.pinned (.plain (OpenSpec.upto wcspPlacesSpec)) wcspPlacesUptoCard

/-- THE SECOND FORM's CARD OF 'pennyweightlaw07.WcspShared'. -/
def wcspSharedUptoCard : Claim7 := { stood := { row := wcspSharedUptoRow, standIns := [], harness := (true, "6d8c22b2f00d45eff5ba0dc9921a681b4d823abeef8edf226f0bc9aca022e99b"), looks := false }, kinds := [], alts := [], laidByText := true, laidKinds := [.data, .data, .data], laidTests := true, laidLooks := .later }
def WcspSharedUptoCardSaid : Prop := Claim7.holds Tryd.pinned (.plain (OpenSpec.upto wcspSharedSpec)) wcspSharedUptoCard

/-- THE SECOND FORM's CARD OF 'pennyweightlaw07.WcspSpaces'. -/
def wcspSpacesUptoCard : Claim7 := { stood := { row := wcspSpacesUptoRow, standIns := [], harness := (true, "6d8c22b2f00d45eff5ba0dc9921a681b4d823abeef8edf226f0bc9aca022e99b"), looks := false }, kinds := [], alts := [], laidByText := true, laidKinds := [.data, .data, .data], laidTests := true, laidLooks := .later }
def WcspSpacesUptoCardSaid : Prop := Claim7.holds Tryd.pinned (.plain (OpenSpec.upto wcspSpacesSpec)) wcspSpacesUptoCard

/-- THE SECOND FORM's CARD OF 'pennyweightlaw07.WcspRight'. -/
def wcspRightUptoCard : Claim7 := { stood := { row := wcspRightUptoRow, standIns := [], harness := (true, "6d8c22b2f00d45eff5ba0dc9921a681b4d823abeef8edf226f0bc9aca022e99b"), looks := false }, kinds := [], alts := [], laidByText := true, laidKinds := [.data, .data, .data], laidTests := true, laidLooks := .later }
def WcspRightUptoCardSaid : Prop := Claim7.holds Tryd.pinned (.plain (OpenSpec.upto wcspRightSpec)) wcspRightUptoCard
end Rows
end Go.Proofs.YtafdijfbgkcnnaaDoor
