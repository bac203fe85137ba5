/-
  DERIVED. GIVEN WITH THE SEED: THE CARDS: each row of YtlfnpkjfnafeaaaDoorRows.lean that lists a variable, with what it lists TIED to the program's text (the seventh form; the later family's looks); each row that meets fmt, with fmt's text TOLD by the authors' own Lean function (tested against real Go, not proved from fmt's source: count such statements apart). THE CARD IS WHAT COUNTS. Prove the row's statement (the work); the ties are given (YtlfnpkjfnafeaaaDoorTie.lean); close each card by the builder's one call (the guide's Derived/Test/ToyasCard.lean, 'card_holds'). Laid BY PROGRAM, IN A SANDBOX (cutbox-door.mjs). By AI agents, Wed Nov 11 2026. No macro, syntax, notation, axiom, sorry.
-/
import Derived.Test.YtlfnpkjfnafeaaaDoorRows
import GoSem.ClaimSeven
namespace Go.Proofs.YtlfnpkjfnafeaaaDoor
namespace Rows

/-- THE TIED CARD OF 'clusterlockslaw07.RequestValid'. -/
def requestValidCard : Claim7 := { stood := { row := requestValidRow, standIns := [], harness := (true, "b6e7b5822769e8c4b1cfc3624394e0f1c6b787375268464237a8da4967207a3b"), looks := true }, kinds := [], alts := [], laidByText := true, laidKinds := [.data, .data, .data], laidTests := true, laidLooks := .later }
def RequestValidCardSaid : Prop := Claim7.holds Tryd.pinned (.plain (OpenSpec.ofChange requestValidSpec)) requestValidCard

/-- THE TIED CARD OF 'clusterlockslaw07.RequestParses'. -/
def requestParsesCard : Claim7 := { stood := { row := requestParsesRow, standIns := [], harness := (true, "b6e7b5822769e8c4b1cfc3624394e0f1c6b787375268464237a8da4967207a3b"), looks := true }, kinds := [], alts := [], laidByText := true, laidKinds := [.data, .data, .data], laidTests := true, laidLooks := .later }
def RequestParsesCardSaid : Prop := Claim7.holds Tryd.pinned (.plain (OpenSpec.ofChange requestParsesSpec)) requestParsesCard

/-- THE TIED CARD OF 'clusterlockslaw07.RequestBack'. -/
def requestBackCard : Claim7 := { stood := { row := requestBackRow, standIns := [], harness := (true, "b6e7b5822769e8c4b1cfc3624394e0f1c6b787375268464237a8da4967207a3b"), looks := true }, kinds := [], alts := [], laidByText := true, laidKinds := [.data, .data, .data], laidTests := true, laidLooks := .later }
def RequestBackCardSaid : Prop := Claim7.holds Tryd.pinned (.plain (OpenSpec.ofChange requestBackSpec)) requestBackCard

/-- THE TIED CARD OF 'clusterlockslaw07.RequestTapes'. -/
def requestTapesCard : Claim7 := { stood := { row := requestTapesRow, standIns := [], harness := (true, "b6e7b5822769e8c4b1cfc3624394e0f1c6b787375268464237a8da4967207a3b"), looks := true }, kinds := [], alts := [], laidByText := true, laidKinds := [.data, .data, .data], laidTests := true, laidLooks := .later }
def RequestTapesCardSaid : Prop := Claim7.holds Tryd.pinned (.plain (OpenSpec.ofChange requestTapesSpec)) requestTapesCard

/-- THE TIED CARD OF 'clusterlockslaw07.RequestCanonical'. -/
def requestCanonicalCard : Claim7 := { stood := { row := requestCanonicalRow, standIns := [], harness := (true, "b6e7b5822769e8c4b1cfc3624394e0f1c6b787375268464237a8da4967207a3b"), looks := true }, kinds := [], alts := [], laidByText := true, laidKinds := [.data, .data, .data], laidTests := true, laidLooks := .later }
def RequestCanonicalCardSaid : Prop := Claim7.holds Tryd.pinned (.plain (OpenSpec.ofChange requestCanonicalSpec)) requestCanonicalCard

/-- THE TIED CARD OF 'clusterlockslaw07.RequestSpaces'. -/
def requestSpacesCard : Claim7 := { stood := { row := requestSpacesRow, standIns := [], harness := (true, "b6e7b5822769e8c4b1cfc3624394e0f1c6b787375268464237a8da4967207a3b"), looks := true }, kinds := [], alts := [], laidByText := true, laidKinds := [.data, .data, .data], laidTests := true, laidLooks := .later }
def RequestSpacesCardSaid : Prop := Claim7.holds Tryd.pinned (.plain (OpenSpec.ofChange requestSpacesSpec)) requestSpacesCard

/-- THE TIED CARD OF 'clusterlockslaw07.RequestNests'. -/
def requestNestsCard : Claim7 := { stood := { row := requestNestsRow, standIns := [], harness := (true, "b6e7b5822769e8c4b1cfc3624394e0f1c6b787375268464237a8da4967207a3b"), looks := true }, kinds := [], alts := [], laidByText := true, laidKinds := [.data, .data, .data], laidTests := true, laidLooks := .later }
def RequestNestsCardSaid : Prop := Claim7.holds Tryd.pinned (.plain (OpenSpec.ofChange requestNestsSpec)) requestNestsCard

/-- THE TIED CARD OF 'clusterlockslaw07.RequestConflicts'. -/
def requestConflictsCard : Claim7 := { stood := { row := requestConflictsRow, standIns := [], harness := (true, "b6e7b5822769e8c4b1cfc3624394e0f1c6b787375268464237a8da4967207a3b"), looks := true }, kinds := [], alts := [], laidByText := true, laidKinds := [.data, .data, .data], laidTests := true, laidLooks := .later }
def RequestConflictsCardSaid : Prop := Claim7.holds Tryd.pinned (.plain (OpenSpec.ofChange requestConflictsSpec)) requestConflictsCard

/-- THE TIED CARD OF 'clusterlockslaw07.RequestFormats'. -/
def requestFormatsCard : Claim7 := { stood := { row := requestFormatsRow, standIns := [], harness := (true, "b6e7b5822769e8c4b1cfc3624394e0f1c6b787375268464237a8da4967207a3b"), looks := true }, kinds := [], alts := [], laidByText := true, laidKinds := [.data, .data, .data], laidTests := true, laidLooks := .later }
def RequestFormatsCardSaid : Prop := Claim7.holds Tryd.pinned (.plain (OpenSpec.ofChange requestFormatsSpec)) requestFormatsCard

/-- THE SECOND FORM's CARD OF 'clusterlockslaw07.RequestValid'. -/
def requestValidUptoCard : Claim7 := { stood := { row := requestValidUptoRow, standIns := [], harness := (true, "b6e7b5822769e8c4b1cfc3624394e0f1c6b787375268464237a8da4967207a3b"), looks := true }, kinds := [], alts := [], laidByText := true, laidKinds := [.data, .data, .data], laidTests := true, laidLooks := .later }
def RequestValidUptoCardSaid : Prop := Claim7.holds Tryd.pinned (.plain (OpenSpec.upto requestValidSpec)) requestValidUptoCard

/-- THE SECOND FORM's CARD OF 'clusterlockslaw07.RequestParses'. -/
def requestParsesUptoCard : Claim7 := { stood := { row := requestParsesUptoRow, standIns := [], harness := (true, "b6e7b5822769e8c4b1cfc3624394e0f1c6b787375268464237a8da4967207a3b"), looks := true }, kinds := [], alts := [], laidByText := true, laidKinds := [.data, .data, .data], laidTests := true, laidLooks := .later }
def RequestParsesUptoCardSaid : Prop := Claim7.holds Tryd.pinned (.plain (OpenSpec.upto requestParsesSpec)) requestParsesUptoCard

/-- THE SECOND FORM's CARD OF 'clusterlockslaw07.RequestBack'. -/
def requestBackUptoCard : Claim7 := { stood := { row := requestBackUptoRow, standIns := [], harness := (true, "b6e7b5822769e8c4b1cfc3624394e0f1c6b787375268464237a8da4967207a3b"), looks := true }, kinds := [], alts := [], laidByText := true, laidKinds := [.data, .data, .data], laidTests := true, laidLooks := .later }
def RequestBackUptoCardSaid : Prop := Claim7.holds Tryd.pinned (.plain (OpenSpec.upto requestBackSpec)) requestBackUptoCard

/-- THE SECOND FORM's CARD OF 'clusterlockslaw07.RequestTapes'. -/
def requestTapesUptoCard : Claim7 := { stood := { row := requestTapesUptoRow, standIns := [], harness := (true, "b6e7b5822769e8c4b1cfc3624394e0f1c6b787375268464237a8da4967207a3b"), looks := true }, kinds := [], alts := [], laidByText := true, laidKinds := [.data, .data, .data], laidTests := true, laidLooks := .later }
def RequestTapesUptoCardSaid : Prop := Claim7.holds Tryd.pinned (.plain (OpenSpec.upto requestTapesSpec)) requestTapesUptoCard

/-- THE SECOND FORM's CARD OF 'clusterlockslaw07.RequestCanonical'. -/
def requestCanonicalUptoCard : Claim7 := { stood := { row := requestCanonicalUptoRow, standIns := [], harness := (true, "b6e7b5822769e8c4b1cfc3624394e0f1c6b787375268464237a8da4967207a3b"), looks := true }, kinds := [], alts := [], laidByText := true, laidKinds := [.data, .data, .data], laidTests := true, laidLooks := .later }
def RequestCanonicalUptoCardSaid : Prop := Claim7.holds Tryd.pinned (.plain (OpenSpec.upto requestCanonicalSpec)) requestCanonicalUptoCard

/-- THE SECOND FORM's CARD OF 'clusterlockslaw07.RequestSpaces'. -/
def requestSpacesUptoCard : Claim7 := { stood := { row := requestSpacesUptoRow, standIns := [], harness := (true, "b6e7b5822769e8c4b1cfc3624394e0f1c6b787375268464237a8da4967207a3b"), looks := true }, kinds := [], alts := [], laidByText := true, laidKinds := [.data, .data, .data], laidTests := true, laidLooks := .later }
def RequestSpacesUptoCardSaid : Prop := Claim7.holds Tryd.pinned (.plain (OpenSpec.upto requestSpacesSpec)) requestSpacesUptoCard

/-- THE SECOND FORM's CARD OF 'clusterlockslaw07.RequestNests'. -/
def requestNestsUptoCard : Claim7 := { stood := { row := requestNestsUptoRow, standIns := [], harness := (true, "b6e7b5822769e8c4b1cfc3624394e0f1c6b787375268464237a8da4967207a3b"), looks := true }, kinds := [], alts := [], laidByText := true, laidKinds := [.data, .data, .data], laidTests := true, laidLooks := .later }
def RequestNestsUptoCardSaid : Prop := Claim7.holds Tryd.pinned (.plain (OpenSpec.upto requestNestsSpec)) requestNestsUptoCard

/-- THE SECOND FORM's CARD OF 'clusterlockslaw07.RequestConflicts'. -/
def requestConflictsUptoCard : Claim7 := { stood := { row := requestConflictsUptoRow, standIns := [], harness := (true, "b6e7b5822769e8c4b1cfc3624394e0f1c6b787375268464237a8da4967207a3b"), looks := true }, kinds := [], alts := [], laidByText := true, laidKinds := [.data, .data, .data], laidTests := true, laidLooks := .later }
def RequestConflictsUptoCardSaid : Prop := Claim7.holds Tryd.pinned (.plain (OpenSpec.upto requestConflictsSpec)) requestConflictsUptoCard

/-- THE SECOND FORM's CARD OF 'clusterlockslaw07.RequestFormats'. -/
def requestFormatsUptoCard : Claim7 := { stood := { row := requestFormatsUptoRow, standIns := [], harness := (true, "b6e7b5822769e8c4b1cfc3624394e0f1c6b787375268464237a8da4967207a3b"), looks := true }, kinds := [], alts := [], laidByText := true, laidKinds := [.data, .data, .data], laidTests := true, laidLooks := .later }
def RequestFormatsUptoCardSaid : Prop := Claim7.holds Tryd.pinned (.plain (OpenSpec.upto requestFormatsSpec)) requestFormatsUptoCard
end Rows
end Go.Proofs.YtlfnpkjfnafeaaaDoor
