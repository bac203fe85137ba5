/-
  DERIVED. GIVEN WITH THE SEED: THE CARDS: each row of YtghhmooknjoblaaDoorRows.lean that lists a variable, with what it lists TIED to the program's text (the seventh form; the later family's looks); each row that meets fmt, with fmt's text TOLD by the authors' own Lean function (tested against real Go, not proved from fmt's source: count such statements apart). THE CARD IS WHAT COUNTS. Prove the row's statement (the work); the ties are given (YtghhmooknjoblaaDoorTie.lean); close each card by the builder's one call (the guide's Derived/Test/ToyasCard.lean, 'card_holds'). Laid BY PROGRAM, IN A SANDBOX (cutbox-door.mjs). By AI agents, Wed Nov 11 2026. No macro, syntax, notation, axiom, sorry.
-/
import Derived.Test.YtghhmooknjoblaaDoorRows
import GoSem.ClaimSeven
namespace Go.Proofs.YtghhmooknjoblaaDoor
namespace Rows

/-- THE TIED CARD OF 'clusterlockslaw04.AmountFits'. -/
def amountFitsCard : Claim7 := { stood := { row := amountFitsRow, standIns := [], harness := (true, "76f687751acb78786b8d8ec7d51adad8279aeb83021b977ef45746870b30df48"), looks := false }, kinds := [], alts := [], laidByText := true, laidKinds := [.data, .data, .data, .data], laidTests := true, laidLooks := .later }
def AmountFitsCardSaid : Prop := Claim7.holds Tryd.pinned (.plain (OpenSpec.ofChange amountFitsSpec)) amountFitsCard

/-- THE TIED CARD OF 'clusterlockslaw04.AmountTurns'. -/
def amountTurnsCard : Claim7 := { stood := { row := amountTurnsRow, standIns := [], harness := (true, "76f687751acb78786b8d8ec7d51adad8279aeb83021b977ef45746870b30df48"), looks := false }, kinds := [], alts := [], laidByText := true, laidKinds := [.data, .data, .data, .data], laidTests := true, laidLooks := .later }
def AmountTurnsCardSaid : Prop := Claim7.holds Tryd.pinned (.plain (OpenSpec.ofChange amountTurnsSpec)) amountTurnsCard

/-- THE TIED CARD OF 'clusterlockslaw04.AmountTexts'. -/
def amountTextsCard : Claim7 := { stood := { row := amountTextsRow, standIns := [], harness := (true, "76f687751acb78786b8d8ec7d51adad8279aeb83021b977ef45746870b30df48"), looks := false }, kinds := [], alts := [], laidByText := true, laidKinds := [.data, .data, .data, .data], laidTests := true, laidLooks := .later }
def AmountTextsCardSaid : Prop := Claim7.holds Tryd.pinned (.plain (OpenSpec.ofChange amountTextsSpec)) amountTextsCard

/-- THE TIED CARD OF 'clusterlockslaw04.AmountJoins'. -/
def amountJoinsCard : Claim7 := { stood := { row := amountJoinsRow, standIns := [], harness := (true, "76f687751acb78786b8d8ec7d51adad8279aeb83021b977ef45746870b30df48"), looks := false }, kinds := [], alts := [], laidByText := true, laidKinds := [.data, .data, .data, .data], laidTests := true, laidLooks := .later }
def AmountJoinsCardSaid : Prop := Claim7.holds Tryd.pinned (.plain (OpenSpec.ofChange amountJoinsSpec)) amountJoinsCard

/-- THE TIED CARD OF 'clusterlockslaw04.AmountCompatible'. -/
def amountCompatibleCard : Claim7 := { stood := { row := amountCompatibleRow, standIns := [], harness := (true, "76f687751acb78786b8d8ec7d51adad8279aeb83021b977ef45746870b30df48"), looks := false }, kinds := [], alts := [], laidByText := true, laidKinds := [.data, .data, .data, .data], laidTests := true, laidLooks := .later }
def AmountCompatibleCardSaid : Prop := Claim7.holds Tryd.pinned (.plain (OpenSpec.ofChange amountCompatibleSpec)) amountCompatibleCard

/-- THE TIED CARD OF 'clusterlockslaw04.AmountCovers'. -/
def amountCoversCard : Claim7 := { stood := { row := amountCoversRow, standIns := [], harness := (true, "76f687751acb78786b8d8ec7d51adad8279aeb83021b977ef45746870b30df48"), looks := false }, kinds := [], alts := [], laidByText := true, laidKinds := [.data, .data, .data, .data], laidTests := true, laidLooks := .later }
def AmountCoversCardSaid : Prop := Claim7.holds Tryd.pinned (.plain (OpenSpec.ofChange amountCoversSpec)) amountCoversCard

/-- THE TIED CARD OF 'clusterlockslaw04.AmountLattice'. -/
def amountLatticeCard : Claim7 := { stood := { row := amountLatticeRow, standIns := [], harness := (true, "76f687751acb78786b8d8ec7d51adad8279aeb83021b977ef45746870b30df48"), looks := false }, kinds := [], alts := [], laidByText := true, laidKinds := [.data, .data, .data, .data], laidTests := true, laidLooks := .later }
def AmountLatticeCardSaid : Prop := Claim7.holds Tryd.pinned (.plain (OpenSpec.ofChange amountLatticeSpec)) amountLatticeCard

/-- THE TIED CARD OF 'clusterlockslaw04.AmountShrinks'. -/
def amountShrinksCard : Claim7 := { stood := { row := amountShrinksRow, standIns := [], harness := (true, "76f687751acb78786b8d8ec7d51adad8279aeb83021b977ef45746870b30df48"), looks := false }, kinds := [], alts := [], laidByText := true, laidKinds := [.data, .data, .data, .data], laidTests := true, laidLooks := .later }
def AmountShrinksCardSaid : Prop := Claim7.holds Tryd.pinned (.plain (OpenSpec.ofChange amountShrinksSpec)) amountShrinksCard

/-- THE TIED CARD OF 'clusterlockslaw04.AmountRoom'. -/
def amountRoomCard : Claim7 := { stood := { row := amountRoomRow, standIns := [], harness := (true, "76f687751acb78786b8d8ec7d51adad8279aeb83021b977ef45746870b30df48"), looks := false }, kinds := [], alts := [], laidByText := true, laidKinds := [.data, .data, .data, .data], laidTests := true, laidLooks := .later }
def AmountRoomCardSaid : Prop := Claim7.holds Tryd.pinned (.plain (OpenSpec.ofChange amountRoomSpec)) amountRoomCard

/-- THE SECOND FORM's CARD OF 'clusterlockslaw04.AmountFits'. -/
def amountFitsUptoCard : Claim7 := { stood := { row := amountFitsUptoRow, standIns := [], harness := (true, "76f687751acb78786b8d8ec7d51adad8279aeb83021b977ef45746870b30df48"), looks := false }, kinds := [], alts := [], laidByText := true, laidKinds := [.data, .data, .data, .data], laidTests := true, laidLooks := .later }
def AmountFitsUptoCardSaid : Prop := Claim7.holds Tryd.pinned (.plain (OpenSpec.upto amountFitsSpec)) amountFitsUptoCard

/-- THE SECOND FORM's CARD OF 'clusterlockslaw04.AmountTurns'. -/
def amountTurnsUptoCard : Claim7 := { stood := { row := amountTurnsUptoRow, standIns := [], harness := (true, "76f687751acb78786b8d8ec7d51adad8279aeb83021b977ef45746870b30df48"), looks := false }, kinds := [], alts := [], laidByText := true, laidKinds := [.data, .data, .data, .data], laidTests := true, laidLooks := .later }
def AmountTurnsUptoCardSaid : Prop := Claim7.holds Tryd.pinned (.plain (OpenSpec.upto amountTurnsSpec)) amountTurnsUptoCard

/-- THE SECOND FORM's CARD OF 'clusterlockslaw04.AmountTexts'. -/
def amountTextsUptoCard : Claim7 := { stood := { row := amountTextsUptoRow, standIns := [], harness := (true, "76f687751acb78786b8d8ec7d51adad8279aeb83021b977ef45746870b30df48"), looks := false }, kinds := [], alts := [], laidByText := true, laidKinds := [.data, .data, .data, .data], laidTests := true, laidLooks := .later }
def AmountTextsUptoCardSaid : Prop := Claim7.holds Tryd.pinned (.plain (OpenSpec.upto amountTextsSpec)) amountTextsUptoCard

/-- THE SECOND FORM's CARD OF 'clusterlockslaw04.AmountJoins'. -/
def amountJoinsUptoCard : Claim7 := { stood := { row := amountJoinsUptoRow, standIns := [], harness := (true, "76f687751acb78786b8d8ec7d51adad8279aeb83021b977ef45746870b30df48"), looks := false }, kinds := [], alts := [], laidByText := true, laidKinds := [.data, .data, .data, .data], laidTests := true, laidLooks := .later }
def AmountJoinsUptoCardSaid : Prop := Claim7.holds Tryd.pinned (.plain (OpenSpec.upto amountJoinsSpec)) amountJoinsUptoCard

/-- THE SECOND FORM's CARD OF 'clusterlockslaw04.AmountCompatible'. -/
def amountCompatibleUptoCard : Claim7 := { stood := { row := amountCompatibleUptoRow, standIns := [], harness := (true, "76f687751acb78786b8d8ec7d51adad8279aeb83021b977ef45746870b30df48"), looks := false }, kinds := [], alts := [], laidByText := true, laidKinds := [.data, .data, .data, .data], laidTests := true, laidLooks := .later }
def AmountCompatibleUptoCardSaid : Prop := Claim7.holds Tryd.pinned (.plain (OpenSpec.upto amountCompatibleSpec)) amountCompatibleUptoCard

/-- THE SECOND FORM's CARD OF 'clusterlockslaw04.AmountCovers'. -/
def amountCoversUptoCard : Claim7 := { stood := { row := amountCoversUptoRow, standIns := [], harness := (true, "76f687751acb78786b8d8ec7d51adad8279aeb83021b977ef45746870b30df48"), looks := false }, kinds := [], alts := [], laidByText := true, laidKinds := [.data, .data, .data, .data], laidTests := true, laidLooks := .later }
def AmountCoversUptoCardSaid : Prop := Claim7.holds Tryd.pinned (.plain (OpenSpec.upto amountCoversSpec)) amountCoversUptoCard

/-- THE SECOND FORM's CARD OF 'clusterlockslaw04.AmountLattice'. -/
def amountLatticeUptoCard : Claim7 := { stood := { row := amountLatticeUptoRow, standIns := [], harness := (true, "76f687751acb78786b8d8ec7d51adad8279aeb83021b977ef45746870b30df48"), looks := false }, kinds := [], alts := [], laidByText := true, laidKinds := [.data, .data, .data, .data], laidTests := true, laidLooks := .later }
def AmountLatticeUptoCardSaid : Prop := Claim7.holds Tryd.pinned (.plain (OpenSpec.upto amountLatticeSpec)) amountLatticeUptoCard

/-- THE SECOND FORM's CARD OF 'clusterlockslaw04.AmountShrinks'. -/
def amountShrinksUptoCard : Claim7 := { stood := { row := amountShrinksUptoRow, standIns := [], harness := (true, "76f687751acb78786b8d8ec7d51adad8279aeb83021b977ef45746870b30df48"), looks := false }, kinds := [], alts := [], laidByText := true, laidKinds := [.data, .data, .data, .data], laidTests := true, laidLooks := .later }
def AmountShrinksUptoCardSaid : Prop := Claim7.holds Tryd.pinned (.plain (OpenSpec.upto amountShrinksSpec)) amountShrinksUptoCard

/-- THE SECOND FORM's CARD OF 'clusterlockslaw04.AmountRoom'. -/
def amountRoomUptoCard : Claim7 := { stood := { row := amountRoomUptoRow, standIns := [], harness := (true, "76f687751acb78786b8d8ec7d51adad8279aeb83021b977ef45746870b30df48"), looks := false }, kinds := [], alts := [], laidByText := true, laidKinds := [.data, .data, .data, .data], laidTests := true, laidLooks := .later }
def AmountRoomUptoCardSaid : Prop := Claim7.holds Tryd.pinned (.plain (OpenSpec.upto amountRoomSpec)) amountRoomUptoCard
end Rows
end Go.Proofs.YtghhmooknjoblaaDoor
