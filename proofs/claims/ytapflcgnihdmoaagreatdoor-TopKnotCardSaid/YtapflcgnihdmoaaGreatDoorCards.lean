/-
  DERIVED. GIVEN WITH THE SEED: THE CARDS: each row of YtapflcgnihdmoaaGreatDoorRows.lean that lists a variable, with what it lists TIED to the program's text (the seventh form; the later family's looks); each row that meets fmt, with fmt's text TOLD by the authors' own Lean function (tested against real Go, not proved from fmt's source: count such statements apart). THE CARD IS WHAT COUNTS. Prove the row's statement (the work); the ties are given (YtapflcgnihdmoaaGreatDoorTie.lean); close each card by the builder's one call (the guide's Derived/Test/ToyasCard.lean, 'card_holds'). Laid BY PROGRAM, IN A SANDBOX (cutbox-door.mjs). By AI agents, Wed Nov 11 2026. No macro, syntax, notation, axiom, sorry.
-/
import Derived.Test.YtapflcgnihdmoaaGreatDoorRows
import GoSem.ClaimSeven
namespace Go.Proofs.YtapflcgnihdmoaaGreatDoor
namespace Rows

/-- THE TIED CARD OF 'clusterlockstop.TopBankers'. -/
def topBankersCard : Claim7 := { stood := { row := topBankersRow, standIns := [], harness := (true, "9f424553b5fc99b18d6f807af19f80db4cb2d5d72ff0c5cab078773d0691469f"), looks := true }, kinds := [], alts := [], laidByText := true, laidKinds := [.data, .data], laidTests := true, laidLooks := .later }
def TopBankersCardSaid : Prop := Claim7.holds Tryz.pinned (.plain (OpenSpec.ofChange topBankersSpec)) topBankersCard

/-- THE TIED CARD OF 'clusterlockstop.TopKnot'. -/
def topKnotCard : Claim7 := { stood := { row := topKnotRow, standIns := [], harness := (true, "9f424553b5fc99b18d6f807af19f80db4cb2d5d72ff0c5cab078773d0691469f"), looks := true }, kinds := [], alts := [], laidByText := true, laidKinds := [.data, .data], laidTests := true, laidLooks := .later }
def TopKnotCardSaid : Prop := Claim7.holds Tryz.pinned (.plain (OpenSpec.ofChange topKnotSpec)) topKnotCard

/-- THE SECOND FORM's CARD OF 'clusterlockstop.TopBankers'. -/
def topBankersUptoCard : Claim7 := { stood := { row := topBankersUptoRow, standIns := [], harness := (true, "9f424553b5fc99b18d6f807af19f80db4cb2d5d72ff0c5cab078773d0691469f"), looks := true }, kinds := [], alts := [], laidByText := true, laidKinds := [.data, .data], laidTests := true, laidLooks := .later }
def TopBankersUptoCardSaid : Prop := Claim7.holds Tryz.pinned (.plain (OpenSpec.upto topBankersSpec)) topBankersUptoCard

/-- THE SECOND FORM's CARD OF 'clusterlockstop.TopKnot'. -/
def topKnotUptoCard : Claim7 := { stood := { row := topKnotUptoRow, standIns := [], harness := (true, "9f424553b5fc99b18d6f807af19f80db4cb2d5d72ff0c5cab078773d0691469f"), looks := true }, kinds := [], alts := [], laidByText := true, laidKinds := [.data, .data], laidTests := true, laidLooks := .later }
def TopKnotUptoCardSaid : Prop := Claim7.holds Tryz.pinned (.plain (OpenSpec.upto topKnotSpec)) topKnotUptoCard
end Rows
end Go.Proofs.YtapflcgnihdmoaaGreatDoor
