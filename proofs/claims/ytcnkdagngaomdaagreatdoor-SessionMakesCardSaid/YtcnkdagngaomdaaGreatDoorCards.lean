/-
  DERIVED. GIVEN WITH THE SEED: THE CARDS: each row of YtcnkdagngaomdaaGreatDoorRows.lean that lists a variable, with what it lists TIED to the program's text (the seventh form; the later family's looks); each row that meets fmt, with fmt's text TOLD by the authors' own Lean function (tested against real Go, not proved from fmt's source: count such statements apart). THE CARD IS WHAT COUNTS. Prove the row's statement (the work); the ties are given (YtcnkdagngaomdaaGreatDoorTie.lean); close each card by the builder's one call (the guide's Derived/Test/ToyasCard.lean, 'card_holds'). Laid BY PROGRAM, IN A SANDBOX (cutbox-door.mjs). By AI agents, Wed Nov 11 2026. No macro, syntax, notation, axiom, sorry.
-/
import Derived.Test.YtcnkdagngaomdaaGreatDoorRows
import GoSem.ClaimSeven
namespace Go.Proofs.YtcnkdagngaomdaaGreatDoor
namespace Rows

/-- THE TIED CARD OF 'tripwirelaw26.SessionMakes'. -/
def sessionMakesCard : Claim7 := { stood := { row := sessionMakesRow, standIns := [], harness := (true, "a56f7bfccdcd7c82c683b1134c4b34576323f03f87c57c21f930468430557437"), looks := true }, kinds := [], alts := [], laidByText := true, laidKinds := [.sentinel, .sentinel, .data, .data, .data, .pinned, .data], laidTests := true, laidLooks := .later }
def SessionMakesCardSaid : Prop := Claim7.holds Tryz.pinned (.plain (OpenSpec.ofChange sessionMakesSpec)) sessionMakesCard

/-- THE SECOND FORM's CARD OF 'tripwirelaw26.SessionMakes'. -/
def sessionMakesUptoCard : Claim7 := { stood := { row := sessionMakesUptoRow, standIns := [], harness := (true, "a56f7bfccdcd7c82c683b1134c4b34576323f03f87c57c21f930468430557437"), looks := true }, kinds := [], alts := [], laidByText := true, laidKinds := [.sentinel, .sentinel, .data, .data, .data, .pinned, .data], laidTests := true, laidLooks := .later }
def SessionMakesUptoCardSaid : Prop := Claim7.holds Tryz.pinned (.plain (OpenSpec.upto sessionMakesSpec)) sessionMakesUptoCard
end Rows
end Go.Proofs.YtcnkdagngaomdaaGreatDoor
