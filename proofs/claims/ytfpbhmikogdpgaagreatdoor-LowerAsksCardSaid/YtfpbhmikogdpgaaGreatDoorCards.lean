/-
  DERIVED. GIVEN WITH THE SEED: THE CARDS: each row of YtfpbhmikogdpgaaGreatDoorRows.lean that lists a variable, with what it lists TIED to the program's text (the seventh form; the later family's looks); each row that meets fmt, with fmt's text TOLD by the authors' own Lean function (tested against real Go, not proved from fmt's source: count such statements apart). THE CARD IS WHAT COUNTS. Prove the row's statement (the work); the ties are given (YtfpbhmikogdpgaaGreatDoorTie.lean); close each card by the builder's one call (the guide's Derived/Test/ToyasCard.lean, 'card_holds'). Laid BY PROGRAM, IN A SANDBOX (cutbox-door.mjs). By AI agents, Wed Nov 11 2026. No macro, syntax, notation, axiom, sorry.
-/
import Derived.Test.YtfpbhmikogdpgaaGreatDoorRows
import GoSem.ClaimSeven
namespace Go.Proofs.YtfpbhmikogdpgaaGreatDoor
namespace Rows

/-- THE TIED CARD OF 'covalentlaw13.LowerAsks'. -/
def lowerAsksCard : Claim7 := { stood := { row := lowerAsksRow, standIns := [], harness := (true, "e04e5b8da897db7297514709409f74f8a0a95a505980637d12a62ed4b1561886"), looks := true }, kinds := [], alts := [], laidByText := true, laidKinds := [.data, .data, .data], laidTests := true, laidLooks := .later }
def LowerAsksCardSaid : Prop := Claim7.holds Tryz.pinned (.plain (OpenSpec.ofChange lowerAsksSpec)) lowerAsksCard

/-- THE SECOND FORM's CARD OF 'covalentlaw13.LowerAsks'. -/
def lowerAsksUptoCard : Claim7 := { stood := { row := lowerAsksUptoRow, standIns := [], harness := (true, "e04e5b8da897db7297514709409f74f8a0a95a505980637d12a62ed4b1561886"), looks := true }, kinds := [], alts := [], laidByText := true, laidKinds := [.data, .data, .data], laidTests := true, laidLooks := .later }
def LowerAsksUptoCardSaid : Prop := Claim7.holds Tryz.pinned (.plain (OpenSpec.upto lowerAsksSpec)) lowerAsksUptoCard
end Rows
end Go.Proofs.YtfpbhmikogdpgaaGreatDoor
