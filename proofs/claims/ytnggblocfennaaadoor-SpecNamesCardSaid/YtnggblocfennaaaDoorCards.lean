/-
  DERIVED. GIVEN WITH THE SEED: THE CARDS: each row of YtnggblocfennaaaDoorRows.lean that lists a variable, with what it lists TIED to the program's text (the seventh form; the later family's looks); each row that meets fmt, with fmt's text TOLD by the authors' own Lean function (tested against real Go, not proved from fmt's source: count such statements apart). THE CARD IS WHAT COUNTS. Prove the row's statement (the work); the ties are given (YtnggblocfennaaaDoorTie.lean); close each card by the builder's one call (the guide's Derived/Test/ToyasCard.lean, 'card_holds'). Laid BY PROGRAM, IN A SANDBOX (cutbox-door.mjs). By AI agents, Wed Nov 11 2026. No macro, syntax, notation, axiom, sorry.
-/
import Derived.Test.YtnggblocfennaaaDoorRows
import GoSem.ClaimSeven
namespace Go.Proofs.YtnggblocfennaaaDoor
namespace Rows

/-- THE TIED CARD OF 'covalentlaw18.SpecNames'. -/
def specNamesCard : Claim7 := { stood := { row := specNamesRow, standIns := [], harness := (true, "9a8ab4b07463f85ffdd002a6a34b19a652b1bd8a2698895d1f64c759563fc3df"), looks := false }, kinds := [], alts := [], laidByText := true, laidKinds := [.data, .data, .data], laidTests := true, laidLooks := .later }
def SpecNamesCardSaid : Prop := Claim7.holds Tryd.pinned (.plain (OpenSpec.ofChange specNamesSpec)) specNamesCard

/-- THE SECOND FORM's CARD OF 'covalentlaw18.SpecNames'. -/
def specNamesUptoCard : Claim7 := { stood := { row := specNamesUptoRow, standIns := [], harness := (true, "9a8ab4b07463f85ffdd002a6a34b19a652b1bd8a2698895d1f64c759563fc3df"), looks := false }, kinds := [], alts := [], laidByText := true, laidKinds := [.data, .data, .data], laidTests := true, laidLooks := .later }
def SpecNamesUptoCardSaid : Prop := Claim7.holds Tryd.pinned (.plain (OpenSpec.upto specNamesSpec)) specNamesUptoCard
end Rows
end Go.Proofs.YtnggblocfennaaaDoor
