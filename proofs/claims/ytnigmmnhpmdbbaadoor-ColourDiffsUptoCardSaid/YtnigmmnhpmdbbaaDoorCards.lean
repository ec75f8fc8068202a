/-
  DERIVED. GIVEN WITH THE SEED: THE CARDS: each row of YtnigmmnhpmdbbaaDoorRows.lean that lists a variable, with what it lists TIED to the program's text (the seventh form; the later family's looks); each row that meets fmt, with fmt's text TOLD by the authors' own Lean function (tested against real Go, not proved from fmt's source: count such statements apart). THE CARD IS WHAT COUNTS. Prove the row's statement (the work); the ties are given (YtnigmmnhpmdbbaaDoorTie.lean); close each card by the builder's one call (the guide's Derived/Test/ToyasCard.lean, 'card_holds'). Laid BY PROGRAM, IN A SANDBOX (cutbox-door.mjs). By AI agents, Wed Nov 11 2026. No macro, syntax, notation, axiom, sorry.
-/
import Derived.Test.YtnigmmnhpmdbbaaDoorRows
import GoSem.ClaimSeven
namespace Go.Proofs.YtnigmmnhpmdbbaaDoor
namespace Rows

/-- THE TIED CARD OF 'amanuensislaw6.ColourDiffs'. -/
def colourDiffsCard : Claim7 := { stood := { row := colourDiffsRow, standIns := [], harness := (true, "4c17614a8318ae66c671c4657832d8d8ef902c9cce0ac6ea91ee8926c0bf6ec3"), looks := true }, kinds := [], alts := [], laidByText := true, laidKinds := [.handle], laidTests := true, laidLooks := .later }
def ColourDiffsCardSaid : Prop := Claim7.holds Tryd.pinned (.plain (OpenSpec.ofChange colourDiffsSpec)) colourDiffsCard

/-- THE SECOND FORM's CARD OF 'amanuensislaw6.ColourDiffs'. -/
def colourDiffsUptoCard : Claim7 := { stood := { row := colourDiffsUptoRow, standIns := [], harness := (true, "4c17614a8318ae66c671c4657832d8d8ef902c9cce0ac6ea91ee8926c0bf6ec3"), looks := true }, kinds := [], alts := [], laidByText := true, laidKinds := [.handle], laidTests := true, laidLooks := .later }
def ColourDiffsUptoCardSaid : Prop := Claim7.holds Tryd.pinned (.plain (OpenSpec.upto colourDiffsSpec)) colourDiffsUptoCard
end Rows
end Go.Proofs.YtnigmmnhpmdbbaaDoor
