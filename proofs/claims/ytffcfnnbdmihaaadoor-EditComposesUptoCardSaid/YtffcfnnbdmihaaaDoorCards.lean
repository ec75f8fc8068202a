/-
  DERIVED. GIVEN WITH THE SEED: THE CARDS: each row of YtffcfnnbdmihaaaDoorRows.lean that lists a variable, with what it lists TIED to the program's text (the seventh form; the later family's looks); each row that meets fmt, with fmt's text TOLD by the authors' own Lean function (tested against real Go, not proved from fmt's source: count such statements apart). THE CARD IS WHAT COUNTS. Prove the row's statement (the work); the ties are given (YtffcfnnbdmihaaaDoorTie.lean); close each card by the builder's one call (the guide's Derived/Test/ToyasCard.lean, 'card_holds'). Laid BY PROGRAM, IN A SANDBOX (cutbox-door.mjs). By AI agents, Wed Nov 11 2026. No macro, syntax, notation, axiom, sorry.
-/
import Derived.Test.YtffcfnnbdmihaaaDoorRows
import GoSem.ClaimSeven
namespace Go.Proofs.YtffcfnnbdmihaaaDoor
namespace Rows

/-- THE TIED CARD OF 'amanuensislaw1.RopeBack'. -/
def ropeBackCard : Claim7 := { stood := { row := ropeBackRow, standIns := [], harness := (true, "24f211b4c74b474832dc78968e18854b895c1d1463ba2c24cf70cd53802364c5"), looks := true }, kinds := [], alts := [], laidByText := true, laidKinds := [.data, .pinned], laidTests := true, laidLooks := .later }
def RopeBackCardSaid : Prop := Claim7.holds Tryd.pinned (.plain (OpenSpec.ofChange ropeBackSpec)) ropeBackCard

/-- THE TIED CARD OF 'amanuensislaw1.RopePlaces'. -/
def ropePlacesCard : Claim7 := { stood := { row := ropePlacesRow, standIns := [], harness := (true, "24f211b4c74b474832dc78968e18854b895c1d1463ba2c24cf70cd53802364c5"), looks := true }, kinds := [], alts := [], laidByText := true, laidKinds := [.data, .pinned], laidTests := true, laidLooks := .later }
def RopePlacesCardSaid : Prop := Claim7.holds Tryd.pinned (.plain (OpenSpec.ofChange ropePlacesSpec)) ropePlacesCard

/-- THE TIED CARD OF 'amanuensislaw1.EditInverts'. -/
def editInvertsCard : Claim7 := { stood := { row := editInvertsRow, standIns := [], harness := (true, "24f211b4c74b474832dc78968e18854b895c1d1463ba2c24cf70cd53802364c5"), looks := true }, kinds := [], alts := [], laidByText := true, laidKinds := [.handle], laidTests := true, laidLooks := .later }
def EditInvertsCardSaid : Prop := Claim7.holds Tryd.pinned (.plain (OpenSpec.ofChange editInvertsSpec)) editInvertsCard

/-- THE TIED CARD OF 'amanuensislaw1.RopeHolds'. -/
def ropeHoldsCard : Claim7 := { stood := { row := ropeHoldsRow, standIns := [], harness := (true, "24f211b4c74b474832dc78968e18854b895c1d1463ba2c24cf70cd53802364c5"), looks := true }, kinds := [], alts := [], laidByText := true, laidKinds := [.handle], laidTests := true, laidLooks := .later }
def RopeHoldsCardSaid : Prop := Claim7.holds Tryd.pinned (.plain (OpenSpec.ofChange ropeHoldsSpec)) ropeHoldsCard

/-- THE TIED CARD OF 'amanuensislaw1.EditApplies'. -/
def editAppliesCard : Claim7 := { stood := { row := editAppliesRow, standIns := [], harness := (true, "24f211b4c74b474832dc78968e18854b895c1d1463ba2c24cf70cd53802364c5"), looks := true }, kinds := [], alts := [], laidByText := true, laidKinds := [.handle], laidTests := true, laidLooks := .later }
def EditAppliesCardSaid : Prop := Claim7.holds Tryd.pinned (.plain (OpenSpec.ofChange editAppliesSpec)) editAppliesCard

/-- THE TIED CARD OF 'amanuensislaw1.EditMerges'. -/
def editMergesCard : Claim7 := { stood := { row := editMergesRow, standIns := [], harness := (true, "24f211b4c74b474832dc78968e18854b895c1d1463ba2c24cf70cd53802364c5"), looks := true }, kinds := [], alts := [], laidByText := true, laidKinds := [.handle], laidTests := true, laidLooks := .later }
def EditMergesCardSaid : Prop := Claim7.holds Tryd.pinned (.plain (OpenSpec.ofChange editMergesSpec)) editMergesCard

/-- THE TIED CARD OF 'amanuensislaw1.UndoPlays'. -/
def undoPlaysCard : Claim7 := { stood := { row := undoPlaysRow, standIns := [], harness := (true, "24f211b4c74b474832dc78968e18854b895c1d1463ba2c24cf70cd53802364c5"), looks := true }, kinds := [], alts := [], laidByText := true, laidKinds := [.handle], laidTests := true, laidLooks := .later }
def UndoPlaysCardSaid : Prop := Claim7.holds Tryd.pinned (.plain (OpenSpec.ofChange undoPlaysSpec)) undoPlaysCard

/-- THE TIED CARD OF 'amanuensislaw1.EditComposes'. -/
def editComposesCard : Claim7 := { stood := { row := editComposesRow, standIns := [], harness := (true, "24f211b4c74b474832dc78968e18854b895c1d1463ba2c24cf70cd53802364c5"), looks := true }, kinds := [], alts := [], laidByText := true, laidKinds := [.handle], laidTests := true, laidLooks := .later }
def EditComposesCardSaid : Prop := Claim7.holds Tryd.pinned (.plain (OpenSpec.ofChange editComposesSpec)) editComposesCard

/-- THE SECOND FORM's CARD OF 'amanuensislaw1.RopeBack'. -/
def ropeBackUptoCard : Claim7 := { stood := { row := ropeBackUptoRow, standIns := [], harness := (true, "24f211b4c74b474832dc78968e18854b895c1d1463ba2c24cf70cd53802364c5"), looks := true }, kinds := [], alts := [], laidByText := true, laidKinds := [.data, .pinned], laidTests := true, laidLooks := .later }
def RopeBackUptoCardSaid : Prop := Claim7.holds Tryd.pinned (.plain (OpenSpec.upto ropeBackSpec)) ropeBackUptoCard

/-- THE SECOND FORM's CARD OF 'amanuensislaw1.RopePlaces'. -/
def ropePlacesUptoCard : Claim7 := { stood := { row := ropePlacesUptoRow, standIns := [], harness := (true, "24f211b4c74b474832dc78968e18854b895c1d1463ba2c24cf70cd53802364c5"), looks := true }, kinds := [], alts := [], laidByText := true, laidKinds := [.data, .pinned], laidTests := true, laidLooks := .later }
def RopePlacesUptoCardSaid : Prop := Claim7.holds Tryd.pinned (.plain (OpenSpec.upto ropePlacesSpec)) ropePlacesUptoCard

/-- THE SECOND FORM's CARD OF 'amanuensislaw1.EditInverts'. -/
def editInvertsUptoCard : Claim7 := { stood := { row := editInvertsUptoRow, standIns := [], harness := (true, "24f211b4c74b474832dc78968e18854b895c1d1463ba2c24cf70cd53802364c5"), looks := true }, kinds := [], alts := [], laidByText := true, laidKinds := [.handle], laidTests := true, laidLooks := .later }
def EditInvertsUptoCardSaid : Prop := Claim7.holds Tryd.pinned (.plain (OpenSpec.upto editInvertsSpec)) editInvertsUptoCard

/-- THE SECOND FORM's CARD OF 'amanuensislaw1.RopeHolds'. -/
def ropeHoldsUptoCard : Claim7 := { stood := { row := ropeHoldsUptoRow, standIns := [], harness := (true, "24f211b4c74b474832dc78968e18854b895c1d1463ba2c24cf70cd53802364c5"), looks := true }, kinds := [], alts := [], laidByText := true, laidKinds := [.handle], laidTests := true, laidLooks := .later }
def RopeHoldsUptoCardSaid : Prop := Claim7.holds Tryd.pinned (.plain (OpenSpec.upto ropeHoldsSpec)) ropeHoldsUptoCard

/-- THE SECOND FORM's CARD OF 'amanuensislaw1.EditApplies'. -/
def editAppliesUptoCard : Claim7 := { stood := { row := editAppliesUptoRow, standIns := [], harness := (true, "24f211b4c74b474832dc78968e18854b895c1d1463ba2c24cf70cd53802364c5"), looks := true }, kinds := [], alts := [], laidByText := true, laidKinds := [.handle], laidTests := true, laidLooks := .later }
def EditAppliesUptoCardSaid : Prop := Claim7.holds Tryd.pinned (.plain (OpenSpec.upto editAppliesSpec)) editAppliesUptoCard

/-- THE SECOND FORM's CARD OF 'amanuensislaw1.EditMerges'. -/
def editMergesUptoCard : Claim7 := { stood := { row := editMergesUptoRow, standIns := [], harness := (true, "24f211b4c74b474832dc78968e18854b895c1d1463ba2c24cf70cd53802364c5"), looks := true }, kinds := [], alts := [], laidByText := true, laidKinds := [.handle], laidTests := true, laidLooks := .later }
def EditMergesUptoCardSaid : Prop := Claim7.holds Tryd.pinned (.plain (OpenSpec.upto editMergesSpec)) editMergesUptoCard

/-- THE SECOND FORM's CARD OF 'amanuensislaw1.UndoPlays'. -/
def undoPlaysUptoCard : Claim7 := { stood := { row := undoPlaysUptoRow, standIns := [], harness := (true, "24f211b4c74b474832dc78968e18854b895c1d1463ba2c24cf70cd53802364c5"), looks := true }, kinds := [], alts := [], laidByText := true, laidKinds := [.handle], laidTests := true, laidLooks := .later }
def UndoPlaysUptoCardSaid : Prop := Claim7.holds Tryd.pinned (.plain (OpenSpec.upto undoPlaysSpec)) undoPlaysUptoCard

/-- THE SECOND FORM's CARD OF 'amanuensislaw1.EditComposes'. -/
def editComposesUptoCard : Claim7 := { stood := { row := editComposesUptoRow, standIns := [], harness := (true, "24f211b4c74b474832dc78968e18854b895c1d1463ba2c24cf70cd53802364c5"), looks := true }, kinds := [], alts := [], laidByText := true, laidKinds := [.handle], laidTests := true, laidLooks := .later }
def EditComposesUptoCardSaid : Prop := Claim7.holds Tryd.pinned (.plain (OpenSpec.upto editComposesSpec)) editComposesUptoCard
end Rows
end Go.Proofs.YtffcfnnbdmihaaaDoor
