/-
  DERIVED. GIVEN WITH THE SEED: THE CARDS: each row of YtalklmeejdmifaaGreatDoorRows.lean that lists a variable, with what it lists TIED to the program's text (the seventh form; the later family's looks); each row that meets fmt, with fmt's text TOLD by the authors' own Lean function (tested against real Go, not proved from fmt's source: count such statements apart). THE CARD IS WHAT COUNTS. Prove the row's statement (the work); the ties are given (YtalklmeejdmifaaGreatDoorTie.lean); close each card by the builder's one call (the guide's Derived/Test/ToyasCard.lean, 'card_holds'). Laid BY PROGRAM, IN A SANDBOX (cutbox-door.mjs). By AI agents, Wed Nov 11 2026. No macro, syntax, notation, axiom, sorry.
-/
import Derived.Test.YtalklmeejdmifaaGreatDoorRows
import GoSem.ClaimSeven
namespace Go.Proofs.YtalklmeejdmifaaGreatDoor
namespace Rows

/-- THE TIED CARD OF 'amanuensislaw2.TreePrints'. -/
def treePrintsCard : Claim7 := { stood := { row := treePrintsRow, standIns := [], harness := (true, "740fa6e5fac969b94efa6ceeca4c974f3ce62ea9f6ac36cefb37cca7b023e98f"), looks := true }, kinds := [], alts := [], laidByText := true, laidKinds := [.data, .data, .data, .data, .sentinel, .sentinel, .widerDeep, .pinned], laidTests := true, laidLooks := .later }
def TreePrintsCardSaid : Prop := Claim7.holds Tryz.pinned (.plain (OpenSpec.ofChange treePrintsSpec)) treePrintsCard

/-- THE TIED CARD OF 'amanuensislaw2.TreeNotes'. -/
def treeNotesCard : Claim7 := { stood := { row := treeNotesRow, standIns := [], harness := (true, "740fa6e5fac969b94efa6ceeca4c974f3ce62ea9f6ac36cefb37cca7b023e98f"), looks := true }, kinds := [], alts := [], laidByText := true, laidKinds := [.data, .data, .data, .data, .sentinel, .sentinel, .widerDeep, .pinned], laidTests := true, laidLooks := .later }
def TreeNotesCardSaid : Prop := Claim7.holds Tryz.pinned (.plain (OpenSpec.ofChange treeNotesSpec)) treeNotesCard

/-- THE TIED CARD OF 'amanuensislaw2.TreeAgain'. -/
def treeAgainCard : Claim7 := { stood := { row := treeAgainRow, standIns := [], harness := (true, "740fa6e5fac969b94efa6ceeca4c974f3ce62ea9f6ac36cefb37cca7b023e98f"), looks := true }, kinds := [], alts := [], laidByText := true, laidKinds := [.data, .data, .data, .data, .handle, .sentinel, .sentinel, .widerDeep, .pinned], laidTests := true, laidLooks := .later }
def TreeAgainCardSaid : Prop := Claim7.holds Tryz.pinned (.plain (OpenSpec.ofChange treeAgainSpec)) treeAgainCard

/-- THE TIED CARD OF 'amanuensislaw3.ScopeStands'. -/
def scopeStandsCard : Claim7 := { stood := { row := scopeStandsRow, standIns := [], harness := (true, "740fa6e5fac969b94efa6ceeca4c974f3ce62ea9f6ac36cefb37cca7b023e98f"), looks := true }, kinds := [], alts := [], laidByText := true, laidKinds := [.data, .data, .data, .data, .sentinel, .sentinel, .widerDeep, .pinned], laidTests := true, laidLooks := .later }
def ScopeStandsCardSaid : Prop := Claim7.holds Tryz.pinned (.plain (OpenSpec.ofChange scopeStandsSpec)) scopeStandsCard

/-- THE TIED CARD OF 'amanuensislaw3.ScopeResolves'. -/
def scopeResolvesCard : Claim7 := { stood := { row := scopeResolvesRow, standIns := [], harness := (true, "740fa6e5fac969b94efa6ceeca4c974f3ce62ea9f6ac36cefb37cca7b023e98f"), looks := true }, kinds := [], alts := [], laidByText := true, laidKinds := [.data, .data, .data, .data, .handle, .sentinel, .sentinel, .widerDeep, .pinned], laidTests := true, laidLooks := .later }
def ScopeResolvesCardSaid : Prop := Claim7.holds Tryz.pinned (.plain (OpenSpec.ofChange scopeResolvesSpec)) scopeResolvesCard

/-- THE TIED CARD OF 'amanuensislaw6.LayAgain'. -/
def layAgainCard : Claim7 := { stood := { row := layAgainRow, standIns := [], harness := (true, "740fa6e5fac969b94efa6ceeca4c974f3ce62ea9f6ac36cefb37cca7b023e98f"), looks := true }, kinds := [], alts := [], laidByText := true, laidKinds := [.data, .data, .data, .data, .sentinel, .sentinel, .widerDeep, .pinned], laidTests := true, laidLooks := .later }
def LayAgainCardSaid : Prop := Claim7.holds Tryz.pinned (.plain (OpenSpec.ofChange layAgainSpec)) layAgainCard

/-- THE TIED CARD OF 'amanuensislaw6.LayKeeps'. -/
def layKeepsCard : Claim7 := { stood := { row := layKeepsRow, standIns := [], harness := (true, "740fa6e5fac969b94efa6ceeca4c974f3ce62ea9f6ac36cefb37cca7b023e98f"), looks := true }, kinds := [], alts := [], laidByText := true, laidKinds := [.data, .data, .data, .data, .sentinel, .sentinel, .widerDeep, .pinned], laidTests := true, laidLooks := .later }
def LayKeepsCardSaid : Prop := Claim7.holds Tryz.pinned (.plain (OpenSpec.ofChange layKeepsSpec)) layKeepsCard

/-- THE TIED CARD OF 'amanuensislaw6.LayLays'. -/
def layLaysCard : Claim7 := { stood := { row := layLaysRow, standIns := [], harness := (true, "740fa6e5fac969b94efa6ceeca4c974f3ce62ea9f6ac36cefb37cca7b023e98f"), looks := true }, kinds := [], alts := [], laidByText := true, laidKinds := [.data, .data, .data, .data, .handle, .sentinel, .sentinel, .widerDeep, .pinned], laidTests := true, laidLooks := .later }
def LayLaysCardSaid : Prop := Claim7.holds Tryz.pinned (.plain (OpenSpec.ofChange layLaysSpec)) layLaysCard

/-- THE SECOND FORM's CARD OF 'amanuensislaw2.TreePrints'. -/
def treePrintsUptoCard : Claim7 := { stood := { row := treePrintsUptoRow, standIns := [], harness := (true, "740fa6e5fac969b94efa6ceeca4c974f3ce62ea9f6ac36cefb37cca7b023e98f"), looks := true }, kinds := [], alts := [], laidByText := true, laidKinds := [.data, .data, .data, .data, .sentinel, .sentinel, .widerDeep, .pinned], laidTests := true, laidLooks := .later }
def TreePrintsUptoCardSaid : Prop := Claim7.holds Tryz.pinned (.plain (OpenSpec.upto treePrintsSpec)) treePrintsUptoCard

/-- THE SECOND FORM's CARD OF 'amanuensislaw2.TreeNotes'. -/
def treeNotesUptoCard : Claim7 := { stood := { row := treeNotesUptoRow, standIns := [], harness := (true, "740fa6e5fac969b94efa6ceeca4c974f3ce62ea9f6ac36cefb37cca7b023e98f"), looks := true }, kinds := [], alts := [], laidByText := true, laidKinds := [.data, .data, .data, .data, .sentinel, .sentinel, .widerDeep, .pinned], laidTests := true, laidLooks := .later }
def TreeNotesUptoCardSaid : Prop := Claim7.holds Tryz.pinned (.plain (OpenSpec.upto treeNotesSpec)) treeNotesUptoCard

/-- THE SECOND FORM's CARD OF 'amanuensislaw2.TreeAgain'. -/
def treeAgainUptoCard : Claim7 := { stood := { row := treeAgainUptoRow, standIns := [], harness := (true, "740fa6e5fac969b94efa6ceeca4c974f3ce62ea9f6ac36cefb37cca7b023e98f"), looks := true }, kinds := [], alts := [], laidByText := true, laidKinds := [.data, .data, .data, .data, .handle, .sentinel, .sentinel, .widerDeep, .pinned], laidTests := true, laidLooks := .later }
def TreeAgainUptoCardSaid : Prop := Claim7.holds Tryz.pinned (.plain (OpenSpec.upto treeAgainSpec)) treeAgainUptoCard

/-- THE SECOND FORM's CARD OF 'amanuensislaw3.ScopeStands'. -/
def scopeStandsUptoCard : Claim7 := { stood := { row := scopeStandsUptoRow, standIns := [], harness := (true, "740fa6e5fac969b94efa6ceeca4c974f3ce62ea9f6ac36cefb37cca7b023e98f"), looks := true }, kinds := [], alts := [], laidByText := true, laidKinds := [.data, .data, .data, .data, .sentinel, .sentinel, .widerDeep, .pinned], laidTests := true, laidLooks := .later }
def ScopeStandsUptoCardSaid : Prop := Claim7.holds Tryz.pinned (.plain (OpenSpec.upto scopeStandsSpec)) scopeStandsUptoCard

/-- THE SECOND FORM's CARD OF 'amanuensislaw3.ScopeResolves'. -/
def scopeResolvesUptoCard : Claim7 := { stood := { row := scopeResolvesUptoRow, standIns := [], harness := (true, "740fa6e5fac969b94efa6ceeca4c974f3ce62ea9f6ac36cefb37cca7b023e98f"), looks := true }, kinds := [], alts := [], laidByText := true, laidKinds := [.data, .data, .data, .data, .handle, .sentinel, .sentinel, .widerDeep, .pinned], laidTests := true, laidLooks := .later }
def ScopeResolvesUptoCardSaid : Prop := Claim7.holds Tryz.pinned (.plain (OpenSpec.upto scopeResolvesSpec)) scopeResolvesUptoCard

/-- THE SECOND FORM's CARD OF 'amanuensislaw6.LayAgain'. -/
def layAgainUptoCard : Claim7 := { stood := { row := layAgainUptoRow, standIns := [], harness := (true, "740fa6e5fac969b94efa6ceeca4c974f3ce62ea9f6ac36cefb37cca7b023e98f"), looks := true }, kinds := [], alts := [], laidByText := true, laidKinds := [.data, .data, .data, .data, .sentinel, .sentinel, .widerDeep, .pinned], laidTests := true, laidLooks := .later }
def LayAgainUptoCardSaid : Prop := Claim7.holds Tryz.pinned (.plain (OpenSpec.upto layAgainSpec)) layAgainUptoCard

/-- THE SECOND FORM's CARD OF 'amanuensislaw6.LayKeeps'. -/
def layKeepsUptoCard : Claim7 := { stood := { row := layKeepsUptoRow, standIns := [], harness := (true, "740fa6e5fac969b94efa6ceeca4c974f3ce62ea9f6ac36cefb37cca7b023e98f"), looks := true }, kinds := [], alts := [], laidByText := true, laidKinds := [.data, .data, .data, .data, .sentinel, .sentinel, .widerDeep, .pinned], laidTests := true, laidLooks := .later }
def LayKeepsUptoCardSaid : Prop := Claim7.holds Tryz.pinned (.plain (OpenSpec.upto layKeepsSpec)) layKeepsUptoCard

/-- THE SECOND FORM's CARD OF 'amanuensislaw6.LayLays'. -/
def layLaysUptoCard : Claim7 := { stood := { row := layLaysUptoRow, standIns := [], harness := (true, "740fa6e5fac969b94efa6ceeca4c974f3ce62ea9f6ac36cefb37cca7b023e98f"), looks := true }, kinds := [], alts := [], laidByText := true, laidKinds := [.data, .data, .data, .data, .handle, .sentinel, .sentinel, .widerDeep, .pinned], laidTests := true, laidLooks := .later }
def LayLaysUptoCardSaid : Prop := Claim7.holds Tryz.pinned (.plain (OpenSpec.upto layLaysSpec)) layLaysUptoCard
end Rows
end Go.Proofs.YtalklmeejdmifaaGreatDoor
