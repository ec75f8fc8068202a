/-
  DERIVED. GIVEN WITH THE SEED: THE CARDS: each row of YtcjjfeephaddcaaGreatDoorRows.lean that lists a variable, with what it lists TIED to the program's text (the seventh form; the later family's looks); each row that meets fmt, with fmt's text TOLD by the authors' own Lean function (tested against real Go, not proved from fmt's source: count such statements apart). THE CARD IS WHAT COUNTS. Prove the row's statement (the work); the ties are given (YtcjjfeephaddcaaGreatDoorTie.lean); close each card by the builder's one call (the guide's Derived/Test/ToyasCard.lean, 'card_holds'). Laid BY PROGRAM, IN A SANDBOX (cutbox-door.mjs). By AI agents, Wed Nov 11 2026. No macro, syntax, notation, axiom, sorry.
-/
import Derived.Test.YtcjjfeephaddcaaGreatDoorRows
import GoSem.ClaimSeven
namespace Go.Proofs.YtcjjfeephaddcaaGreatDoor
namespace Rows

/-- THE TIED CARD OF 'amanuensislaw3.ScopeStands'. -/
def scopeStandsCard : Claim7 := { stood := { row := scopeStandsRow, standIns := [], harness := (true, "2d6e0aed6fe48a70e1bf8caa0c07a74934a2c1d49d845827f03df535ddfdbc00"), looks := true }, kinds := [], alts := [], laidByText := true, laidKinds := [.data, .data, .data, .data, .sentinel, .sentinel, .widerDeep, .pinned], laidTests := true, laidLooks := .later }
def ScopeStandsCardSaid : Prop := Claim7.holds Tryz.pinned (.plain (OpenSpec.ofChange scopeStandsSpec)) scopeStandsCard

/-- THE TIED CARD OF 'amanuensislaw3.ScopeResolves'. -/
def scopeResolvesCard : Claim7 := { stood := { row := scopeResolvesRow, standIns := [], harness := (true, "2d6e0aed6fe48a70e1bf8caa0c07a74934a2c1d49d845827f03df535ddfdbc00"), looks := true }, kinds := [], alts := [], laidByText := true, laidKinds := [.data, .data, .data, .data, .handle, .sentinel, .sentinel, .widerDeep, .pinned], laidTests := true, laidLooks := .later }
def ScopeResolvesCardSaid : Prop := Claim7.holds Tryz.pinned (.plain (OpenSpec.ofChange scopeResolvesSpec)) scopeResolvesCard

/-- THE TIED CARD OF 'amanuensislaw6.LayAgain'. -/
def layAgainCard : Claim7 := { stood := { row := layAgainRow, standIns := [], harness := (true, "2d6e0aed6fe48a70e1bf8caa0c07a74934a2c1d49d845827f03df535ddfdbc00"), looks := true }, kinds := [], alts := [], laidByText := true, laidKinds := [.data, .data, .data, .data, .sentinel, .sentinel, .widerDeep, .pinned], laidTests := true, laidLooks := .later }
def LayAgainCardSaid : Prop := Claim7.holds Tryz.pinned (.plain (OpenSpec.ofChange layAgainSpec)) layAgainCard

/-- THE TIED CARD OF 'amanuensislaw6.LayKeeps'. -/
def layKeepsCard : Claim7 := { stood := { row := layKeepsRow, standIns := [], harness := (true, "2d6e0aed6fe48a70e1bf8caa0c07a74934a2c1d49d845827f03df535ddfdbc00"), looks := true }, kinds := [], alts := [], laidByText := true, laidKinds := [.data, .data, .data, .data, .sentinel, .sentinel, .widerDeep, .pinned], laidTests := true, laidLooks := .later }
def LayKeepsCardSaid : Prop := Claim7.holds Tryz.pinned (.plain (OpenSpec.ofChange layKeepsSpec)) layKeepsCard

/-- THE TIED CARD OF 'amanuensislaw6.LayLays'. -/
def layLaysCard : Claim7 := { stood := { row := layLaysRow, standIns := [], harness := (true, "2d6e0aed6fe48a70e1bf8caa0c07a74934a2c1d49d845827f03df535ddfdbc00"), looks := true }, kinds := [], alts := [], laidByText := true, laidKinds := [.data, .data, .data, .data, .handle, .sentinel, .sentinel, .widerDeep, .pinned], laidTests := true, laidLooks := .later }
def LayLaysCardSaid : Prop := Claim7.holds Tryz.pinned (.plain (OpenSpec.ofChange layLaysSpec)) layLaysCard

/-- THE TIED CARD OF 'amanuensislaw6.ColourBack'. -/
def colourBackCard : Claim7 := { stood := { row := colourBackRow, standIns := [], harness := (true, "2d6e0aed6fe48a70e1bf8caa0c07a74934a2c1d49d845827f03df535ddfdbc00"), looks := true }, kinds := [], alts := [], laidByText := true, laidKinds := [.data, .data, .data, .data, .sentinel, .sentinel, .widerDeep, .data, .pinned], laidTests := true, laidLooks := .later }
def ColourBackCardSaid : Prop := Claim7.holds Tryz.pinned (.plain (OpenSpec.ofChange colourBackSpec)) colourBackCard

/-- THE TIED CARD OF 'amanuensislaw6.ColourTells'. -/
def colourTellsCard : Claim7 := { stood := { row := colourTellsRow, standIns := [], harness := (true, "2d6e0aed6fe48a70e1bf8caa0c07a74934a2c1d49d845827f03df535ddfdbc00"), looks := true }, kinds := [], alts := [], laidByText := true, laidKinds := [.data, .data, .data, .data, .handle, .sentinel, .sentinel, .widerDeep, .data, .pinned], laidTests := true, laidLooks := .later }
def ColourTellsCardSaid : Prop := Claim7.holds Tryz.pinned (.plain (OpenSpec.ofChange colourTellsSpec)) colourTellsCard

/-- THE SECOND FORM's CARD OF 'amanuensislaw3.ScopeStands'. -/
def scopeStandsUptoCard : Claim7 := { stood := { row := scopeStandsUptoRow, standIns := [], harness := (true, "2d6e0aed6fe48a70e1bf8caa0c07a74934a2c1d49d845827f03df535ddfdbc00"), looks := true }, kinds := [], alts := [], laidByText := true, laidKinds := [.data, .data, .data, .data, .sentinel, .sentinel, .widerDeep, .pinned], laidTests := true, laidLooks := .later }
def ScopeStandsUptoCardSaid : Prop := Claim7.holds Tryz.pinned (.plain (OpenSpec.upto scopeStandsSpec)) scopeStandsUptoCard

/-- THE SECOND FORM's CARD OF 'amanuensislaw3.ScopeResolves'. -/
def scopeResolvesUptoCard : Claim7 := { stood := { row := scopeResolvesUptoRow, standIns := [], harness := (true, "2d6e0aed6fe48a70e1bf8caa0c07a74934a2c1d49d845827f03df535ddfdbc00"), looks := true }, kinds := [], alts := [], laidByText := true, laidKinds := [.data, .data, .data, .data, .handle, .sentinel, .sentinel, .widerDeep, .pinned], laidTests := true, laidLooks := .later }
def ScopeResolvesUptoCardSaid : Prop := Claim7.holds Tryz.pinned (.plain (OpenSpec.upto scopeResolvesSpec)) scopeResolvesUptoCard

/-- THE SECOND FORM's CARD OF 'amanuensislaw6.LayAgain'. -/
def layAgainUptoCard : Claim7 := { stood := { row := layAgainUptoRow, standIns := [], harness := (true, "2d6e0aed6fe48a70e1bf8caa0c07a74934a2c1d49d845827f03df535ddfdbc00"), looks := true }, kinds := [], alts := [], laidByText := true, laidKinds := [.data, .data, .data, .data, .sentinel, .sentinel, .widerDeep, .pinned], laidTests := true, laidLooks := .later }
def LayAgainUptoCardSaid : Prop := Claim7.holds Tryz.pinned (.plain (OpenSpec.upto layAgainSpec)) layAgainUptoCard

/-- THE SECOND FORM's CARD OF 'amanuensislaw6.LayKeeps'. -/
def layKeepsUptoCard : Claim7 := { stood := { row := layKeepsUptoRow, standIns := [], harness := (true, "2d6e0aed6fe48a70e1bf8caa0c07a74934a2c1d49d845827f03df535ddfdbc00"), looks := true }, kinds := [], alts := [], laidByText := true, laidKinds := [.data, .data, .data, .data, .sentinel, .sentinel, .widerDeep, .pinned], laidTests := true, laidLooks := .later }
def LayKeepsUptoCardSaid : Prop := Claim7.holds Tryz.pinned (.plain (OpenSpec.upto layKeepsSpec)) layKeepsUptoCard

/-- THE SECOND FORM's CARD OF 'amanuensislaw6.LayLays'. -/
def layLaysUptoCard : Claim7 := { stood := { row := layLaysUptoRow, standIns := [], harness := (true, "2d6e0aed6fe48a70e1bf8caa0c07a74934a2c1d49d845827f03df535ddfdbc00"), looks := true }, kinds := [], alts := [], laidByText := true, laidKinds := [.data, .data, .data, .data, .handle, .sentinel, .sentinel, .widerDeep, .pinned], laidTests := true, laidLooks := .later }
def LayLaysUptoCardSaid : Prop := Claim7.holds Tryz.pinned (.plain (OpenSpec.upto layLaysSpec)) layLaysUptoCard

/-- THE SECOND FORM's CARD OF 'amanuensislaw6.ColourBack'. -/
def colourBackUptoCard : Claim7 := { stood := { row := colourBackUptoRow, standIns := [], harness := (true, "2d6e0aed6fe48a70e1bf8caa0c07a74934a2c1d49d845827f03df535ddfdbc00"), looks := true }, kinds := [], alts := [], laidByText := true, laidKinds := [.data, .data, .data, .data, .sentinel, .sentinel, .widerDeep, .data, .pinned], laidTests := true, laidLooks := .later }
def ColourBackUptoCardSaid : Prop := Claim7.holds Tryz.pinned (.plain (OpenSpec.upto colourBackSpec)) colourBackUptoCard

/-- THE SECOND FORM's CARD OF 'amanuensislaw6.ColourTells'. -/
def colourTellsUptoCard : Claim7 := { stood := { row := colourTellsUptoRow, standIns := [], harness := (true, "2d6e0aed6fe48a70e1bf8caa0c07a74934a2c1d49d845827f03df535ddfdbc00"), looks := true }, kinds := [], alts := [], laidByText := true, laidKinds := [.data, .data, .data, .data, .handle, .sentinel, .sentinel, .widerDeep, .data, .pinned], laidTests := true, laidLooks := .later }
def ColourTellsUptoCardSaid : Prop := Claim7.holds Tryz.pinned (.plain (OpenSpec.upto colourTellsSpec)) colourTellsUptoCard
end Rows
end Go.Proofs.YtcjjfeephaddcaaGreatDoor
