/-
  DERIVED. GIVEN WITH THE SEED: THE CARDS: each row of YtccljojceoidhaaDoorRows.lean that lists a variable, with what it lists TIED to the program's text (the seventh form; the later family's looks); each row that meets fmt, with fmt's text TOLD by the authors' own Lean function (tested against real Go, not proved from fmt's source: count such statements apart). THE CARD IS WHAT COUNTS. Prove the row's statement (the work); the ties are given (YtccljojceoidhaaDoorTie.lean); close each card by the builder's one call (the guide's Derived/Test/ToyasCard.lean, 'card_holds'). Laid BY PROGRAM, IN A SANDBOX (cutbox-door.mjs). By AI agents, Wed Nov 11 2026. No macro, syntax, notation, axiom, sorry.
-/
import Derived.Test.YtccljojceoidhaaDoorRows
import GoSem.ClaimSeven
namespace Go.Proofs.YtccljojceoidhaaDoor
namespace Rows

/-- THE TIED CARD OF 'amanuensislaw7.WirePrints'. -/
def wirePrintsCard : Claim7 := { stood := { row := wirePrintsRow, standIns := [], harness := (true, "f7030a2e2e25e3c168c7bb048f043f042daff956a92463737f9486141e785a27"), looks := true }, kinds := [], alts := [], laidByText := true, laidKinds := [.data, .data, .data, .handle], laidTests := true, laidLooks := .later }
def WirePrintsCardSaid : Prop := Claim7.holds Tryd.pinned (.plain (OpenSpec.ofChange wirePrintsSpec)) wirePrintsCard

/-- THE TIED CARD OF 'amanuensislaw7.WireFrames'. -/
def wireFramesCard : Claim7 := { stood := { row := wireFramesRow, standIns := [], harness := (true, "f7030a2e2e25e3c168c7bb048f043f042daff956a92463737f9486141e785a27"), looks := true }, kinds := [], alts := [], laidByText := true, laidKinds := [.data, .data, .data, .data, .sentinel, .sentinel, .pinned], laidTests := true, laidLooks := .later }
def WireFramesCardSaid : Prop := Claim7.holds Tryd.pinned (.plain (OpenSpec.ofChange wireFramesSpec)) wireFramesCard

/-- THE TIED CARD OF 'amanuensislaw7.WireBack'. -/
def wireBackCard : Claim7 := { stood := { row := wireBackRow, standIns := [], harness := (true, "f7030a2e2e25e3c168c7bb048f043f042daff956a92463737f9486141e785a27"), looks := true }, kinds := [], alts := [], laidByText := true, laidKinds := [.data, .data, .data, .data, .sentinel, .sentinel, .pinned], laidTests := true, laidLooks := .later }
def WireBackCardSaid : Prop := Claim7.holds Tryd.pinned (.plain (OpenSpec.ofChange wireBackSpec)) wireBackCard

/-- THE TIED CARD OF 'amanuensislaw7.WireFeeds'. -/
def wireFeedsCard : Claim7 := { stood := { row := wireFeedsRow, standIns := [], harness := (true, "f7030a2e2e25e3c168c7bb048f043f042daff956a92463737f9486141e785a27"), looks := true }, kinds := [], alts := [], laidByText := true, laidKinds := [.data, .data, .data, .data, .handle, .sentinel, .sentinel, .pinned], laidTests := true, laidLooks := .later }
def WireFeedsCardSaid : Prop := Claim7.holds Tryd.pinned (.plain (OpenSpec.ofChange wireFeedsSpec)) wireFeedsCard

/-- THE TIED CARD OF 'amanuensislaw2.LexTokens'. -/
def lexTokensCard : Claim7 := { stood := { row := lexTokensRow, standIns := [], harness := (true, "f7030a2e2e25e3c168c7bb048f043f042daff956a92463737f9486141e785a27"), looks := true }, kinds := [], alts := [], laidByText := true, laidKinds := [.data, .data, .data, .data, .sentinel, .sentinel, .widerDeep, .pinned], laidTests := true, laidLooks := .later }
def LexTokensCardSaid : Prop := Claim7.holds Tryd.pinned (.plain (OpenSpec.ofChange lexTokensSpec)) lexTokensCard

/-- THE TIED CARD OF 'amanuensislaw2.LexTiles'. -/
def lexTilesCard : Claim7 := { stood := { row := lexTilesRow, standIns := [], harness := (true, "f7030a2e2e25e3c168c7bb048f043f042daff956a92463737f9486141e785a27"), looks := true }, kinds := [], alts := [], laidByText := true, laidKinds := [.data, .data, .data, .data, .sentinel, .sentinel, .widerDeep, .pinned], laidTests := true, laidLooks := .later }
def LexTilesCardSaid : Prop := Claim7.holds Tryd.pinned (.plain (OpenSpec.ofChange lexTilesSpec)) lexTilesCard

/-- THE TIED CARD OF 'amanuensislaw2.LexWords'. -/
def lexWordsCard : Claim7 := { stood := { row := lexWordsRow, standIns := [], harness := (true, "f7030a2e2e25e3c168c7bb048f043f042daff956a92463737f9486141e785a27"), looks := true }, kinds := [], alts := [], laidByText := true, laidKinds := [.data, .data, .data, .data, .sentinel, .sentinel, .widerDeep, .pinned], laidTests := true, laidLooks := .later }
def LexWordsCardSaid : Prop := Claim7.holds Tryd.pinned (.plain (OpenSpec.ofChange lexWordsSpec)) lexWordsCard

/-- THE TIED CARD OF 'amanuensislaw2.LexQuotes'. -/
def lexQuotesCard : Claim7 := { stood := { row := lexQuotesRow, standIns := [], harness := (true, "f7030a2e2e25e3c168c7bb048f043f042daff956a92463737f9486141e785a27"), looks := true }, kinds := [], alts := [], laidByText := true, laidKinds := [.data, .data, .data, .data, .sentinel, .sentinel, .widerDeep, .pinned], laidTests := true, laidLooks := .later }
def LexQuotesCardSaid : Prop := Claim7.holds Tryd.pinned (.plain (OpenSpec.ofChange lexQuotesSpec)) lexQuotesCard

/-- THE SECOND FORM's CARD OF 'amanuensislaw7.WirePrints'. -/
def wirePrintsUptoCard : Claim7 := { stood := { row := wirePrintsUptoRow, standIns := [], harness := (true, "f7030a2e2e25e3c168c7bb048f043f042daff956a92463737f9486141e785a27"), looks := true }, kinds := [], alts := [], laidByText := true, laidKinds := [.data, .data, .data, .handle], laidTests := true, laidLooks := .later }
def WirePrintsUptoCardSaid : Prop := Claim7.holds Tryd.pinned (.plain (OpenSpec.upto wirePrintsSpec)) wirePrintsUptoCard

/-- THE SECOND FORM's CARD OF 'amanuensislaw7.WireFrames'. -/
def wireFramesUptoCard : Claim7 := { stood := { row := wireFramesUptoRow, standIns := [], harness := (true, "f7030a2e2e25e3c168c7bb048f043f042daff956a92463737f9486141e785a27"), looks := true }, kinds := [], alts := [], laidByText := true, laidKinds := [.data, .data, .data, .data, .sentinel, .sentinel, .pinned], laidTests := true, laidLooks := .later }
def WireFramesUptoCardSaid : Prop := Claim7.holds Tryd.pinned (.plain (OpenSpec.upto wireFramesSpec)) wireFramesUptoCard

/-- THE SECOND FORM's CARD OF 'amanuensislaw7.WireBack'. -/
def wireBackUptoCard : Claim7 := { stood := { row := wireBackUptoRow, standIns := [], harness := (true, "f7030a2e2e25e3c168c7bb048f043f042daff956a92463737f9486141e785a27"), looks := true }, kinds := [], alts := [], laidByText := true, laidKinds := [.data, .data, .data, .data, .sentinel, .sentinel, .pinned], laidTests := true, laidLooks := .later }
def WireBackUptoCardSaid : Prop := Claim7.holds Tryd.pinned (.plain (OpenSpec.upto wireBackSpec)) wireBackUptoCard

/-- THE SECOND FORM's CARD OF 'amanuensislaw7.WireFeeds'. -/
def wireFeedsUptoCard : Claim7 := { stood := { row := wireFeedsUptoRow, standIns := [], harness := (true, "f7030a2e2e25e3c168c7bb048f043f042daff956a92463737f9486141e785a27"), looks := true }, kinds := [], alts := [], laidByText := true, laidKinds := [.data, .data, .data, .data, .handle, .sentinel, .sentinel, .pinned], laidTests := true, laidLooks := .later }
def WireFeedsUptoCardSaid : Prop := Claim7.holds Tryd.pinned (.plain (OpenSpec.upto wireFeedsSpec)) wireFeedsUptoCard

/-- THE SECOND FORM's CARD OF 'amanuensislaw2.LexTokens'. -/
def lexTokensUptoCard : Claim7 := { stood := { row := lexTokensUptoRow, standIns := [], harness := (true, "f7030a2e2e25e3c168c7bb048f043f042daff956a92463737f9486141e785a27"), looks := true }, kinds := [], alts := [], laidByText := true, laidKinds := [.data, .data, .data, .data, .sentinel, .sentinel, .widerDeep, .pinned], laidTests := true, laidLooks := .later }
def LexTokensUptoCardSaid : Prop := Claim7.holds Tryd.pinned (.plain (OpenSpec.upto lexTokensSpec)) lexTokensUptoCard

/-- THE SECOND FORM's CARD OF 'amanuensislaw2.LexTiles'. -/
def lexTilesUptoCard : Claim7 := { stood := { row := lexTilesUptoRow, standIns := [], harness := (true, "f7030a2e2e25e3c168c7bb048f043f042daff956a92463737f9486141e785a27"), looks := true }, kinds := [], alts := [], laidByText := true, laidKinds := [.data, .data, .data, .data, .sentinel, .sentinel, .widerDeep, .pinned], laidTests := true, laidLooks := .later }
def LexTilesUptoCardSaid : Prop := Claim7.holds Tryd.pinned (.plain (OpenSpec.upto lexTilesSpec)) lexTilesUptoCard

/-- THE SECOND FORM's CARD OF 'amanuensislaw2.LexWords'. -/
def lexWordsUptoCard : Claim7 := { stood := { row := lexWordsUptoRow, standIns := [], harness := (true, "f7030a2e2e25e3c168c7bb048f043f042daff956a92463737f9486141e785a27"), looks := true }, kinds := [], alts := [], laidByText := true, laidKinds := [.data, .data, .data, .data, .sentinel, .sentinel, .widerDeep, .pinned], laidTests := true, laidLooks := .later }
def LexWordsUptoCardSaid : Prop := Claim7.holds Tryd.pinned (.plain (OpenSpec.upto lexWordsSpec)) lexWordsUptoCard

/-- THE SECOND FORM's CARD OF 'amanuensislaw2.LexQuotes'. -/
def lexQuotesUptoCard : Claim7 := { stood := { row := lexQuotesUptoRow, standIns := [], harness := (true, "f7030a2e2e25e3c168c7bb048f043f042daff956a92463737f9486141e785a27"), looks := true }, kinds := [], alts := [], laidByText := true, laidKinds := [.data, .data, .data, .data, .sentinel, .sentinel, .widerDeep, .pinned], laidTests := true, laidLooks := .later }
def LexQuotesUptoCardSaid : Prop := Claim7.holds Tryd.pinned (.plain (OpenSpec.upto lexQuotesSpec)) lexQuotesUptoCard
end Rows
end Go.Proofs.YtccljojceoidhaaDoor
