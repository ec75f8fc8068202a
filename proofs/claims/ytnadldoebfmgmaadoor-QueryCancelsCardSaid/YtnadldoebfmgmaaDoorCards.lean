/-
  DERIVED. GIVEN WITH THE SEED: THE CARDS: each row of YtnadldoebfmgmaaDoorRows.lean that lists a variable, with what it lists TIED to the program's text (the seventh form; the later family's looks); each row that meets fmt, with fmt's text TOLD by the authors' own Lean function (tested against real Go, not proved from fmt's source: count such statements apart). THE CARD IS WHAT COUNTS. Prove the row's statement (the work); the ties are given (YtnadldoebfmgmaaDoorTie.lean); close each card by the builder's one call (the guide's Derived/Test/ToyasCard.lean, 'card_holds'). Laid BY PROGRAM, IN A SANDBOX (cutbox-door.mjs). By AI agents, Wed Nov 11 2026. No macro, syntax, notation, axiom, sorry.
-/
import Derived.Test.YtnadldoebfmgmaaDoorRows
import GoSem.ClaimSeven
namespace Go.Proofs.YtnadldoebfmgmaaDoor
namespace Rows

/-- THE TIED CARD OF 'amanuensislaw4.QueryTrue'. -/
def queryTrueCard : Claim7 := { stood := { row := queryTrueRow, standIns := [], harness := (true, "a136b24917c3c07efb06df55667d9588df2ceeae295ba1d7d11cbcd790706cb9"), looks := true }, kinds := [], alts := [], laidByText := true, laidKinds := [.handle], laidTests := true, laidLooks := .later }
def QueryTrueCardSaid : Prop := Claim7.holds Tryd.pinned (.plain (OpenSpec.ofChange queryTrueSpec)) queryTrueCard

/-- THE TIED CARD OF 'amanuensislaw4.QueryCancels'. -/
def queryCancelsCard : Claim7 := { stood := { row := queryCancelsRow, standIns := [], harness := (true, "a136b24917c3c07efb06df55667d9588df2ceeae295ba1d7d11cbcd790706cb9"), looks := true }, kinds := [], alts := [], laidByText := true, laidKinds := [.handle], laidTests := true, laidLooks := .later }
def QueryCancelsCardSaid : Prop := Claim7.holds Tryd.pinned (.plain (OpenSpec.ofChange queryCancelsSpec)) queryCancelsCard

/-- THE SECOND FORM's CARD OF 'amanuensislaw4.QueryTrue'. -/
def queryTrueUptoCard : Claim7 := { stood := { row := queryTrueUptoRow, standIns := [], harness := (true, "a136b24917c3c07efb06df55667d9588df2ceeae295ba1d7d11cbcd790706cb9"), looks := true }, kinds := [], alts := [], laidByText := true, laidKinds := [.handle], laidTests := true, laidLooks := .later }
def QueryTrueUptoCardSaid : Prop := Claim7.holds Tryd.pinned (.plain (OpenSpec.upto queryTrueSpec)) queryTrueUptoCard

/-- THE SECOND FORM's CARD OF 'amanuensislaw4.QueryCancels'. -/
def queryCancelsUptoCard : Claim7 := { stood := { row := queryCancelsUptoRow, standIns := [], harness := (true, "a136b24917c3c07efb06df55667d9588df2ceeae295ba1d7d11cbcd790706cb9"), looks := true }, kinds := [], alts := [], laidByText := true, laidKinds := [.handle], laidTests := true, laidLooks := .later }
def QueryCancelsUptoCardSaid : Prop := Claim7.holds Tryd.pinned (.plain (OpenSpec.upto queryCancelsSpec)) queryCancelsUptoCard
end Rows
end Go.Proofs.YtnadldoebfmgmaaDoor
