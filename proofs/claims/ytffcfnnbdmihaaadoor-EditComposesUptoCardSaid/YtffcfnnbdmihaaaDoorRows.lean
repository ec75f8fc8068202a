/-
  NARROWER THAN 'FOR EVERY INPUT', by the rows' own cells (each row's printed sentence says how): RopeBack: laid · RopePlaces: laid · EditInverts: laid · RopeHolds: laid · EditApplies: laid · EditMerges: laid · UndoPlays: laid · EditComposes: laid.
  DERIVED. THE GIVEN ROWS OF THIS SEAT. 8 by the template 'for every input the law returns true; each argument reads behind the call as it read before'; 0 by the template 'total and deterministic' (their statements: YtffcfnnbdmihaaaDoorTotals.lean).
  GIVEN WITH THE SEED: the statements are not yours to turn. If you find one false, say at which input.
  Laid BY PROGRAM, IN A SANDBOX (cutbox-rows.mjs): the forced cells as the released guide's own fill.sh prints them over the translation 0ab84aead8db556c… (all of the seat's roots in one cut). By AI agents, Wed Nov 11 2026. No macro, syntax, notation, axiom, sorry.
-/
import Derived.Test.YtffcfnnbdmihaaaDoorChecked
import GoSem.PinnedTables
import GoSem.Claim
import GoSem.ClaimJoined
import GoSem.ClaimMapViews
import Derived.JoinedTies
import Derived.KernelRfl
namespace Go.Proofs.YtffcfnnbdmihaaaDoor
/- THE CELL 'sum', in the pinned program and in every row, IS THE sha256 OF THE DUMP (.gsa) THAT YtffcfnnbdmihaaaDoorProg.lean LOADS. Nothing in Lean hashes anything: it is a label: what it is worth is what the hold of that sum in a sandbox is worth. -/
noncomputable def Tryd.pinned : Pinned := { name := "ytffcfnnbdmihaaadoor", sum := "0ab84aead8db556cd9d14c6bd9bfac3356b6890d998b07fe67af6256a33a7e57", checked := Tryd.checked }
namespace Rows
def none {H : Type} : Left H := { results := [], args := [] }

/- WHAT THE LISTED PACKAGE-LEVEL VARIABLES READ AS WHEN THE CALL BEGINS. Each datum BY PROGRAM (the guide's laid-datum.mjs) off the statement by which the dump's own 'gosem.cut.vars' lays the variable. In a bare row this is a premise. The card (YtffcfnnbdmihaaaDoorCards.lean) ties it to the program's text. -/
def laid_unicode_utf8_acceptRanges {H : Type} : DataW H := .agg [.agg [.lit (.int .u8 128), .lit (.int .u8 191)], .agg [.lit (.int .u8 160), .lit (.int .u8 191)], .agg [.lit (.int .u8 128), .lit (.int .u8 159)], .agg [.lit (.int .u8 144), .lit (.int .u8 191)], .agg [.lit (.int .u8 128), .lit (.int .u8 143)], .agg [.lit (.int .u8 0), .lit (.int .u8 0)], .agg [.lit (.int .u8 0), .lit (.int .u8 0)], .agg [.lit (.int .u8 0), .lit (.int .u8 0)], .agg [.lit (.int .u8 0), .lit (.int .u8 0)], .agg [.lit (.int .u8 0), .lit (.int .u8 0)], .agg [.lit (.int .u8 0), .lit (.int .u8 0)], .agg [.lit (.int .u8 0), .lit (.int .u8 0)], .agg [.lit (.int .u8 0), .lit (.int .u8 0)], .agg [.lit (.int .u8 0), .lit (.int .u8 0)], .agg [.lit (.int .u8 0), .lit (.int .u8 0)], .agg [.lit (.int .u8 0), .lit (.int .u8 0)]]
/-- One of Go's own tables, pinned by name: the form's constant. -/
def laid_unicode_utf8_first : DataW Unit := Go.Pinned.utf8First
def laid_errors_errorType {H : Type} : DataW H := .iface "internal/reflectlite.rtype" (.agg [.ptr (.lit (.string [101, 114, 114, 111, 114]))])

/-- 'amanuensislaw1.RopeBack': WHATEVER THE INPUT: true; the input reads as it did. -/
def ropeBackSpec : ChangeSpec := { name := "ropeBack", fn := fun _ => fun
  | [d1, d2] => { results := [.lit (.bool true)], args := [d1, d2] }
  | _ => none }
def ropeBackRow : OpenClaim := { program := "ytffcfnnbdmihaaadoor", sum := "0ab84aead8db556cd9d14c6bd9bfac3356b6890d998b07fe67af6256a33a7e57", func := "amanuensis/amanuensislaw1.RopeBack", spec := "ropeBack", unfollowed := true, recurses := true, named := ["unicode/utf8.first", "unicode/utf8.acceptRanges"], apart := false, laid := [("unicode/utf8.acceptRanges", laid_unicode_utf8_acceptRanges), ("unicode/utf8.first", laid_unicode_utf8_first)] }
def RopeBackSaid : Prop := ropeBackRow.holds Tryd.pinned (OpenSpec.ofChange ropeBackSpec)

/-- ITS FALSE NEIGHBOUR: 'it returns false'. Refute it at one input. -/
def ropeBackWrong : ChangeSpec := { name := "ropeBack", fn := fun _ => fun
  | [d1, d2] => { results := [.lit (.bool false)], args := [d1, d2] }
  | _ => none }
def RopeBackWrongFalsely : Prop := ropeBackRow.holds Tryd.pinned (OpenSpec.ofChange ropeBackWrong)

/-- 'amanuensislaw1.RopePlaces': WHATEVER THE INPUT: true; the input reads as it did. -/
def ropePlacesSpec : ChangeSpec := { name := "ropePlaces", fn := fun _ => fun
  | [d1, d2, d3, d4, d5, d6] => { results := [.lit (.bool true)], args := [d1, d2, d3, d4, d5, d6] }
  | _ => none }
def ropePlacesRow : OpenClaim := { program := "ytffcfnnbdmihaaadoor", sum := "0ab84aead8db556cd9d14c6bd9bfac3356b6890d998b07fe67af6256a33a7e57", func := "amanuensis/amanuensislaw1.RopePlaces", spec := "ropePlaces", unfollowed := true, recurses := true, named := ["unicode/utf8.first", "unicode/utf8.acceptRanges"], apart := false, laid := [("unicode/utf8.acceptRanges", laid_unicode_utf8_acceptRanges), ("unicode/utf8.first", laid_unicode_utf8_first)] }
def RopePlacesSaid : Prop := ropePlacesRow.holds Tryd.pinned (OpenSpec.ofChange ropePlacesSpec)

/-- ITS FALSE NEIGHBOUR: 'it returns false'. Refute it at one input. -/
def ropePlacesWrong : ChangeSpec := { name := "ropePlaces", fn := fun _ => fun
  | [d1, d2, d3, d4, d5, d6] => { results := [.lit (.bool false)], args := [d1, d2, d3, d4, d5, d6] }
  | _ => none }
def RopePlacesWrongFalsely : Prop := ropePlacesRow.holds Tryd.pinned (OpenSpec.ofChange ropePlacesWrong)

/-- 'amanuensislaw1.EditInverts': WHATEVER THE INPUT: true; the input reads as it did. -/
def editInvertsSpec : ChangeSpec := { name := "editInverts", fn := fun _ => fun
  | [d1, d2] => { results := [.lit (.bool true)], args := [d1, d2] }
  | _ => none }
def editInvertsRow : OpenClaim := { program := "ytffcfnnbdmihaaadoor", sum := "0ab84aead8db556cd9d14c6bd9bfac3356b6890d998b07fe67af6256a33a7e57", func := "amanuensis/amanuensislaw1.EditInverts", spec := "editInverts", inPlace := ["internal/reflectlite.ValueOf", "(internal/reflectlite.Value).Type", "(internal/reflectlite.Value).IsNil", "internal/reflectlite.TypeOf", "(internal/reflectlite.Value).Elem", "(internal/reflectlite.Value).Set"], unfollowed := true, recurses := true, named := ["errors.errorType"], apart := false, laid := [("errors.errorType", laid_errors_errorType)] }
def EditInvertsSaid : Prop := editInvertsRow.holds Tryd.pinned (OpenSpec.ofChange editInvertsSpec)

/-- ITS FALSE NEIGHBOUR: 'it returns false'. Refute it at one input. -/
def editInvertsWrong : ChangeSpec := { name := "editInverts", fn := fun _ => fun
  | [d1, d2] => { results := [.lit (.bool false)], args := [d1, d2] }
  | _ => none }
def EditInvertsWrongFalsely : Prop := editInvertsRow.holds Tryd.pinned (OpenSpec.ofChange editInvertsWrong)

/-- 'amanuensislaw1.RopeHolds': WHATEVER THE INPUT: true; the input reads as it did. -/
def ropeHoldsSpec : ChangeSpec := { name := "ropeHolds", fn := fun _ => fun
  | [d1, d2, d3, d4] => { results := [.lit (.bool true)], args := [d1, d2, d3, d4] }
  | _ => none }
def ropeHoldsRow : OpenClaim := { program := "ytffcfnnbdmihaaadoor", sum := "0ab84aead8db556cd9d14c6bd9bfac3356b6890d998b07fe67af6256a33a7e57", func := "amanuensis/amanuensislaw1.RopeHolds", spec := "ropeHolds", inPlace := ["internal/reflectlite.ValueOf", "(internal/reflectlite.Value).Type", "(internal/reflectlite.Value).IsNil", "internal/reflectlite.TypeOf", "(internal/reflectlite.Value).Elem", "(internal/reflectlite.Value).Set"], unfollowed := true, recurses := true, named := ["errors.errorType"], apart := false, laid := [("errors.errorType", laid_errors_errorType)] }
def RopeHoldsSaid : Prop := ropeHoldsRow.holds Tryd.pinned (OpenSpec.ofChange ropeHoldsSpec)

/-- ITS FALSE NEIGHBOUR: 'it returns false'. Refute it at one input. -/
def ropeHoldsWrong : ChangeSpec := { name := "ropeHolds", fn := fun _ => fun
  | [d1, d2, d3, d4] => { results := [.lit (.bool false)], args := [d1, d2, d3, d4] }
  | _ => none }
def RopeHoldsWrongFalsely : Prop := ropeHoldsRow.holds Tryd.pinned (OpenSpec.ofChange ropeHoldsWrong)

/-- 'amanuensislaw1.EditApplies': WHATEVER THE INPUT: true; the input reads as it did. -/
def editAppliesSpec : ChangeSpec := { name := "editApplies", fn := fun _ => fun
  | [d1, d2, d3] => { results := [.lit (.bool true)], args := [d1, d2, d3] }
  | _ => none }
def editAppliesRow : OpenClaim := { program := "ytffcfnnbdmihaaadoor", sum := "0ab84aead8db556cd9d14c6bd9bfac3356b6890d998b07fe67af6256a33a7e57", func := "amanuensis/amanuensislaw1.EditApplies", spec := "editApplies", inPlace := ["internal/reflectlite.ValueOf", "(internal/reflectlite.Value).Type", "(internal/reflectlite.Value).IsNil", "internal/reflectlite.TypeOf", "(internal/reflectlite.Value).Elem", "(internal/reflectlite.Value).Set", "internal/abi.NoEscape"], unfollowed := true, recurses := true, named := ["errors.errorType"], apart := false, laid := [("errors.errorType", laid_errors_errorType)] }
def EditAppliesSaid : Prop := editAppliesRow.holds Tryd.pinned (OpenSpec.ofChange editAppliesSpec)

/-- ITS FALSE NEIGHBOUR: 'it returns false'. Refute it at one input. -/
def editAppliesWrong : ChangeSpec := { name := "editApplies", fn := fun _ => fun
  | [d1, d2, d3] => { results := [.lit (.bool false)], args := [d1, d2, d3] }
  | _ => none }
def EditAppliesWrongFalsely : Prop := editAppliesRow.holds Tryd.pinned (OpenSpec.ofChange editAppliesWrong)

/-- 'amanuensislaw1.EditMerges': WHATEVER THE INPUT: true; the input reads as it did. -/
def editMergesSpec : ChangeSpec := { name := "editMerges", fn := fun _ => fun
  | [d1, d2, d3] => { results := [.lit (.bool true)], args := [d1, d2, d3] }
  | _ => none }
def editMergesRow : OpenClaim := { program := "ytffcfnnbdmihaaadoor", sum := "0ab84aead8db556cd9d14c6bd9bfac3356b6890d998b07fe67af6256a33a7e57", func := "amanuensis/amanuensislaw1.EditMerges", spec := "editMerges", inPlace := ["internal/reflectlite.ValueOf", "(internal/reflectlite.Value).Type", "(internal/reflectlite.Value).IsNil", "internal/reflectlite.TypeOf", "(internal/reflectlite.Value).Elem", "(internal/reflectlite.Value).Set"], unfollowed := true, recurses := true, named := ["errors.errorType"], apart := false, laid := [("errors.errorType", laid_errors_errorType)] }
def EditMergesSaid : Prop := editMergesRow.holds Tryd.pinned (OpenSpec.ofChange editMergesSpec)

/-- ITS FALSE NEIGHBOUR: 'it returns false'. Refute it at one input. -/
def editMergesWrong : ChangeSpec := { name := "editMerges", fn := fun _ => fun
  | [d1, d2, d3] => { results := [.lit (.bool false)], args := [d1, d2, d3] }
  | _ => none }
def EditMergesWrongFalsely : Prop := editMergesRow.holds Tryd.pinned (OpenSpec.ofChange editMergesWrong)

/-- 'amanuensislaw1.UndoPlays': WHATEVER THE INPUT: true; the input reads as it did. -/
def undoPlaysSpec : ChangeSpec := { name := "undoPlays", fn := fun _ => fun
  | [d1, d2] => { results := [.lit (.bool true)], args := [d1, d2] }
  | _ => none }
def undoPlaysRow : OpenClaim := { program := "ytffcfnnbdmihaaadoor", sum := "0ab84aead8db556cd9d14c6bd9bfac3356b6890d998b07fe67af6256a33a7e57", func := "amanuensis/amanuensislaw1.UndoPlays", spec := "undoPlays", inPlace := ["internal/abi.NoEscape", "internal/reflectlite.ValueOf", "(internal/reflectlite.Value).Type", "(internal/reflectlite.Value).IsNil", "internal/reflectlite.TypeOf", "(internal/reflectlite.Value).Elem", "(internal/reflectlite.Value).Set"], unfollowed := true, recurses := true, named := ["errors.errorType"], apart := false, laid := [("errors.errorType", laid_errors_errorType)] }
def UndoPlaysSaid : Prop := undoPlaysRow.holds Tryd.pinned (OpenSpec.ofChange undoPlaysSpec)

/-- ITS FALSE NEIGHBOUR: 'it returns false'. Refute it at one input. -/
def undoPlaysWrong : ChangeSpec := { name := "undoPlays", fn := fun _ => fun
  | [d1, d2] => { results := [.lit (.bool false)], args := [d1, d2] }
  | _ => none }
def UndoPlaysWrongFalsely : Prop := undoPlaysRow.holds Tryd.pinned (OpenSpec.ofChange undoPlaysWrong)

/-- 'amanuensislaw1.EditComposes': WHATEVER THE INPUT: true; the input reads as it did. -/
def editComposesSpec : ChangeSpec := { name := "editComposes", fn := fun _ => fun
  | [d1, d2, d3] => { results := [.lit (.bool true)], args := [d1, d2, d3] }
  | _ => none }
def editComposesRow : OpenClaim := { program := "ytffcfnnbdmihaaadoor", sum := "0ab84aead8db556cd9d14c6bd9bfac3356b6890d998b07fe67af6256a33a7e57", func := "amanuensis/amanuensislaw1.EditComposes", spec := "editComposes", inPlace := ["internal/reflectlite.ValueOf", "(internal/reflectlite.Value).Type", "(internal/reflectlite.Value).IsNil", "internal/reflectlite.TypeOf", "(internal/reflectlite.Value).Elem", "(internal/reflectlite.Value).Set"], unfollowed := true, recurses := true, named := ["errors.errorType"], apart := false, laid := [("errors.errorType", laid_errors_errorType)] }
def EditComposesSaid : Prop := editComposesRow.holds Tryd.pinned (OpenSpec.ofChange editComposesSpec)

/-- ITS FALSE NEIGHBOUR: 'it returns false'. Refute it at one input. -/
def editComposesWrong : ChangeSpec := { name := "editComposes", fn := fun _ => fun
  | [d1, d2, d3] => { results := [.lit (.bool false)], args := [d1, d2, d3] }
  | _ => none }
def EditComposesWrongFalsely : Prop := editComposesRow.holds Tryd.pinned (OpenSpec.ofChange editComposesWrong)

/- THE SECOND FORM. 'bulk': how many values and letters a reading holds, each counted each time it is reached (what is shared counts as often as it is met; a slice's spare places count too). A statement '..UptoSaid' is the law's where the arguments, and the package variables that the reading takes, are together of bulk at most 1048576: NARROWER than '..Said'. Prove '..Said' where nothing that the law and all that it calls make is longer than what came in: it says more and counts as full. Else prove '..UptoSaid'. A law counts once. -/
mutual
def uptoBulk {H : Type} : DataW H → Nat
  | .lit (.string bytes) => bytes.length + 1
  | .lit _ => 1
  | .nil => 1
  | .ptr d => uptoBulk d + 1
  | .slice elems spare => uptoBulkAll elems + uptoBulkAll spare + 1
  | .agg parts => uptoBulkAll parts + 1
  | .iface _ d => uptoBulk d + 1
  | .map entries => uptoBulkEntries entries + 1
  | .held _ => 1
def uptoBulkAll {H : Type} : List (DataW H) → Nat
  | [] => 0
  | d :: r => uptoBulk d + uptoBulkAll r
def uptoBulkEntries {H : Type} : List (Lit × DataW H) → Nat
  | [] => 0
  | x :: r => uptoBulkEntry x + uptoBulkEntries r
def uptoBulkEntry {H : Type} : Lit × DataW H → Nat
  | (.string bytes, d) => bytes.length + uptoBulk d + 1
  | (_, d) => uptoBulk d + 1
 end
def uptoSmall : (H : Type) → List (DataW H) → Bool := fun _ ds => decide (uptoBulkAll ds ≤ 1048576)
def OpenSpec.upto (s : _root_.Go.ChangeSpec) : _root_.Go.OpenSpec := { _root_.Go.OpenSpec.ofChange s with cond := some uptoSmall }

/-- 'amanuensislaw1.RopeBack', WHERE WHAT IT READS IS OF BULK AT MOST 1048576: true; the input reads as it did. -/
def ropeBackUptoRow : OpenClaim := { program := "ytffcfnnbdmihaaadoor", sum := "0ab84aead8db556cd9d14c6bd9bfac3356b6890d998b07fe67af6256a33a7e57", func := "amanuensis/amanuensislaw1.RopeBack", spec := "ropeBack", unfollowed := true, recurses := true, named := ["unicode/utf8.first", "unicode/utf8.acceptRanges"], apart := false, laid := [("unicode/utf8.acceptRanges", laid_unicode_utf8_acceptRanges), ("unicode/utf8.first", laid_unicode_utf8_first)], narrowed := true }
def RopeBackUptoSaid : Prop := ropeBackUptoRow.holds Tryd.pinned (OpenSpec.upto ropeBackSpec)

/-- 'amanuensislaw1.RopePlaces', WHERE WHAT IT READS IS OF BULK AT MOST 1048576: true; the input reads as it did. -/
def ropePlacesUptoRow : OpenClaim := { program := "ytffcfnnbdmihaaadoor", sum := "0ab84aead8db556cd9d14c6bd9bfac3356b6890d998b07fe67af6256a33a7e57", func := "amanuensis/amanuensislaw1.RopePlaces", spec := "ropePlaces", unfollowed := true, recurses := true, named := ["unicode/utf8.first", "unicode/utf8.acceptRanges"], apart := false, laid := [("unicode/utf8.acceptRanges", laid_unicode_utf8_acceptRanges), ("unicode/utf8.first", laid_unicode_utf8_first)], narrowed := true }
def RopePlacesUptoSaid : Prop := ropePlacesUptoRow.holds Tryd.pinned (OpenSpec.upto ropePlacesSpec)

/-- 'amanuensislaw1.EditInverts', WHERE WHAT IT READS IS OF BULK AT MOST 1048576: true; the input reads as it did. -/
def editInvertsUptoRow : OpenClaim := { program := "ytffcfnnbdmihaaadoor", sum := "0ab84aead8db556cd9d14c6bd9bfac3356b6890d998b07fe67af6256a33a7e57", func := "amanuensis/amanuensislaw1.EditInverts", spec := "editInverts", inPlace := ["internal/reflectlite.ValueOf", "(internal/reflectlite.Value).Type", "(internal/reflectlite.Value).IsNil", "internal/reflectlite.TypeOf", "(internal/reflectlite.Value).Elem", "(internal/reflectlite.Value).Set"], unfollowed := true, recurses := true, named := ["errors.errorType"], apart := false, laid := [("errors.errorType", laid_errors_errorType)], narrowed := true }
def EditInvertsUptoSaid : Prop := editInvertsUptoRow.holds Tryd.pinned (OpenSpec.upto editInvertsSpec)

/-- 'amanuensislaw1.RopeHolds', WHERE WHAT IT READS IS OF BULK AT MOST 1048576: true; the input reads as it did. -/
def ropeHoldsUptoRow : OpenClaim := { program := "ytffcfnnbdmihaaadoor", sum := "0ab84aead8db556cd9d14c6bd9bfac3356b6890d998b07fe67af6256a33a7e57", func := "amanuensis/amanuensislaw1.RopeHolds", spec := "ropeHolds", inPlace := ["internal/reflectlite.ValueOf", "(internal/reflectlite.Value).Type", "(internal/reflectlite.Value).IsNil", "internal/reflectlite.TypeOf", "(internal/reflectlite.Value).Elem", "(internal/reflectlite.Value).Set"], unfollowed := true, recurses := true, named := ["errors.errorType"], apart := false, laid := [("errors.errorType", laid_errors_errorType)], narrowed := true }
def RopeHoldsUptoSaid : Prop := ropeHoldsUptoRow.holds Tryd.pinned (OpenSpec.upto ropeHoldsSpec)

/-- 'amanuensislaw1.EditApplies', WHERE WHAT IT READS IS OF BULK AT MOST 1048576: true; the input reads as it did. -/
def editAppliesUptoRow : OpenClaim := { program := "ytffcfnnbdmihaaadoor", sum := "0ab84aead8db556cd9d14c6bd9bfac3356b6890d998b07fe67af6256a33a7e57", func := "amanuensis/amanuensislaw1.EditApplies", spec := "editApplies", inPlace := ["internal/reflectlite.ValueOf", "(internal/reflectlite.Value).Type", "(internal/reflectlite.Value).IsNil", "internal/reflectlite.TypeOf", "(internal/reflectlite.Value).Elem", "(internal/reflectlite.Value).Set", "internal/abi.NoEscape"], unfollowed := true, recurses := true, named := ["errors.errorType"], apart := false, laid := [("errors.errorType", laid_errors_errorType)], narrowed := true }
def EditAppliesUptoSaid : Prop := editAppliesUptoRow.holds Tryd.pinned (OpenSpec.upto editAppliesSpec)

/-- 'amanuensislaw1.EditMerges', WHERE WHAT IT READS IS OF BULK AT MOST 1048576: true; the input reads as it did. -/
def editMergesUptoRow : OpenClaim := { program := "ytffcfnnbdmihaaadoor", sum := "0ab84aead8db556cd9d14c6bd9bfac3356b6890d998b07fe67af6256a33a7e57", func := "amanuensis/amanuensislaw1.EditMerges", spec := "editMerges", inPlace := ["internal/reflectlite.ValueOf", "(internal/reflectlite.Value).Type", "(internal/reflectlite.Value).IsNil", "internal/reflectlite.TypeOf", "(internal/reflectlite.Value).Elem", "(internal/reflectlite.Value).Set"], unfollowed := true, recurses := true, named := ["errors.errorType"], apart := false, laid := [("errors.errorType", laid_errors_errorType)], narrowed := true }
def EditMergesUptoSaid : Prop := editMergesUptoRow.holds Tryd.pinned (OpenSpec.upto editMergesSpec)

/-- 'amanuensislaw1.UndoPlays', WHERE WHAT IT READS IS OF BULK AT MOST 1048576: true; the input reads as it did. -/
def undoPlaysUptoRow : OpenClaim := { program := "ytffcfnnbdmihaaadoor", sum := "0ab84aead8db556cd9d14c6bd9bfac3356b6890d998b07fe67af6256a33a7e57", func := "amanuensis/amanuensislaw1.UndoPlays", spec := "undoPlays", inPlace := ["internal/abi.NoEscape", "internal/reflectlite.ValueOf", "(internal/reflectlite.Value).Type", "(internal/reflectlite.Value).IsNil", "internal/reflectlite.TypeOf", "(internal/reflectlite.Value).Elem", "(internal/reflectlite.Value).Set"], unfollowed := true, recurses := true, named := ["errors.errorType"], apart := false, laid := [("errors.errorType", laid_errors_errorType)], narrowed := true }
def UndoPlaysUptoSaid : Prop := undoPlaysUptoRow.holds Tryd.pinned (OpenSpec.upto undoPlaysSpec)

/-- 'amanuensislaw1.EditComposes', WHERE WHAT IT READS IS OF BULK AT MOST 1048576: true; the input reads as it did. -/
def editComposesUptoRow : OpenClaim := { program := "ytffcfnnbdmihaaadoor", sum := "0ab84aead8db556cd9d14c6bd9bfac3356b6890d998b07fe67af6256a33a7e57", func := "amanuensis/amanuensislaw1.EditComposes", spec := "editComposes", inPlace := ["internal/reflectlite.ValueOf", "(internal/reflectlite.Value).Type", "(internal/reflectlite.Value).IsNil", "internal/reflectlite.TypeOf", "(internal/reflectlite.Value).Elem", "(internal/reflectlite.Value).Set"], unfollowed := true, recurses := true, named := ["errors.errorType"], apart := false, laid := [("errors.errorType", laid_errors_errorType)], narrowed := true }
def EditComposesUptoSaid : Prop := editComposesUptoRow.holds Tryd.pinned (OpenSpec.upto editComposesSpec)

end Rows
end Go.Proofs.YtffcfnnbdmihaaaDoor
