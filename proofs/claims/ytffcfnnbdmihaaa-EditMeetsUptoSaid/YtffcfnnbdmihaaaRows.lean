/-
  No cell of these rows narrows 'for every input' (looked for: loops, veiled, ifaces, maps, wideKeys, modest, calm, conditions, laid).
  DERIVED. THE GIVEN ROWS OF THIS SEAT. 3 by the template 'for every input the law returns true; each argument reads behind the call as it read before'; 0 by the template 'total and deterministic' (their statements: YtffcfnnbdmihaaaTotals.lean).
  GIVEN WITH THE SEED: the statements are not yours to turn. If you find one false, say at which input.
  Laid BY PROGRAM, IN A SANDBOX (cutbox-rows.mjs): the forced cells as the released guide's own fill.sh prints them over the translation 9d298753e55163bb… (all of the seat's roots in one cut). By AI agents, Wed Nov 11 2026. No macro, syntax, notation, axiom, sorry.
-/
import Derived.Test.YtffcfnnbdmihaaaChecked
import GoSem.Claim
import GoSem.ClaimJoined
import GoSem.ClaimMapViews
import Derived.JoinedTies
import Derived.KernelRfl
namespace Go.Proofs.Ytffcfnnbdmihaaa
/- THE CELL 'sum', in the pinned program and in every row, IS THE sha256 OF THE DUMP (.gsa) THAT YtffcfnnbdmihaaaProg.lean LOADS. Nothing in Lean hashes anything: it is a label: what it is worth is what the hold of that sum in a sandbox is worth. -/
noncomputable def Try.pinned : Pinned := { name := "ytffcfnnbdmihaaa", sum := "9d298753e55163bb2d8283261d74d7f12d0b0a6b0a6f63e91a063a5642c40af1", checked := Try.checked }
namespace Rows
def none {H : Type} : Left H := { results := [], args := [] }

/-- 'amanuensislaw1.Names': WHATEVER THE INPUT: true; the input reads as it did. -/
def namesSpec : ChangeSpec := { name := "names", fn := fun _ => fun
  | [] => { results := [.lit (.bool true)], args := [] }
  | _ => none }
def namesRow : OpenClaim := { program := "ytffcfnnbdmihaaa", sum := "9d298753e55163bb2d8283261d74d7f12d0b0a6b0a6f63e91a063a5642c40af1", func := "amanuensis/amanuensislaw1.Names", spec := "names", apart := false }
def NamesSaid : Prop := namesRow.holds Try.pinned (OpenSpec.ofChange namesSpec)

/-- ITS FALSE NEIGHBOUR: 'it returns false'. Refute it at one input. -/
def namesWrong : ChangeSpec := { name := "names", fn := fun _ => fun
  | [] => { results := [.lit (.bool false)], args := [] }
  | _ => none }
def NamesWrongFalsely : Prop := namesRow.holds Try.pinned (OpenSpec.ofChange namesWrong)

/-- 'amanuensislaw1.UndoBack': WHATEVER THE INPUT: true; the input reads as it did. -/
def undoBackSpec : ChangeSpec := { name := "undoBack", fn := fun _ => fun
  | [d1, d2, d3] => { results := [.lit (.bool true)], args := [d1, d2, d3] }
  | _ => none }
def undoBackRow : OpenClaim := { program := "ytffcfnnbdmihaaa", sum := "9d298753e55163bb2d8283261d74d7f12d0b0a6b0a6f63e91a063a5642c40af1", func := "amanuensis/amanuensislaw1.UndoBack", spec := "undoBack", inPlace := ["internal/abi.NoEscape"], apart := false }
def UndoBackSaid : Prop := undoBackRow.holds Try.pinned (OpenSpec.ofChange undoBackSpec)

/-- ITS FALSE NEIGHBOUR: 'it returns false'. Refute it at one input. -/
def undoBackWrong : ChangeSpec := { name := "undoBack", fn := fun _ => fun
  | [d1, d2, d3] => { results := [.lit (.bool false)], args := [d1, d2, d3] }
  | _ => none }
def UndoBackWrongFalsely : Prop := undoBackRow.holds Try.pinned (OpenSpec.ofChange undoBackWrong)

/-- 'amanuensislaw1.EditMeets': WHATEVER THE INPUT: true; the input reads as it did. -/
def editMeetsSpec : ChangeSpec := { name := "editMeets", fn := fun _ => fun
  | [d1, d2, d3] => { results := [.lit (.bool true)], args := [d1, d2, d3] }
  | _ => none }
def editMeetsRow : OpenClaim := { program := "ytffcfnnbdmihaaa", sum := "9d298753e55163bb2d8283261d74d7f12d0b0a6b0a6f63e91a063a5642c40af1", func := "amanuensis/amanuensislaw1.EditMeets", spec := "editMeets", inPlace := ["internal/abi.NoEscape"], unfollowed := true, recurses := true, apart := false }
def EditMeetsSaid : Prop := editMeetsRow.holds Try.pinned (OpenSpec.ofChange editMeetsSpec)

/-- ITS FALSE NEIGHBOUR: 'it returns false'. Refute it at one input. -/
def editMeetsWrong : ChangeSpec := { name := "editMeets", fn := fun _ => fun
  | [d1, d2, d3] => { results := [.lit (.bool false)], args := [d1, d2, d3] }
  | _ => none }
def EditMeetsWrongFalsely : Prop := editMeetsRow.holds Try.pinned (OpenSpec.ofChange editMeetsWrong)

/- THE SECOND FORM. 'bulk': how many values and letters a reading holds, each counted each time it is reached (what is shared counts as often as it is met; a slice's spare places count too). A statement '..UptoSaid' is the law's where the arguments, and the package variables that the reading takes, are together of bulk at most 1048576: NARROWER than '..Said'. Prove '..Said' where nothing that the law and all that it calls make is longer than what came in: it says more and counts as full. Else prove '..UptoSaid'. A law counts once. -/
mutual
def uptoBulk {H : Type} : DataW H → Nat
  | .lit (.string bytes) => bytes.length + 1
  | .lit _ => 1
  | .nil => 1
  | .ptr d => uptoBulk d + 1
  | .slice elems spare => uptoBulkAll elems + uptoBulkAll spare + 1
  | .agg parts => uptoBulkAll parts + 1
  | .iface _ d => uptoBulk d + 1
  | .map entries => uptoBulkEntries entries + 1
  | .held _ => 1
def uptoBulkAll {H : Type} : List (DataW H) → Nat
  | [] => 0
  | d :: r => uptoBulk d + uptoBulkAll r
def uptoBulkEntries {H : Type} : List (Lit × DataW H) → Nat
  | [] => 0
  | x :: r => uptoBulkEntry x + uptoBulkEntries r
def uptoBulkEntry {H : Type} : Lit × DataW H → Nat
  | (.string bytes, d) => bytes.length + uptoBulk d + 1
  | (_, d) => uptoBulk d + 1
 end
def uptoSmall : (H : Type) → List (DataW H) → Bool := fun _ ds => decide (uptoBulkAll ds ≤ 1048576)
def OpenSpec.upto (s : _root_.Go.ChangeSpec) : _root_.Go.OpenSpec := { _root_.Go.OpenSpec.ofChange s with cond := some uptoSmall }

/-- 'amanuensislaw1.Names', WHERE WHAT IT READS IS OF BULK AT MOST 1048576: true; the input reads as it did. -/
def namesUptoRow : OpenClaim := { program := "ytffcfnnbdmihaaa", sum := "9d298753e55163bb2d8283261d74d7f12d0b0a6b0a6f63e91a063a5642c40af1", func := "amanuensis/amanuensislaw1.Names", spec := "names", apart := false, narrowed := true }
def NamesUptoSaid : Prop := namesUptoRow.holds Try.pinned (OpenSpec.upto namesSpec)

/-- 'amanuensislaw1.UndoBack', WHERE WHAT IT READS IS OF BULK AT MOST 1048576: true; the input reads as it did. -/
def undoBackUptoRow : OpenClaim := { program := "ytffcfnnbdmihaaa", sum := "9d298753e55163bb2d8283261d74d7f12d0b0a6b0a6f63e91a063a5642c40af1", func := "amanuensis/amanuensislaw1.UndoBack", spec := "undoBack", inPlace := ["internal/abi.NoEscape"], apart := false, narrowed := true }
def UndoBackUptoSaid : Prop := undoBackUptoRow.holds Try.pinned (OpenSpec.upto undoBackSpec)

/-- 'amanuensislaw1.EditMeets', WHERE WHAT IT READS IS OF BULK AT MOST 1048576: true; the input reads as it did. -/
def editMeetsUptoRow : OpenClaim := { program := "ytffcfnnbdmihaaa", sum := "9d298753e55163bb2d8283261d74d7f12d0b0a6b0a6f63e91a063a5642c40af1", func := "amanuensis/amanuensislaw1.EditMeets", spec := "editMeets", inPlace := ["internal/abi.NoEscape"], unfollowed := true, recurses := true, apart := false, narrowed := true }
def EditMeetsUptoSaid : Prop := editMeetsUptoRow.holds Try.pinned (OpenSpec.upto editMeetsSpec)

end Rows
end Go.Proofs.Ytffcfnnbdmihaaa
