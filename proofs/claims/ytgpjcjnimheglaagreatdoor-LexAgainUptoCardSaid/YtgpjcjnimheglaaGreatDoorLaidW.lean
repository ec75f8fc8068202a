/-
  WHAT THE ROW's LIST (the tables and errors that package strconv reads) GIVES A WALK; a world that meets it.
-/
import Derived.Test.YtgpjcjnimheglaaGreatDoorWF
import Derived.PinnedBridge
import Derived.Lib.LaidU8
import Derived.Lib.LaidIn
import Derived.RowKitTokens
import Derived.LaidLaws
import Derived.Stop.Joined
import Derived.Stop.LaidErr
import Derived.Shelf.Vars
namespace Go.Proofs.YtgpjcjnimheglaaGreatDoor
open Go.ChangeShapes Go.WideShapes Go.RowKit

theorem maxL_of {W : World} (h : W.ShapedOpen Tryz.prog) : ∃ m, MaxL W m :=
  Go.Proofs.cell_of_shapedOpen_int (zero := #[.int .i64 0]) (t := 3) h (by decide) (by kernel_rfl) rfl (by kernel_rfl) (by kernel_rfl) Tryz.underlying3

namespace laidW
theorem acc_eq : Rows.laid_unicode_utf8_acceptRanges = Lib.acceptData := by kernel_rfl
theorem first_eq : Rows.laid_unicode_utf8_first = Lib.firstData := Pinned.utf8First_eq
theorem pow_eq : (Rows.laid_internal_strconv_uint64pow10 : DataW Unit) = Lib.tabData .u64 Lib.pow10Tab := by kernel_rfl
theorem tab10_of {l : List (String × DataW Unit)} {W : World} (h : laidMet Tryz.prog (("internal/strconv.uint64pow10", Rows.laid_internal_strconv_uint64pow10) :: l) W) : Tab10 W := by
  rw [pow_eq] at h
  exact Lib.tabIs_of_head (n := 20) g10 (t := 287) (e := 245) (by kernel_rfl) Tryz.underlying287 Tryz.underlying245 (by kernel_rfl) (by kernel_rfl) h

abbrev frameList : List (String × DataW Unit) := [("math/bits.deBruijn32tab", Rows.laid_math_bits_deBruijn32tab), ("math/bits.deBruijn64tab", Rows.laid_math_bits_deBruijn64tab), ("internal/strconv.uint64pow10", Rows.laid_internal_strconv_uint64pow10), ("unicode/utf8.acceptRanges", Rows.laid_unicode_utf8_acceptRanges), ("strconv.ErrRange", Rows.laid_strconv_ErrRange), ("strconv.ErrSyntax", Rows.laid_strconv_ErrSyntax), ("unicode/utf8.first", Rows.laid_unicode_utf8_first)]
theorem frame_of {W : World} (h : laidMetH Tryz.prog frameList W) : Tab10 W :=
  tab10_of (laidMet.tail (laidMet.tail (show laidMet Tryz.prog frameList W from h)))

/-- the cells of an array of integers -/
def litV : DataW Unit → List Value
  | .agg ds => ds.map fun
    | .lit (.int k z) => .int k z
    | _ => .bool false
  | _ => []
/-- A world that meets the condition: the settled one, the variables' cells laid, the errors' blocks behind. -/
noncomputable def frameWorld (os : Os) : World :=
  let w0 := World.holding Tryz.prog os ⟨#[], #[], []⟩
  let put (h : Array Obj) (g : Nat) (cs : Array Value) : Array Obj := h.modify g fun
    | .cells _ t frozen => .cells cs t frozen
    | o => o
  let h1 := put w0.heap 2 (Lib.firstTab.map fun z => Value.int .u8 z).toArray
  let h2 := put h1 3 ((List.range 16).flatMap fun i => [Value.int .u8 (Lib.accLo i), Value.int .u8 (Lib.accHi i)]).toArray
  let h3 := put h2 8 (litV Rows.laid_math_bits_deBruijn32tab).toArray
  let h4 := put h3 9 (litV Rows.laid_math_bits_deBruijn64tab).toArray
  let h5 := put h4 7 (litV Rows.laid_internal_strconv_uint64pow10).toArray
  let n := h5.size
  let h6 := h5.push (.cells #[.string ⟨#[118, 97, 108, 117, 101, 32, 111, 117, 116, 32, 111, 102, 32, 114, 97, 110, 103, 101]⟩] 276)
  let h7 := h6.push (.cells #[.string ⟨#[105, 110, 118, 97, 108, 105, 100, 32, 115, 121, 110, 116, 97, 120]⟩] 276)
  let h8 := put h7 6 #[.iface 274 (.pointer (some ⟨n, 0, none⟩))]
  let h9 := put h8 5 #[.iface 274 (.pointer (some ⟨n + 1, 0, none⟩))]
  { w0 with heap := h9 }
set_option maxRecDepth 100000 in
theorem frame_met (os : Os) (args : Array Value) : laidMetH Tryz.prog frameList ((frameWorld os).forCall (fun _ _ => 0) ⟨#[], args, []⟩).memory := by
  unfold frameList
  rw [acc_eq, first_eq]
  exact (LaidIn.of_run (l := [("math/bits.deBruijn32tab", Rows.laid_math_bits_deBruijn32tab), ("math/bits.deBruijn64tab", Rows.laid_math_bits_deBruijn64tab), ("internal/strconv.uint64pow10", Rows.laid_internal_strconv_uint64pow10), ("unicode/utf8.acceptRanges", Lib.acceptData), ("strconv.ErrRange", Rows.laid_strconv_ErrRange), ("strconv.ErrSyntax", Rows.laid_strconv_ErrSyntax), ("unicode/utf8.first", Lib.firstData)]) (List.range 40) 8 (by kernel_rfl) (by kernel_rfl) (by kernel_rfl) (by kernel_rfl)).met
end laidW
end Go.Proofs.YtgpjcjnimheglaaGreatDoor
