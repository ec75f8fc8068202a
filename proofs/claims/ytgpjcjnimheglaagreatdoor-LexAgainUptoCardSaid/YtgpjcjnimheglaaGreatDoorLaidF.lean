/-
  WHAT THE ROW's LIST of WireFeeds GIVES A WALK: as LaidW, and errors.errorType; a world that meets it.
-/
import Derived.Test.YtgpjcjnimheglaaGreatDoorLaidW
import Derived.Test.YtgpjcjnimheglaaGreatDoorToldQ
import Derived.LaidHandle
namespace Go.Proofs.YtgpjcjnimheglaaGreatDoor
open Go.ChangeShapes Go.WideShapes Go.RowKit

namespace laidW
theorem et : Tryz.prog.globalNamed "errors.errorType" = some 0 := by kernel_rfl
theorem rt : (Tryz.prog.cutTypes.find? (·.1 == "internal/reflectlite.rtype")).map (·.2) = some 208 := by kernel_rfl
theorem oneRow : ((List.range 319).filter fun t => Tryz.prog.rowNamed t [101, 114, 114, 111, 114]) = [28] := by kernel_rfl
theorem tsize : Tryz.prog.types.size = 319 := by kernel_rfl
theorem errT_of {W : World} (h : handlesMet Tryz.prog [("errors.errorType", Rows.laid_errors_errorType)] W) : ErrT W := by
  obtain ⟨name, u, ty, e1, e2, e3, e4, e5⟩ := h _ (List.mem_singleton.2 rfl)
  have en : name = [101, 114, 114, 111, 114] := (Option.some.inj e1).symm
  subst en
  obtain rfl := Option.some.inj (rt.symm.trans e2)
  have hm : ty ∈ (List.range 319).filter fun t => Tryz.prog.rowNamed t [101, 114, 114, 111, 114] := List.mem_filter.2 ⟨List.mem_range.2 (by rw [← tsize]; exact e3), e4⟩
  rw [oneRow] at hm
  obtain rfl := List.mem_singleton.1 hm
  have hh : typeHandle Tryz.prog 28 = .pointer (some ⟨10, 28, none⟩) := by kernel_rfl
  rw [hh] at e5
  unfold ErrT
  simpa using World.var?_cell et e5 0

abbrev feedsList : List (String × DataW Unit) := [("math/bits.deBruijn32tab", Rows.laid_math_bits_deBruijn32tab), ("math/bits.deBruijn64tab", Rows.laid_math_bits_deBruijn64tab), ("internal/strconv.uint64pow10", Rows.laid_internal_strconv_uint64pow10), ("unicode/utf8.acceptRanges", Rows.laid_unicode_utf8_acceptRanges), ("errors.errorType", Rows.laid_errors_errorType), ("strconv.ErrRange", Rows.laid_strconv_ErrRange), ("strconv.ErrSyntax", Rows.laid_strconv_ErrSyntax), ("unicode/utf8.first", Rows.laid_unicode_utf8_first)]
theorem feeds_of {W : World} (h : laidMetH Tryz.prog feedsList W) : ErrT W :=
  errT_of (show laidMet Tryz.prog frameList W ∧ handlesMet Tryz.prog [("errors.errorType", Rows.laid_errors_errorType)] W from h).2
/-- A world that meets the condition. -/
noncomputable def feedsWorld (os : Os) : World :=
  let w0 := frameWorld os
  { w0 with heap := w0.heap.modify 0 fun
      | .cells _ t frozen => .cells #[.iface 208 (.agg #[.pointer (some ⟨10, 28, none⟩)])] t frozen
      | o => o }
set_option maxRecDepth 100000 in
theorem feeds_met0 (os : Os) (args : Array Value) : laidMet Tryz.prog frameList ((feedsWorld os).forCall (fun _ _ => 0) ⟨#[], args, []⟩).memory := by
  unfold frameList
  rw [acc_eq, first_eq]
  exact (LaidIn.of_run (l := [("math/bits.deBruijn32tab", Rows.laid_math_bits_deBruijn32tab), ("math/bits.deBruijn64tab", Rows.laid_math_bits_deBruijn64tab), ("internal/strconv.uint64pow10", Rows.laid_internal_strconv_uint64pow10), ("unicode/utf8.acceptRanges", Lib.acceptData), ("strconv.ErrRange", Rows.laid_strconv_ErrRange), ("strconv.ErrSyntax", Rows.laid_strconv_ErrSyntax), ("unicode/utf8.first", Lib.firstData)]) (List.range 40) 8 (by kernel_rfl) (by kernel_rfl) (by kernel_rfl) (by kernel_rfl)).met
theorem feeds_met (os : Os) (args : Array Value) : laidMetH Tryz.prog feedsList ((feedsWorld os).forCall (fun _ _ => 0) ⟨#[], args, []⟩).memory :=
  laidMetH_of_parts (show laidMet Tryz.prog frameList _ from feeds_met0 os args) (by kernel_rfl)
end laidW
end Go.Proofs.YtgpjcjnimheglaaGreatDoor
