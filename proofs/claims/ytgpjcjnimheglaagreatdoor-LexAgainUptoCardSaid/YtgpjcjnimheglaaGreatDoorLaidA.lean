/-
  WHAT THE ROW's LIST of LexAgain and of the laws of trees GIVES A WALK: as LaidL, and errors.errorType; a world that meets it.
-/
import Derived.Test.YtgpjcjnimheglaaGreatDoorLaidF
import Derived.Test.YtgpjcjnimheglaaGreatDoorLaidL
namespace Go.Proofs.YtgpjcjnimheglaaGreatDoor
open Go.ChangeShapes Go.WideShapes Go.RowKit

namespace laidW
abbrev againList : List (String × DataW Unit) := [("math/bits.deBruijn32tab", Rows.laid_math_bits_deBruijn32tab), ("math/bits.deBruijn64tab", Rows.laid_math_bits_deBruijn64tab), ("internal/strconv.uint64pow10", Rows.laid_internal_strconv_uint64pow10), ("unicode/utf8.acceptRanges", Rows.laid_unicode_utf8_acceptRanges), ("errors.errorType", Rows.laid_errors_errorType), ("strconv.ErrRange", Rows.laid_strconv_ErrRange), ("strconv.ErrSyntax", Rows.laid_strconv_ErrSyntax), ("amanuensis/lex.words", Rows.laid_amanuensis_lex_words), ("unicode/utf8.first", Rows.laid_unicode_utf8_first)]
theorem again_of {W : World} (h : laidMetH Tryz.prog againList W) : T8 W ∧ WordsIs W ∧ ErrT W := by
  have h' : laidMet Tryz.prog lexList W ∧ handlesMet Tryz.prog [("errors.errorType", Rows.laid_errors_errorType)] W := h
  exact ⟨t8_of h'.1 (by simp [lexList]) (by simp [lexList]), words_of h'.1 (by simp [lexList]), errT_of h'.2⟩
/-- A world that meets the condition. -/
noncomputable def againWorld (os : Os) : World :=
  let w0 := lexWorld os
  { w0 with heap := w0.heap.modify 0 fun
      | .cells _ t frozen => .cells #[.iface 208 (.agg #[.pointer (some ⟨10, 28, none⟩)])] t frozen
      | o => o }
set_option maxRecDepth 100000 in
theorem again_met0 (os : Os) (args : Array Value) : laidMet Tryz.prog lexList ((againWorld os).forCall (fun _ _ => 0) ⟨#[], args, []⟩).memory := by
  unfold lexList
  rw [acc_eq, first_eq]
  exact (LaidIn.of_run (l := [("math/bits.deBruijn32tab", Rows.laid_math_bits_deBruijn32tab), ("math/bits.deBruijn64tab", Rows.laid_math_bits_deBruijn64tab), ("internal/strconv.uint64pow10", Rows.laid_internal_strconv_uint64pow10), ("unicode/utf8.acceptRanges", Lib.acceptData), ("strconv.ErrRange", Rows.laid_strconv_ErrRange), ("strconv.ErrSyntax", Rows.laid_strconv_ErrSyntax), ("amanuensis/lex.words", Rows.laid_amanuensis_lex_words), ("unicode/utf8.first", Lib.firstData)]) (List.range 40) 8 (by kernel_rfl) (by kernel_rfl) (by kernel_rfl) (by kernel_rfl)).met
theorem again_met (os : Os) (args : Array Value) : laidMetH Tryz.prog againList ((againWorld os).forCall (fun _ _ => 0) ⟨#[], args, []⟩).memory :=
  laidMetH_of_parts (show laidMet Tryz.prog lexList _ from again_met0 os args) (by kernel_rfl)
end laidW
end Go.Proofs.YtgpjcjnimheglaaGreatDoor
