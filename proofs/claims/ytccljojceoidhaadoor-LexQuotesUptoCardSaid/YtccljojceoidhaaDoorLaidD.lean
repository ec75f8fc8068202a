/-
  WHAT THE ROW's LIST GIVES A WALK: the table of trailing zeros.
-/
import Derived.Test.YtccljojceoidhaaDoorLaidL
import Derived.Test.YtccljojceoidhaaDoorVF
namespace Go.Proofs.YtccljojceoidhaaDoor
open Go.ChangeShapes Go.WideShapes Go.RowKit

namespace laidW
def dbTab : List Int := [0, 1, 56, 2, 57, 49, 28, 3, 61, 58, 42, 50, 38, 29, 17, 4, 62, 47, 59, 36, 45, 43, 51, 22, 53, 39, 33, 30, 24, 18, 12, 5, 63, 55, 48, 27, 60, 41, 37, 16, 46, 35, 44, 21, 52, 32, 23, 11, 54, 26, 40, 15, 34, 20, 31, 10, 25, 14, 19, 9, 13, 8, 7, 6]
theorem db_eq : (Rows.laid_math_bits_deBruijn64tab : DataW Unit) = Lib.tabData .u8 dbTab := by kernel_rfl
theorem gD : Tryd.prog.globalNamed "math/bits.deBruijn64tab" = some 9 := by kernel_rfl
theorem db_of {l : List (String × DataW Unit)} {W : World} (h : laidMet Tryd.prog l W) (h1 : ("math/bits.deBruijn64tab", Rows.laid_math_bits_deBruijn64tab) ∈ l) : DB W := by
  obtain ⟨g, t, cs, fuel, p, e1, e2, e3, e4⟩ := Lib.laidMet.reads h h1
  obtain rfl := Option.some.inj (gD.symm.trans e1)
  have e5 : (Tryd.prog.globals[9]?).map (·.type) = some 208 := by kernel_rfl
  obtain rfl := Option.some.inj (e5.symm.trans e2)
  rw [db_eq] at e4
  have hc := Lib.cells_of_tab (n := 64) Tryd.underlying208 Tryd.underlying5 (by kernel_rfl) (by kernel_rfl) e4
  show W.cell? _ = _
  rw [World.var?_cell gD e3 15, ← Array.getElem?_toList, hc]
  rfl
end laidW
end Go.Proofs.YtccljojceoidhaaDoor
