/-
  JOINED of the texts OpenT LaidW LaidF
-/
import Derived.Test.YtgpjcjnimheglaaGreatDoorWF
import Derived.ProofKit
import Derived.OpenShut
import Derived.JoinedCond
import Derived.Deep.Slices
import Derived.Deep.Fields
import Derived.ChangeSame
import Derived.SliceStrings
import Derived.PinnedBridge
import Derived.Lib.LaidU8
import Derived.Lib.LaidIn
import Derived.RowKitTokens
import Derived.LaidLaws
import Derived.Stop.Joined
import Derived.Stop.LaidErr
import Derived.Shelf.Vars
import Derived.Test.YtgpjcjnimheglaaGreatDoorJE
import Derived.LaidHandle
/-
  ARGUMENTS OF TYPE []string AND []int, OPENED: what they read as; the bound of the second form bounds their number and their bytes.
-/
namespace Go.Proofs.YtgpjcjnimheglaaGreatDoor
open Go.RowKit Go.ChangeShapes Go.WideShapes Go.Deep

namespace bulks
theorem one_le {H : Type} (d : DataW H) : 1 ≤ Rows.uptoBulk d := by
  cases d with
  | lit l => cases l <;> simp [Rows.uptoBulk]
  | nil => simp [Rows.uptoBulk]
  | ptr d => simp [Rows.uptoBulk]
  | slice elems spare => simp [Rows.uptoBulk]
  | agg parts => simp [Rows.uptoBulk]
  | iface t d => simp [Rows.uptoBulk]
  | map entries => simp [Rows.uptoBulk]
  | held h => simp [Rows.uptoBulk]
theorem append {H : Type} (l r : List (DataW H)) : Rows.uptoBulkAll (l ++ r) = Rows.uptoBulkAll l + Rows.uptoBulkAll r := by
  induction l with
  | nil => simp [Rows.uptoBulkAll]
  | cons x l ih => simp only [List.cons_append, Rows.uptoBulkAll, ih]; omega
theorem bound {H : Type} {l : List (DataW H)} (hk : Rows.uptoSmall H l = true) : Rows.uptoBulkAll l ≤ 1048576 := of_decide_eq_true hk
theorem many {H : Type} : ∀ l : List (DataW H), l.length ≤ Rows.uptoBulkAll l
  | [] => by simp [Rows.uptoBulkAll]
  | d :: l => by have := many l; have := one_le d; simp only [Rows.uptoBulkAll, List.length_cons]; omega
theorem strs {H : Type} : ∀ l : List ByteArray, l.length + (l.map fun s => s.data.toList.length).sum ≤ Rows.uptoBulkAll (Go.ChangeShapes.strs (H := H) l)
  | [] => by simp [Go.ChangeShapes.strs, Rows.uptoBulkAll]
  | s :: l => by
    have := strs (H := H) l
    simp only [Go.ChangeShapes.strs, List.map_cons, Rows.uptoBulkAll, Rows.uptoBulk, List.length_cons, List.sum_cons] at *
    omega
end bulks

theorem add_cells {w : World} {a : Addr} {k : Nat} {u : Value} (h : w.cell? (a.add k) = some u) : w.cell? ⟨a.block, a.off + k, none⟩ = some u := by
  unfold Addr.add at h
  by_cases hk : k = 0
  · subst hk
    simp only [if_true, Nat.add_zero] at h ⊢
    unfold World.cell? at h ⊢
    split at h
    · rename_i hh
      rw [hh]
      by_cases hs : a.spot.isSome = true
      · simp [hs] at h
      · simpa [hs] using h
    · cases h
  · rw [if_neg hk] at h; exact h

theorem spot_none {w : World} {a : Addr} {k : Nat} {u : Value} (h : w.cell? (a.add k) = some u) (hk : k = 0) : a = ⟨a.block, a.off, none⟩ := by
  subst hk
  unfold Addr.add at h
  simp only [if_true] at h
  obtain ⟨b, o, s⟩ := a
  unfold World.cell? at h
  split at h
  · cases s with
    | none => rfl
    | some _ => simp at h
  · cases h

set_option maxRecDepth 100000 in
theorem open_ints' {H : Type} {enc : TypeId × Value → H} {w : World} {base : Nat} {spare : Nat → Bool} {held : Bool} {b0 : Nat} {v : Value} {d : DataW H} {p : List MemPlace}
    (hv : Value.okWide Tryz.prog w .any b0 130 v) (h : DataW.Trod enc Tryz.prog w base spare held 130 v d p) :
    ∃ (A : Option Addr) (c : Nat) (l : List Int), v = .slice A l.length c ∧ Rd w w.heap.size 1 A l.length (intV l) ∧ l.length + 1 ≤ Rows.uptoBulk d := by
  obtain ⟨A, len, cap, rfl⟩ := okWide_slice Tryz.underlying130 hv
  obtain ⟨fuel, hf⟩ := h
  rcases Go.ChangeShapes.open_ints Tryz.underlying130 Tryz.underlying3 (by kernel_rfl) hf with ⟨hcs, hx⟩ | ⟨a, len', cap', zs, hcs, hbs, hl, hm, hzl, hx, hcell, hwf⟩
  · simp only [Value.cells, List.cons.injEq, Value.slice.injEq, and_true] at hcs
    obtain ⟨rfl, rfl, rfl⟩ := hcs
    exact ⟨none, 0, [], rfl, Rd.none_, by have := bulks.one_le d; simpa using this⟩
  · simp only [Value.cells, List.cons.injEq, Value.slice.injEq, and_true] at hcs
    obtain ⟨rfl, rfl, rfl⟩ := hcs
    have hlz : len ≤ zs.length := by rw [hzl]; split <;> omega
    have htl : (zs.take len).length = len := by simp; omega
    refine ⟨some a, cap, zs.take len, by rw [htl], ⟨by simp [intV], fun hn => ?_⟩, ?_⟩
    · rw [htl] at hn
      have h0 := hcell 0 (by omega)
      refine ⟨a.block, a.off, by rw [← spot_none h0 rfl], World.block_lt_of_cell? w ⟨a.block, _, none⟩ (add_cells h0), fun j u hu => ?_⟩
      have hj : j < len := by
        have := (List.getElem?_eq_some_iff.1 hu).1
        simp [intV] at this
        omega
      have h1 := add_cells (hcell j (by omega))
      rw [h1, ← hu]
      unfold intV
      rw [List.getElem?_map, List.getElem?_take, if_pos hj, List.getD_eq_getElem?_getD, List.getElem?_eq_getElem (by omega)]; rfl
    · simp only [Prod.mk.injEq] at hx
      rw [hx.1, htl]
      have := bulks.many (lits .i64 (zs.take len) : List (DataW H))
      have e : (lits .i64 (zs.take len) : List (DataW H)).length = len := by simp [lits]; omega
      rw [e] at this
      simp only [Rows.uptoBulk]
      omega

set_option maxRecDepth 100000 in
theorem open_texts_at {H : Type} {enc : TypeId × Value → H} {w : World} {base : Nat} {spare : Nat → Bool} {held : Bool} {fuel : Nat} {v : Value} {d : DataW H} {p : List MemPlace}
    (hf : DataW.trod enc Tryz.prog w base spare held fuel 67 [v] = some (d, p)) :
    ∃ (A : Option Addr) (c : Nat) (l : List Bs), v = .slice A l.length c ∧ Rd w w.heap.size 1 A l.length (txtV l) ∧ l.length + (l.map List.length).sum + 1 ≤ Rows.uptoBulk d := by
  rcases open_strings Tryz.underlying67 Tryz.underlying9 (by kernel_rfl) hf with ⟨hcs, hx⟩ | ⟨a, len, cap, ss, hcs, hbs, hl, hm, hzl, hx, hcell, _⟩
  · simp only [List.cons.injEq, and_true] at hcs
    subst hcs
    exact ⟨none, 0, [], rfl, Rd.none_, by have := bulks.one_le d; simpa using this⟩
  · simp only [List.cons.injEq, and_true] at hcs
    subst hcs
    have hlz : len ≤ ss.length := by rw [hzl]; split <;> omega
    have htl : ((ss.take len).map fun s => s.data.toList).length = len := by simp; omega
    refine ⟨some a, cap, (ss.take len).map fun s => s.data.toList, by rw [htl], ⟨by simp [txtV], fun hn => ?_⟩, ?_⟩
    · rw [htl] at hn
      have h0 := hcell 0 (by omega)
      refine ⟨a.block, a.off, by rw [← spot_none h0 rfl], World.block_lt_of_cell? w ⟨a.block, _, none⟩ (add_cells h0), fun j u hu => ?_⟩
      have hj : j < len := by
        have := (List.getElem?_eq_some_iff.1 hu).1
        simp [txtV] at this
        omega
      have h1 := add_cells (hcell j (by omega))
      rw [h1, ← hu]
      unfold txtV strV
      rw [List.getElem?_map, List.getElem?_map, List.getElem?_take, if_pos hj, List.getD_eq_getElem?_getD, List.getElem?_eq_getElem (by omega)]
      simp only [Option.map_some, Option.getD_some, Lib.mk_data]
    · simp only [Prod.mk.injEq] at hx
      rw [hx.1, htl]
      have := bulks.strs (H := H) (ss.take len)
      simp only [List.length_take, List.map_map] at this ⊢
      have e : (List.length ∘ fun s : ByteArray => s.data.toList) = fun s : ByteArray => s.data.toList.length := rfl
      rw [e]
      simp only [Rows.uptoBulk]
      omega
set_option maxRecDepth 100000 in
theorem open_texts {H : Type} {enc : TypeId × Value → H} {w : World} {base : Nat} {spare : Nat → Bool} {held : Bool} {b0 : Nat} {v : Value} {d : DataW H} {p : List MemPlace}
    (hv : Value.okWide Tryz.prog w .any b0 67 v) (h : DataW.Trod enc Tryz.prog w base spare held 67 v d p) :
    ∃ (A : Option Addr) (c : Nat) (l : List Bs), v = .slice A l.length c ∧ Rd w w.heap.size 1 A l.length (txtV l) ∧ l.length + (l.map List.length).sum + 1 ≤ Rows.uptoBulk d := by
  obtain ⟨A, len, cap, rfl⟩ := okWide_slice Tryz.underlying67 hv
  obtain ⟨fuel, hf⟩ := h
  exact open_texts_at hf
end Go.Proofs.YtgpjcjnimheglaaGreatDoor
/-
  WHAT THE ROW's LIST (the tables and errors that package strconv reads) GIVES A WALK; a world that meets it.
-/
namespace Go.Proofs.YtgpjcjnimheglaaGreatDoor
open Go.ChangeShapes Go.WideShapes Go.RowKit

theorem maxL_of {W : World} (h : W.ShapedOpen Tryz.prog) : ∃ m, MaxL W m :=
  Go.Proofs.cell_of_shapedOpen_int (zero := #[.int .i64 0]) (t := 3) h (by decide) (by kernel_rfl) rfl (by kernel_rfl) (by kernel_rfl) Tryz.underlying3

namespace laidW
theorem acc_eq : Rows.laid_unicode_utf8_acceptRanges = Lib.acceptData := by kernel_rfl
theorem first_eq : Rows.laid_unicode_utf8_first = Lib.firstData := Pinned.utf8First_eq
theorem pow_eq : (Rows.laid_internal_strconv_uint64pow10 : DataW Unit) = Lib.tabData .u64 Lib.pow10Tab := by kernel_rfl
theorem tab10_of {l : List (String × DataW Unit)} {W : World} (h : laidMet Tryz.prog (("internal/strconv.uint64pow10", Rows.laid_internal_strconv_uint64pow10) :: l) W) : Tab10 W := by
  rw [pow_eq] at h
  exact Lib.tabIs_of_head (n := 20) g10 (t := 287) (e := 245) (by kernel_rfl) Tryz.underlying287 Tryz.underlying245 (by kernel_rfl) (by kernel_rfl) h

abbrev frameList : List (String × DataW Unit) := [("math/bits.deBruijn32tab", Rows.laid_math_bits_deBruijn32tab), ("math/bits.deBruijn64tab", Rows.laid_math_bits_deBruijn64tab), ("internal/strconv.uint64pow10", Rows.laid_internal_strconv_uint64pow10), ("unicode/utf8.acceptRanges", Rows.laid_unicode_utf8_acceptRanges), ("strconv.ErrRange", Rows.laid_strconv_ErrRange), ("strconv.ErrSyntax", Rows.laid_strconv_ErrSyntax), ("unicode/utf8.first", Rows.laid_unicode_utf8_first)]
theorem frame_of {W : World} (h : laidMetH Tryz.prog frameList W) : Tab10 W :=
  tab10_of (laidMet.tail (laidMet.tail (show laidMet Tryz.prog frameList W from h)))

/-- the cells of an array of integers -/
def litV : DataW Unit → List Value
  | .agg ds => ds.map fun
    | .lit (.int k z) => .int k z
    | _ => .bool false
  | _ => []
/-- A world that meets the condition: the settled one, the variables' cells laid, the errors' blocks behind. -/
noncomputable def frameWorld (os : Os) : World :=
  let w0 := World.holding Tryz.prog os ⟨#[], #[], []⟩
  let put (h : Array Obj) (g : Nat) (cs : Array Value) : Array Obj := h.modify g fun
    | .cells _ t frozen => .cells cs t frozen
    | o => o
  let h1 := put w0.heap 2 (Lib.firstTab.map fun z => Value.int .u8 z).toArray
  let h2 := put h1 3 ((List.range 16).flatMap fun i => [Value.int .u8 (Lib.accLo i), Value.int .u8 (Lib.accHi i)]).toArray
  let h3 := put h2 8 (litV Rows.laid_math_bits_deBruijn32tab).toArray
  let h4 := put h3 9 (litV Rows.laid_math_bits_deBruijn64tab).toArray
  let h5 := put h4 7 (litV Rows.laid_internal_strconv_uint64pow10).toArray
  let n := h5.size
  let h6 := h5.push (.cells #[.string ⟨#[118, 97, 108, 117, 101, 32, 111, 117, 116, 32, 111, 102, 32, 114, 97, 110, 103, 101]⟩] 276)
  let h7 := h6.push (.cells #[.string ⟨#[105, 110, 118, 97, 108, 105, 100, 32, 115, 121, 110, 116, 97, 120]⟩] 276)
  let h8 := put h7 6 #[.iface 274 (.pointer (some ⟨n, 0, none⟩))]
  let h9 := put h8 5 #[.iface 274 (.pointer (some ⟨n + 1, 0, none⟩))]
  { w0 with heap := h9 }
set_option maxRecDepth 100000 in
theorem frame_met (os : Os) (args : Array Value) : laidMetH Tryz.prog frameList ((frameWorld os).forCall (fun _ _ => 0) ⟨#[], args, []⟩).memory := by
  unfold frameList
  rw [acc_eq, first_eq]
  exact (LaidIn.of_run (l := [("math/bits.deBruijn32tab", Rows.laid_math_bits_deBruijn32tab), ("math/bits.deBruijn64tab", Rows.laid_math_bits_deBruijn64tab), ("internal/strconv.uint64pow10", Rows.laid_internal_strconv_uint64pow10), ("unicode/utf8.acceptRanges", Lib.acceptData), ("strconv.ErrRange", Rows.laid_strconv_ErrRange), ("strconv.ErrSyntax", Rows.laid_strconv_ErrSyntax), ("unicode/utf8.first", Lib.firstData)]) (List.range 40) 8 (by kernel_rfl) (by kernel_rfl) (by kernel_rfl) (by kernel_rfl)).met
end laidW
end Go.Proofs.YtgpjcjnimheglaaGreatDoor
/-
  WHAT THE ROW's LIST of WireFeeds GIVES A WALK: as LaidW, and errors.errorType; a world that meets it.
-/
namespace Go.Proofs.YtgpjcjnimheglaaGreatDoor
open Go.ChangeShapes Go.WideShapes Go.RowKit

namespace laidW
theorem et : Tryz.prog.globalNamed "errors.errorType" = some 0 := by kernel_rfl
theorem rt : (Tryz.prog.cutTypes.find? (·.1 == "internal/reflectlite.rtype")).map (·.2) = some 208 := by kernel_rfl
theorem oneRow : ((List.range 319).filter fun t => Tryz.prog.rowNamed t [101, 114, 114, 111, 114]) = [28] := by kernel_rfl
theorem tsize : Tryz.prog.types.size = 319 := by kernel_rfl
theorem errT_of {W : World} (h : handlesMet Tryz.prog [("errors.errorType", Rows.laid_errors_errorType)] W) : ErrT W := by
  obtain ⟨name, u, ty, e1, e2, e3, e4, e5⟩ := h _ (List.mem_singleton.2 rfl)
  have en : name = [101, 114, 114, 111, 114] := (Option.some.inj e1).symm
  subst en
  obtain rfl := Option.some.inj (rt.symm.trans e2)
  have hm : ty ∈ (List.range 319).filter fun t => Tryz.prog.rowNamed t [101, 114, 114, 111, 114] := List.mem_filter.2 ⟨List.mem_range.2 (by rw [← tsize]; exact e3), e4⟩
  rw [oneRow] at hm
  obtain rfl := List.mem_singleton.1 hm
  have hh : typeHandle Tryz.prog 28 = .pointer (some ⟨10, 28, none⟩) := by kernel_rfl
  rw [hh] at e5
  unfold ErrT
  simpa using World.var?_cell et e5 0

abbrev feedsList : List (String × DataW Unit) := [("math/bits.deBruijn32tab", Rows.laid_math_bits_deBruijn32tab), ("math/bits.deBruijn64tab", Rows.laid_math_bits_deBruijn64tab), ("internal/strconv.uint64pow10", Rows.laid_internal_strconv_uint64pow10), ("unicode/utf8.acceptRanges", Rows.laid_unicode_utf8_acceptRanges), ("errors.errorType", Rows.laid_errors_errorType), ("strconv.ErrRange", Rows.laid_strconv_ErrRange), ("strconv.ErrSyntax", Rows.laid_strconv_ErrSyntax), ("unicode/utf8.first", Rows.laid_unicode_utf8_first)]
theorem feeds_of {W : World} (h : laidMetH Tryz.prog feedsList W) : ErrT W :=
  errT_of (show laidMet Tryz.prog frameList W ∧ handlesMet Tryz.prog [("errors.errorType", Rows.laid_errors_errorType)] W from h).2
/-- A world that meets the condition. -/
noncomputable def feedsWorld (os : Os) : World :=
  let w0 := frameWorld os
  { w0 with heap := w0.heap.modify 0 fun
      | .cells _ t frozen => .cells #[.iface 208 (.agg #[.pointer (some ⟨10, 28, none⟩)])] t frozen
      | o => o }
set_option maxRecDepth 100000 in
theorem feeds_met0 (os : Os) (args : Array Value) : laidMet Tryz.prog frameList ((feedsWorld os).forCall (fun _ _ => 0) ⟨#[], args, []⟩).memory := by
  unfold frameList
  rw [acc_eq, first_eq]
  exact (LaidIn.of_run (l := [("math/bits.deBruijn32tab", Rows.laid_math_bits_deBruijn32tab), ("math/bits.deBruijn64tab", Rows.laid_math_bits_deBruijn64tab), ("internal/strconv.uint64pow10", Rows.laid_internal_strconv_uint64pow10), ("unicode/utf8.acceptRanges", Lib.acceptData), ("strconv.ErrRange", Rows.laid_strconv_ErrRange), ("strconv.ErrSyntax", Rows.laid_strconv_ErrSyntax), ("unicode/utf8.first", Lib.firstData)]) (List.range 40) 8 (by kernel_rfl) (by kernel_rfl) (by kernel_rfl) (by kernel_rfl)).met
theorem feeds_met (os : Os) (args : Array Value) : laidMetH Tryz.prog feedsList ((feedsWorld os).forCall (fun _ _ => 0) ⟨#[], args, []⟩).memory :=
  laidMetH_of_parts (show laidMet Tryz.prog frameList _ from feeds_met0 os args) (by kernel_rfl)
end laidW
end Go.Proofs.YtgpjcjnimheglaaGreatDoor
