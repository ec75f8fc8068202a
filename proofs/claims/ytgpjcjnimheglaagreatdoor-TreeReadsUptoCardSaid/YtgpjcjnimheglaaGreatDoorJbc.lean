/-
  JOINED of the texts UO OpenT LaidW LaidL
-/
import Derived.Test.YtgpjcjnimheglaaGreatDoorJas
import Derived.Test.YtgpjcjnimheglaaGreatDoorJbb
import Derived.StillTailTactics
import Derived.Handy
import Derived.Deep.RegionHeld3
import Derived.Maps.OwnOps
import Derived.Carry
import Derived.Deep.CutBlock
import Derived.Deep.AppendLies
import Derived.Deep.QuietTactic
import Derived.BigQuiet
import Derived.Lib.RuneBytes
import Derived.Lib.Strings
import Derived.Deep.DeepCutAuto
import Derived.Lib.ConvBytes
import Derived.Laws.Strings3
import Derived.Laws.Closers25
import Derived.Laws.Closers25b
import Derived.BigCall
import Derived.BigGuard
import Derived.Test.YtgpjcjnimheglaaGreatDoorShelfX
import Derived.Shelf.Spec.BytesIndexFunc
import Derived.Lib.IndexMore
import Derived.Test.YtgpjcjnimheglaaGreatDoorRows
import Derived.WalkKit
import Derived.WalkSpells
import Derived.WalkLawsBesides
import Derived.Below
import Derived.Laws.OwnMore
import Derived.Deep.Draws
import Derived.Lib.Hide
import Derived.IntWalk
import Derived.Test.YtgpjcjnimheglaaGreatDoorShelfW
import Derived.Shelf.Strings.SlTrimAscii
import Derived.Lib.LaidTab
import Derived.Lib.AtoiAll
import Derived.Lib.IndexLaws
import Derived.Lib.SlTrimSet
import Derived.Lib.ItoaNum
import Derived.Lib.Atoi
import Derived.WalkMore
import Derived.ScopeJumps
import Derived.Laws.AppendOwnNone
import Derived.Test.YtgpjcjnimheglaaGreatDoorJad
import Derived.ProofKit
import Derived.OpenShut
import Derived.JoinedCond
import Derived.Deep.Slices
import Derived.Deep.Fields
import Derived.ChangeSame
import Derived.SliceStrings
import Derived.PinnedBridge
import Derived.Lib.LaidU8
import Derived.Lib.LaidIn
import Derived.RowKitTokens
import Derived.LaidLaws
import Derived.Stop.Joined
import Derived.Stop.LaidErr
import Derived.Shelf.Vars
import Derived.Test.YtgpjcjnimheglaaGreatDoorJae
/-
  THE WALK of the law TreeReads.
-/
namespace Go.Proofs.YtgpjcjnimheglaaGreatDoor
open Go.RowKit

set_option maxHeartbeats 4000000 in
set_option maxRecDepth 100000 in
theorem treeReads_walk (B : ByteArray) (m : Int) (w : World) (hM : MaxL w m) (hT : T8 w) (hW : WordsIs w) (hn : B.size ≤ 1048576) :
    Calls Tryz.prog 5 #[.string B] w fun e w' => e = .returned (.bool true) ∧ Below w.heap.size w w' := by
  obtain ⟨s, rfl⟩ : ∃ s : Bs, B = ⟨s.toArray⟩ := ⟨B.data.toList, (Lib.mk_data B).symm⟩
  have hsl : s.length ≤ 1048576 := by have := mk_size s; omega
  clear hn
  have hnew := tnew_walk s m w hM hT hW hsl
  have hTl := Lx.tokR_len s.length 0 s (Nat.le_refl _)
  obtain ⟨hS, -⟩ := Lx.tok_side s (by omega) hTl
  have hpar := fun w => rparse_walkT s w hsl
  have hall := Tr.all_fine hS
  have hkl := (Tr.kids_fine hS ((Lx.tokR 0 s).length + 1) 0 (Nat.zero_le _)).2.2.2.2
  have hAll : Hid (Tr.allP s (Lx.tokR 0 s) = (Tr.kidsP s (Lx.tokR 0 s) ((Lx.tokR 0 s).length + 1) 0).1.map (·.part) ++ Tr.tailP s (Lx.tokR 0 s) (Tr.kidsP s (Lx.tokR 0 s) ((Lx.tokR 0 s).length + 1) 0).2) := rfl
  have htl : (Tr.tailP s (Lx.tokR 0 s) (Tr.kidsP s (Lx.tokR 0 s) ((Lx.tokR 0 s).length + 1) 0).2).length ≤ 100000000 := by
    have := hall.2.2
    rw [hAll.out, List.length_append] at this
    omega
  have hk2 : (Tr.kidsP s (Lx.tokR 0 s) ((Lx.tokR 0 s).length + 1) 0).1.length ≤ 100000000 := by
    have := hall.2.2
    rw [hAll.out, List.length_append, List.length_map] at this
    omega
  have hwf : Tr.wfP (.branch 2 0 (Tr.allP s (Lx.tokR 0 s))) := by unfold Tr.wfP; exact ⟨Nat.le_refl _, by omega, hall.2.1⟩
  have hsame := same_all _ hwf
  have hwf2 := hall.2.1
  rw [hAll.out] at hwf2
  clear hall hkl hS hTl hsl hwf hM hT hW
  generalize Lx.tokR 0 s = T at *
  generalize (Tr.kidsP s T (T.length + 1) 0).1 = ks at *
  generalize Tr.tailP s T (Tr.kidsP s T (T.length + 1) 0).2 = ts at *
  go_enter Tryz.func5, Tryz.ntmps5
  go_wp2_with fail
  refine hnew.mono ?_
  clear hnew
  rintro e w1 ⟨gt, rfl, hTr, hb1⟩
  obtain ⟨d, A, c, hTi, _⟩ := hTr.ex
  have hroot := root_walk hTi hk2 htl hwf2
  clear hTr hTi
  go_wp2_with fail
  refine hroot.mono ?_
  clear hroot
  intro e w2 h2
  obtain ⟨na, nb, nt, nA, nn, rfl, hnd, hb2⟩ := h2
  have hb2' := hb1.trans (hb2.mono hb1.size)
  have hda : Below w2.heap.size w2 (w2.alloc (.cells #[.int .i64 (na : Int), .int .i64 (nb : Int), .string ⟨nt.toArray⟩, .slice nA nn nn] 48)) := (Below.refl _ _).alloc (Nat.le_refl _) _
  have hN : Blk (w2.alloc (.cells #[.int .i64 (na : Int), .int .i64 (nb : Int), .string ⟨nt.toArray⟩, .slice nA nn nn] 48)) w2.heap.size 48 #[.int .i64 (na : Int), .int .i64 (nb : Int), .string ⟨nt.toArray⟩, .slice nA nn nn] := Blk.new _ _ _
  have hnd := NdF.keep (F' := fun x => w1.heap.size ≤ x) hda.size (fun x hx hl => ⟨hda.block x hl, hx⟩) _ _ hnd
  have hb2' := hb2'.trans (hda.mono hb2'.size)
  obtain ⟨bn, hbn⟩ : ∃ x, x = w2.heap.size := ⟨_, rfl⟩
  rw [← hbn] at hN
  go_upto_region 4 with fail
  rw [← hbn]
  clear hbn hda hb2
  generalize w2.alloc (.cells #[.int .i64 (na : Int), .int .i64 (nb : Int), .string ⟨nt.toArray⟩, .slice nA nn nn] 48) = w2 at *
  have hpar := hpar w2
  go_wp2_with fail
  refine hpar.mono ?_
  clear hpar
  rintro e w3 ⟨q, fp, rfl, hnp, -, hb3⟩
  have hN := hN.below hb3 hN.lt
  have k0 := hN.cell 0
  have k1 := hN.cell 1
  have k2 := hN.cell 2
  have k3 := hN.cell 3
  simp at k0 k1 k2 k3
  have hnd3 := NdF.keep (F' := fun x => w1.heap.size ≤ x) hb3.size (fun x hx hl => ⟨hb3.block x hl, hx⟩) _ _ hnd
  have hb3' := hb2'.trans (hb3.mono hb2'.size)
  have hs3 := hsame w3 _ _ 0 fp _ na nb nt nA nn (by rw [hAll.out]; exact hnd3) hnp
  clear hnd hnd3 hnp hsame hb1 hb3
  go_wp2_with fail
  refine hs3.mono ?_
  clear hs3
  rintro e w4 ⟨rfl, hb4⟩
  go_wp2_with fail
  go_ret
  exact ⟨rfl, hb3'.trans (hb4.mono hb3'.size)⟩
end Go.Proofs.YtgpjcjnimheglaaGreatDoor
/-
  ARGUMENTS OF TYPE []string AND []int, OPENED: what they read as; the bound of the second form bounds their number and their bytes.
-/
namespace Go.Proofs.YtgpjcjnimheglaaGreatDoor
open Go.RowKit Go.ChangeShapes Go.WideShapes Go.Deep

namespace bulks
theorem one_le {H : Type} (d : DataW H) : 1 ≤ Rows.uptoBulk d := by
  cases d with
  | lit l => cases l <;> simp [Rows.uptoBulk]
  | nil => simp [Rows.uptoBulk]
  | ptr d => simp [Rows.uptoBulk]
  | slice elems spare => simp [Rows.uptoBulk]
  | agg parts => simp [Rows.uptoBulk]
  | iface t d => simp [Rows.uptoBulk]
  | map entries => simp [Rows.uptoBulk]
  | held h => simp [Rows.uptoBulk]
theorem append {H : Type} (l r : List (DataW H)) : Rows.uptoBulkAll (l ++ r) = Rows.uptoBulkAll l + Rows.uptoBulkAll r := by
  induction l with
  | nil => simp [Rows.uptoBulkAll]
  | cons x l ih => simp only [List.cons_append, Rows.uptoBulkAll, ih]; omega
theorem bound {H : Type} {l : List (DataW H)} (hk : Rows.uptoSmall H l = true) : Rows.uptoBulkAll l ≤ 1048576 := of_decide_eq_true hk
theorem many {H : Type} : ∀ l : List (DataW H), l.length ≤ Rows.uptoBulkAll l
  | [] => by simp [Rows.uptoBulkAll]
  | d :: l => by have := many l; have := one_le d; simp only [Rows.uptoBulkAll, List.length_cons]; omega
theorem strs {H : Type} : ∀ l : List ByteArray, l.length + (l.map fun s => s.data.toList.length).sum ≤ Rows.uptoBulkAll (Go.ChangeShapes.strs (H := H) l)
  | [] => by simp [Go.ChangeShapes.strs, Rows.uptoBulkAll]
  | s :: l => by
    have := strs (H := H) l
    simp only [Go.ChangeShapes.strs, List.map_cons, Rows.uptoBulkAll, Rows.uptoBulk, List.length_cons, List.sum_cons] at *
    omega
end bulks

theorem add_cells {w : World} {a : Addr} {k : Nat} {u : Value} (h : w.cell? (a.add k) = some u) : w.cell? ⟨a.block, a.off + k, none⟩ = some u := by
  unfold Addr.add at h
  by_cases hk : k = 0
  · subst hk
    simp only [if_true, Nat.add_zero] at h ⊢
    unfold World.cell? at h ⊢
    split at h
    · rename_i hh
      rw [hh]
      by_cases hs : a.spot.isSome = true
      · simp [hs] at h
      · simpa [hs] using h
    · cases h
  · rw [if_neg hk] at h; exact h

theorem spot_none {w : World} {a : Addr} {k : Nat} {u : Value} (h : w.cell? (a.add k) = some u) (hk : k = 0) : a = ⟨a.block, a.off, none⟩ := by
  subst hk
  unfold Addr.add at h
  simp only [if_true] at h
  obtain ⟨b, o, s⟩ := a
  unfold World.cell? at h
  split at h
  · cases s with
    | none => rfl
    | some _ => simp at h
  · cases h

set_option maxRecDepth 100000 in
theorem open_ints' {H : Type} {enc : TypeId × Value → H} {w : World} {base : Nat} {spare : Nat → Bool} {held : Bool} {b0 : Nat} {v : Value} {d : DataW H} {p : List MemPlace}
    (hv : Value.okWide Tryz.prog w .any b0 130 v) (h : DataW.Trod enc Tryz.prog w base spare held 130 v d p) :
    ∃ (A : Option Addr) (c : Nat) (l : List Int), v = .slice A l.length c ∧ Rd w w.heap.size 1 A l.length (intV l) ∧ l.length + 1 ≤ Rows.uptoBulk d := by
  obtain ⟨A, len, cap, rfl⟩ := okWide_slice Tryz.underlying130 hv
  obtain ⟨fuel, hf⟩ := h
  rcases Go.ChangeShapes.open_ints Tryz.underlying130 Tryz.underlying3 (by kernel_rfl) hf with ⟨hcs, hx⟩ | ⟨a, len', cap', zs, hcs, hbs, hl, hm, hzl, hx, hcell, hwf⟩
  · simp only [Value.cells, List.cons.injEq, Value.slice.injEq, and_true] at hcs
    obtain ⟨rfl, rfl, rfl⟩ := hcs
    exact ⟨none, 0, [], rfl, Rd.none_, by have := bulks.one_le d; simpa using this⟩
  · simp only [Value.cells, List.cons.injEq, Value.slice.injEq, and_true] at hcs
    obtain ⟨rfl, rfl, rfl⟩ := hcs
    have hlz : len ≤ zs.length := by rw [hzl]; split <;> omega
    have htl : (zs.take len).length = len := by simp; omega
    refine ⟨some a, cap, zs.take len, by rw [htl], ⟨by simp [intV], fun hn => ?_⟩, ?_⟩
    · rw [htl] at hn
      have h0 := hcell 0 (by omega)
      refine ⟨a.block, a.off, by rw [← spot_none h0 rfl], World.block_lt_of_cell? w ⟨a.block, _, none⟩ (add_cells h0), fun j u hu => ?_⟩
      have hj : j < len := by
        have := (List.getElem?_eq_some_iff.1 hu).1
        simp [intV] at this
        omega
      have h1 := add_cells (hcell j (by omega))
      rw [h1, ← hu]
      unfold intV
      rw [List.getElem?_map, List.getElem?_take, if_pos hj, List.getD_eq_getElem?_getD, List.getElem?_eq_getElem (by omega)]; rfl
    · simp only [Prod.mk.injEq] at hx
      rw [hx.1, htl]
      have := bulks.many (lits .i64 (zs.take len) : List (DataW H))
      have e : (lits .i64 (zs.take len) : List (DataW H)).length = len := by simp [lits]; omega
      rw [e] at this
      simp only [Rows.uptoBulk]
      omega

set_option maxRecDepth 100000 in
theorem open_texts_at {H : Type} {enc : TypeId × Value → H} {w : World} {base : Nat} {spare : Nat → Bool} {held : Bool} {fuel : Nat} {v : Value} {d : DataW H} {p : List MemPlace}
    (hf : DataW.trod enc Tryz.prog w base spare held fuel 67 [v] = some (d, p)) :
    ∃ (A : Option Addr) (c : Nat) (l : List Bs), v = .slice A l.length c ∧ Rd w w.heap.size 1 A l.length (txtV l) ∧ l.length + (l.map List.length).sum + 1 ≤ Rows.uptoBulk d := by
  rcases open_strings Tryz.underlying67 Tryz.underlying9 (by kernel_rfl) hf with ⟨hcs, hx⟩ | ⟨a, len, cap, ss, hcs, hbs, hl, hm, hzl, hx, hcell, _⟩
  · simp only [List.cons.injEq, and_true] at hcs
    subst hcs
    exact ⟨none, 0, [], rfl, Rd.none_, by have := bulks.one_le d; simpa using this⟩
  · simp only [List.cons.injEq, and_true] at hcs
    subst hcs
    have hlz : len ≤ ss.length := by rw [hzl]; split <;> omega
    have htl : ((ss.take len).map fun s => s.data.toList).length = len := by simp; omega
    refine ⟨some a, cap, (ss.take len).map fun s => s.data.toList, by rw [htl], ⟨by simp [txtV], fun hn => ?_⟩, ?_⟩
    · rw [htl] at hn
      have h0 := hcell 0 (by omega)
      refine ⟨a.block, a.off, by rw [← spot_none h0 rfl], World.block_lt_of_cell? w ⟨a.block, _, none⟩ (add_cells h0), fun j u hu => ?_⟩
      have hj : j < len := by
        have := (List.getElem?_eq_some_iff.1 hu).1
        simp [txtV] at this
        omega
      have h1 := add_cells (hcell j (by omega))
      rw [h1, ← hu]
      unfold txtV strV
      rw [List.getElem?_map, List.getElem?_map, List.getElem?_take, if_pos hj, List.getD_eq_getElem?_getD, List.getElem?_eq_getElem (by omega)]
      simp only [Option.map_some, Option.getD_some, Lib.mk_data]
    · simp only [Prod.mk.injEq] at hx
      rw [hx.1, htl]
      have := bulks.strs (H := H) (ss.take len)
      simp only [List.length_take, List.map_map] at this ⊢
      have e : (List.length ∘ fun s : ByteArray => s.data.toList) = fun s : ByteArray => s.data.toList.length := rfl
      rw [e]
      simp only [Rows.uptoBulk]
      omega
set_option maxRecDepth 100000 in
theorem open_texts {H : Type} {enc : TypeId × Value → H} {w : World} {base : Nat} {spare : Nat → Bool} {held : Bool} {b0 : Nat} {v : Value} {d : DataW H} {p : List MemPlace}
    (hv : Value.okWide Tryz.prog w .any b0 67 v) (h : DataW.Trod enc Tryz.prog w base spare held 67 v d p) :
    ∃ (A : Option Addr) (c : Nat) (l : List Bs), v = .slice A l.length c ∧ Rd w w.heap.size 1 A l.length (txtV l) ∧ l.length + (l.map List.length).sum + 1 ≤ Rows.uptoBulk d := by
  obtain ⟨A, len, cap, rfl⟩ := okWide_slice Tryz.underlying67 hv
  obtain ⟨fuel, hf⟩ := h
  exact open_texts_at hf
end Go.Proofs.YtgpjcjnimheglaaGreatDoor
/-
  WHAT THE ROW's LIST (the tables and errors that package strconv reads) GIVES A WALK; a world that meets it.
-/
namespace Go.Proofs.YtgpjcjnimheglaaGreatDoor
open Go.ChangeShapes Go.WideShapes Go.RowKit

theorem maxL_of {W : World} (h : W.ShapedOpen Tryz.prog) : ∃ m, MaxL W m :=
  Go.Proofs.cell_of_shapedOpen_int (zero := #[.int .i64 0]) (t := 3) h (by decide) (by kernel_rfl) rfl (by kernel_rfl) (by kernel_rfl) Tryz.underlying3

namespace laidW
theorem acc_eq : Rows.laid_unicode_utf8_acceptRanges = Lib.acceptData := by kernel_rfl
theorem first_eq : Rows.laid_unicode_utf8_first = Lib.firstData := Pinned.utf8First_eq
theorem pow_eq : (Rows.laid_internal_strconv_uint64pow10 : DataW Unit) = Lib.tabData .u64 Lib.pow10Tab := by kernel_rfl
theorem tab10_of {l : List (String × DataW Unit)} {W : World} (h : laidMet Tryz.prog (("internal/strconv.uint64pow10", Rows.laid_internal_strconv_uint64pow10) :: l) W) : Tab10 W := by
  rw [pow_eq] at h
  exact Lib.tabIs_of_head (n := 20) g10 (t := 287) (e := 245) (by kernel_rfl) Tryz.underlying287 Tryz.underlying245 (by kernel_rfl) (by kernel_rfl) h

abbrev frameList : List (String × DataW Unit) := [("math/bits.deBruijn32tab", Rows.laid_math_bits_deBruijn32tab), ("math/bits.deBruijn64tab", Rows.laid_math_bits_deBruijn64tab), ("internal/strconv.uint64pow10", Rows.laid_internal_strconv_uint64pow10), ("unicode/utf8.acceptRanges", Rows.laid_unicode_utf8_acceptRanges), ("strconv.ErrRange", Rows.laid_strconv_ErrRange), ("strconv.ErrSyntax", Rows.laid_strconv_ErrSyntax), ("unicode/utf8.first", Rows.laid_unicode_utf8_first)]
theorem frame_of {W : World} (h : laidMetH Tryz.prog frameList W) : Tab10 W :=
  tab10_of (laidMet.tail (laidMet.tail (show laidMet Tryz.prog frameList W from h)))

/-- the cells of an array of integers -/
def litV : DataW Unit → List Value
  | .agg ds => ds.map fun
    | .lit (.int k z) => .int k z
    | _ => .bool false
  | _ => []
/-- A world that meets the condition: the settled one, the variables' cells laid, the errors' blocks behind. -/
noncomputable def frameWorld (os : Os) : World :=
  let w0 := World.holding Tryz.prog os ⟨#[], #[], []⟩
  let put (h : Array Obj) (g : Nat) (cs : Array Value) : Array Obj := h.modify g fun
    | .cells _ t frozen => .cells cs t frozen
    | o => o
  let h1 := put w0.heap 2 (Lib.firstTab.map fun z => Value.int .u8 z).toArray
  let h2 := put h1 3 ((List.range 16).flatMap fun i => [Value.int .u8 (Lib.accLo i), Value.int .u8 (Lib.accHi i)]).toArray
  let h3 := put h2 8 (litV Rows.laid_math_bits_deBruijn32tab).toArray
  let h4 := put h3 9 (litV Rows.laid_math_bits_deBruijn64tab).toArray
  let h5 := put h4 7 (litV Rows.laid_internal_strconv_uint64pow10).toArray
  let n := h5.size
  let h6 := h5.push (.cells #[.string ⟨#[118, 97, 108, 117, 101, 32, 111, 117, 116, 32, 111, 102, 32, 114, 97, 110, 103, 101]⟩] 276)
  let h7 := h6.push (.cells #[.string ⟨#[105, 110, 118, 97, 108, 105, 100, 32, 115, 121, 110, 116, 97, 120]⟩] 276)
  let h8 := put h7 6 #[.iface 274 (.pointer (some ⟨n, 0, none⟩))]
  let h9 := put h8 5 #[.iface 274 (.pointer (some ⟨n + 1, 0, none⟩))]
  { w0 with heap := h9 }
set_option maxRecDepth 100000 in
theorem frame_met (os : Os) (args : Array Value) : laidMetH Tryz.prog frameList ((frameWorld os).forCall (fun _ _ => 0) ⟨#[], args, []⟩).memory := by
  unfold frameList
  rw [acc_eq, first_eq]
  exact (LaidIn.of_run (l := [("math/bits.deBruijn32tab", Rows.laid_math_bits_deBruijn32tab), ("math/bits.deBruijn64tab", Rows.laid_math_bits_deBruijn64tab), ("internal/strconv.uint64pow10", Rows.laid_internal_strconv_uint64pow10), ("unicode/utf8.acceptRanges", Lib.acceptData), ("strconv.ErrRange", Rows.laid_strconv_ErrRange), ("strconv.ErrSyntax", Rows.laid_strconv_ErrSyntax), ("unicode/utf8.first", Lib.firstData)]) (List.range 40) 8 (by kernel_rfl) (by kernel_rfl) (by kernel_rfl) (by kernel_rfl)).met
end laidW
end Go.Proofs.YtgpjcjnimheglaaGreatDoor
/-
  WHAT THE ROW's LIST of the laws of tokens GIVES A WALK: as LaidW, and lex.words; a world that meets it.
-/
namespace Go.Proofs.YtgpjcjnimheglaaGreatDoor
open Go.ChangeShapes Go.WideShapes Go.RowKit

namespace laidW
abbrev lexList : List (String × DataW Unit) := [("math/bits.deBruijn32tab", Rows.laid_math_bits_deBruijn32tab), ("math/bits.deBruijn64tab", Rows.laid_math_bits_deBruijn64tab), ("internal/strconv.uint64pow10", Rows.laid_internal_strconv_uint64pow10), ("unicode/utf8.acceptRanges", Rows.laid_unicode_utf8_acceptRanges), ("strconv.ErrRange", Rows.laid_strconv_ErrRange), ("strconv.ErrSyntax", Rows.laid_strconv_ErrSyntax), ("amanuensis/lex.words", Rows.laid_amanuensis_lex_words), ("unicode/utf8.first", Rows.laid_unicode_utf8_first)]
theorem t8_of {l : List (String × DataW Unit)} {W : World} (h : laidMet Tryz.prog l W) (h1 : ("unicode/utf8.acceptRanges", Rows.laid_unicode_utf8_acceptRanges) ∈ l) (h2 : ("unicode/utf8.first", Rows.laid_unicode_utf8_first) ∈ l) : T8 W := by
  rw [acc_eq] at h1
  rw [first_eq] at h2
  exact utf8Tabs_of_reads (ρ := Tryz.lays197_ren) { Tryz.lays197 with } ⟨by kernel_rfl, by kernel_rfl, by kernel_rfl, by kernel_rfl, by kernel_rfl, by kernel_rfl, by kernel_rfl⟩ (Lib.laidMet.reads h h2) (Lib.laidMet.reads h h1)
theorem gW : Tryz.prog.globalNamed "amanuensis/lex.words" = some 1 := by kernel_rfl
/-- the cells of an array of strings that reads as these -/
theorem cells_of_strs {H : Type} {enc : TypeId × Value → H} {P : Program} {w : World} {base : Nat} {sp : Nat → Bool} {held : Bool} {fuel : Nat} {t e : TypeId} {n : Nat} {cs : List Value} {zs : List Bs} {p : List MemPlace}
    (ht : P.underlying t = some (.array n e)) (he : P.underlying e = some .string) (hce : P.cellsOf e = 1) (hct : P.cellsOf t = n)
    (h : DataW.trod enc P w base sp held fuel t cs = some (.agg (zs.map fun z => .lit (.string z)), p)) : cs = txtV zs := by
  cases fuel with
  | zero => simp [DataW.trod] at h
  | succ fuel =>
    simp only [DataW.trod, ht, hce, hct, Nat.mul_one] at h
    split at h
    · rename_i hl
      obtain ⟨xs, hm, hx⟩ := Option.map_eq_some_iff.1 h
      have hxs : xs.map (·.1) = zs.map fun z => (DataW.lit (.string z) : DataW H) := by
        have := congrArg Prod.fst hx
        simpa using this
      have hxl : xs.length = n := by simpa using Lib.mapM_length hm
      have hzl : zs.length = n := by
        have := congrArg List.length hxs
        simp at this
        omega
      apply List.ext_getElem?
      intro i
      by_cases hi : i < n
      · obtain ⟨b, hb, hf⟩ := Lib.mapM_at hm i i (by simp [hi])
        obtain ⟨z, hc, rfl, _⟩ := DataW.trod_string he hf
        have h1 : cs[i]? = some (.string z) := by
          have := congrArg (·[0]?) hc
          simpa [List.getElem?_take, List.getElem?_drop] using this
        have h2 : (xs.map (·.1))[i]? = some (DataW.lit (.string z.data.toList) : DataW H) := by simp [hb]
        rw [hxs] at h2
        simp only [List.getElem?_map, Option.map_eq_some_iff, DataW.lit.injEq, Lit.string.injEq] at h2
        obtain ⟨z', hz', h3⟩ := h2
        rw [h1]
        simp only [txtV, List.getElem?_map, hz', Option.map_some, h3, strV]
      · rw [List.getElem?_eq_none (by omega), List.getElem?_eq_none (by rw [txtV_len]; omega)]
    · cases h
theorem words_eq : (Rows.laid_amanuensis_lex_words : DataW Unit) = .agg (Lx.words.map fun z => .lit (.string z)) := by kernel_rfl
theorem words_of {l : List (String × DataW Unit)} {W : World} (h : laidMet Tryz.prog l W) (h1 : ("amanuensis/lex.words", Rows.laid_amanuensis_lex_words) ∈ l) : WordsIs W := by
  obtain ⟨g, t, cs, fuel, p, e1, e2, e3, e4⟩ := Lib.laidMet.reads h h1
  obtain rfl := Option.some.inj (gW.symm.trans e1)
  have e5 : (Tryz.prog.globals[1]?).map (·.type) = some 222 := by kernel_rfl
  obtain rfl := Option.some.inj (e5.symm.trans e2)
  rw [words_eq] at e4
  have hc := cells_of_strs (n := 12) Tryz.underlying222 Tryz.underlying9 (by kernel_rfl) (by kernel_rfl) e4
  have hcell : ∀ i, W.cell? ⟨1, i, none⟩ = (txtV Lx.words)[i]? := fun i => by
    rw [World.var?_cell gW e3 i, ← hc]; simp
  refine ⟨by kernel_rfl, fun _ => ⟨_, 0, rfl, ?_, fun i u hu => by rw [Nat.zero_add, hcell]; exact hu⟩⟩
  exact World.block_lt_of_cell? (a := ⟨1, 0, none⟩) W (hcell 0)
theorem lex_of {W : World} (h : laidMetH Tryz.prog lexList W) : T8 W ∧ WordsIs W :=
  have h' : laidMet Tryz.prog lexList W := h
  ⟨t8_of h' (by simp [lexList]) (by simp [lexList]), words_of h' (by simp [lexList])⟩

/-- A world that meets the condition. -/
noncomputable def lexWorld (os : Os) : World :=
  let w0 := frameWorld os
  { w0 with heap := w0.heap.modify 1 fun
      | .cells _ t frozen => .cells (txtV Lx.words).toArray t frozen
      | o => o }
set_option maxRecDepth 100000 in
theorem lex_met (os : Os) (args : Array Value) : laidMetH Tryz.prog lexList ((lexWorld os).forCall (fun _ _ => 0) ⟨#[], args, []⟩).memory := by
  unfold lexList
  rw [acc_eq, first_eq]
  exact (LaidIn.of_run (l := [("math/bits.deBruijn32tab", Rows.laid_math_bits_deBruijn32tab), ("math/bits.deBruijn64tab", Rows.laid_math_bits_deBruijn64tab), ("internal/strconv.uint64pow10", Rows.laid_internal_strconv_uint64pow10), ("unicode/utf8.acceptRanges", Lib.acceptData), ("strconv.ErrRange", Rows.laid_strconv_ErrRange), ("strconv.ErrSyntax", Rows.laid_strconv_ErrSyntax), ("amanuensis/lex.words", Rows.laid_amanuensis_lex_words), ("unicode/utf8.first", Lib.firstData)]) (List.range 40) 8 (by kernel_rfl) (by kernel_rfl) (by kernel_rfl) (by kernel_rfl)).met
end laidW
end Go.Proofs.YtgpjcjnimheglaaGreatDoor
