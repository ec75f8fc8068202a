/-
  JOINED of the texts YK OpenT LaidW LaidL
-/
import Derived.Test.YtalklmeejdmifaaGreatDoorJau
import Derived.Test.YtalklmeejdmifaaGreatDoorJav
import Derived.Test.YtalklmeejdmifaaGreatDoorJbf
import Derived.StillTailTactics
import Derived.Handy
import Derived.Deep.RegionHeld3
import Derived.Maps.OwnOps
import Derived.Carry
import Derived.Deep.CutBlock
import Derived.Deep.AppendLies
import Derived.Deep.QuietTactic
import Derived.BigQuiet
import Derived.Lib.RuneBytes
import Derived.Lib.Strings
import Derived.Deep.DeepCutAuto
import Derived.Lib.ConvBytes
import Derived.Laws.Strings3
import Derived.Laws.Closers25
import Derived.Laws.Closers25b
import Derived.BigCall
import Derived.BigGuard
import Derived.Test.YtalklmeejdmifaaGreatDoorShelfX
import Derived.Shelf.Spec.BytesIndexFunc
import Derived.Lib.IndexMore
import Derived.Test.YtalklmeejdmifaaGreatDoorRows
import Derived.WalkKit
import Derived.WalkSpells
import Derived.WalkLawsBesides
import Derived.Below
import Derived.Laws.OwnMore
import Derived.Deep.Draws
import Derived.Lib.Hide
import Derived.IntWalk
import Derived.Test.YtalklmeejdmifaaGreatDoorShelfW
import Derived.Shelf.Strings.SlTrimAscii
import Derived.Lib.LaidTab
import Derived.Lib.AtoiAll
import Derived.Lib.IndexLaws
import Derived.Lib.SlTrimSet
import Derived.Lib.ItoaNum
import Derived.Lib.Atoi
import Derived.WalkMore
import Derived.ScopeJumps
import Derived.Laws.AppendOwnNone
import Derived.Test.YtalklmeejdmifaaGreatDoorShelf
import Derived.Shelf.Strings.Builder1
import Derived.Test.YtalklmeejdmifaaGreatDoorJad
import Derived.ProofKit
import Derived.OpenShut
import Derived.JoinedCond
import Derived.Deep.Slices
import Derived.Deep.Fields
import Derived.ChangeSame
import Derived.SliceStrings
import Derived.PinnedBridge
import Derived.Lib.LaidU8
import Derived.Lib.LaidIn
import Derived.RowKitTokens
import Derived.LaidLaws
import Derived.Stop.Joined
import Derived.Stop.LaidErr
import Derived.Shelf.Vars
import Derived.Test.YtalklmeejdmifaaGreatDoorJae
/-
  THE WALK of the law TreeNotes.
-/
namespace Go.Proofs.YtalklmeejdmifaaGreatDoor
open Go.RowKit

theorem Tr.kids_q {s : Bs} {T : List Tk} (hS : Tr.Side s T) : ∀ (f i : Nat), i ≤ T.length → ∀ k ∈ (Tr.kidsP s T f i).1, Tr.wfP k.part ∧ Tr.okP k.base k.part k.base ∧ k.base + Tr.wideP k.part ≤ s.length
  | 0, i, _, k, hk => absurd hk (by unfold Tr.kidsP; simp)
  | f + 1, i, hi, k, hk => by
    rw [Tr.kids_succ] at hk
    split at hk
    · rename_i hn
      obtain ⟨a1, a2, a3, a4⟩ := Tr.oneP_text ((Tr.kid_fine hS).at_ hi)
      rcases List.mem_cons.1 hk with rfl | hk
      · refine ⟨a2, Tr.kid_okd hS i hi hn, ?_⟩
        have h1 := Tr.wide_text (Tr.kidP s T i).1
        rw [a1, Tr.sl_len hS.good a3] at h1
        have h2 := hS.good.abs_le (Tr.kidP s T i).2
        have h3 := hS.good.up i _ a3
        show Tr.absP s T i + Tr.wideP (Tr.kidP s T i).1 ≤ s.length
        omega
      · exact Tr.kids_q hS f (Tr.kidP s T i).2 a4 k hk
    · simp at hk
theorem Tr.tail_q {s : Bs} {T : List Tk} (hS : Tr.Side s T) (i : Nat) (hi : i ≤ T.length) : ∀ p ∈ Tr.tailP s T i, Tr.wfP p ∧ ∃ a, Tr.okP 0 p a ∧ a + Tr.wideP p ≤ s.length := by
  intro p hp
  have h := Tr.leaves_ok 0 hS (T.length - i) i (by omega) (Nat.zero_le _)
  have e : (T.drop i).take (T.length - i) = T.drop i := List.take_of_length_le (by rw [List.length_drop]; exact Nat.le_refl _)
  rw [e] at h
  obtain ⟨f1, f2⟩ := Tr.tail_fine hS i hi
  obtain ⟨a, h1, h2⟩ := Tr.oks_mem _ _ h p hp
  refine ⟨wfs_mem _ f2 p hp, a, h1, ?_⟩
  have h3 := Tr.wides_text (Tr.tailP s T i)
  rw [f1, Tr.sl_len hS.good hi] at h3
  have h4 := hS.good.abs_le T.length
  have h5 := hS.good.up i _ hi
  have h6 : Tr.tailP s T i = (T.drop i).map (Tr.leafP s 0) := rfl
  rw [h6] at h3
  omega
/-- all that the notes of a text's tree want -/
theorem Tr.notes_facts {s : Bs} {T : List Tk} (hS : Tr.Side s T) (hs : s.length ≤ 1048576) (hT : T.length ≤ 1048576) :
    (∀ k ∈ (Tr.kidsP s T (T.length + 1) 0).1, NtQ k.base k.part) ∧ (∀ p ∈ Tr.tailP s T (Tr.kidsP s T (T.length + 1) 0).2, NtQ 0 p) ∧
      Tr.tailN (Tr.tailP s T (Tr.kidsP s T (T.length + 1) 0).2) (Tr.kidsN (Tr.kidsP s T (T.length + 1) 0).1 []) = Tr.rnotesP (.branch 2 0 (Tr.allP s T)) 0 ∧ (Tr.rnotesP (.branch 2 0 (Tr.allP s T)) 0).length ≤ 100000000 := by
  obtain ⟨c1, c2, c3, c4, c5⟩ := Tr.kids_fine hS (T.length + 1) 0 (Nat.zero_le _)
  refine ⟨fun k hk => ?_, fun p hp => ?_, Tr.all_notes hS, ?_⟩
  · obtain ⟨h1, h2, h3⟩ := Tr.kids_q hS _ 0 (Nat.zero_le _) k hk
    exact ⟨h1, _, h2, by omega⟩
  · obtain ⟨h1, a, h2, h3⟩ := Tr.tail_q hS _ c4 p hp
    exact ⟨h1, a, h2, by omega⟩
  · have h1 := Tr.rnotes_len (.branch 2 0 (Tr.allP s T)) 0
    have h2 := Tr.all_ct s T
    omega

set_option maxHeartbeats 4000000 in
set_option maxRecDepth 100000 in
theorem treeNotes_walk (B : ByteArray) (m : Int) (w : World) (hM : MaxL w m) (hT : T8 w) (hW : WordsIs w) (hn : B.size ≤ 1048576) :
    Calls Tryz.prog 4 #[.string B] w fun e w' => e = .returned (.bool true) ∧ Below w.heap.size w w' := by
  obtain ⟨s, rfl⟩ : ∃ s : Bs, B = ⟨s.toArray⟩ := ⟨B.data.toList, (Lib.mk_data B).symm⟩
  have hsl : s.length ≤ 1048576 := by have := mk_size s; omega
  clear hn
  have hnew := tnew_walk s m w hM hT hW hsl
  have hTl := Lx.tokR_len s.length 0 s (Nat.le_refl _)
  obtain ⟨hS, -⟩ := Lx.tok_side s (by omega) hTl
  have hpar := fun w => rparse_walkT s w hsl
  have hall := Tr.all_fine hS
  have hAll : Hid (Tr.allP s (Lx.tokR 0 s) = (Tr.kidsP s (Lx.tokR 0 s) ((Lx.tokR 0 s).length + 1) 0).1.map (·.part) ++ Tr.tailP s (Lx.tokR 0 s) (Tr.kidsP s (Lx.tokR 0 s) ((Lx.tokR 0 s).length + 1) 0).2) := rfl
  have htl : (Tr.tailP s (Lx.tokR 0 s) (Tr.kidsP s (Lx.tokR 0 s) ((Lx.tokR 0 s).length + 1) 0).2).length ≤ 100000000 := by
    have := hall.2.2
    rw [hAll.out, List.length_append] at this
    omega
  have hk2 : (Tr.kidsP s (Lx.tokR 0 s) ((Lx.tokR 0 s).length + 1) 0).1.length ≤ 100000000 := by
    have := hall.2.2
    rw [hAll.out, List.length_append, List.length_map] at this
    omega
  have hwf : Tr.wfP (.branch 2 0 (Tr.allP s (Lx.tokR 0 s))) := by unfold Tr.wfP; exact ⟨Nat.le_refl _, by omega, hall.2.1⟩
  have hrn := rn_all _ hwf
  obtain ⟨hq1, hq2, hqe, hql⟩ := Tr.notes_facts hS hsl (by omega)
  clear hall hS hTl hM hT hW hAll hwf
  generalize Lx.tokR 0 s = T at *
  generalize (Tr.kidsP s T (T.length + 1) 0).1 = ks at *
  generalize Tr.tailP s T (Tr.kidsP s T (T.length + 1) 0).2 = ts at *
  generalize hpt : Tr.PT.branch 2 0 (Tr.allP s T) = pt at *
  clear hpt
  generalize hnt : Tr.rnotesP pt 0 = nt at *
  have hnt' : [] ++ Tr.rnotesP pt 0 = nt := by rw [hnt]; rfl
  go_enter Tryz.func4, Tryz.ntmps4
  go_wp2_with fail
  refine hnew.mono ?_
  clear hnew
  rintro e w1 ⟨gt, rfl, hTr, hb1⟩
  obtain ⟨d, A, c, hTi, _⟩ := hTr.ex
  have hnotes := tnotes_walk hTi hk2 htl hq1 hq2 (by rw [hqe]; omega)
  rw [hqe] at hnotes
  clear hTr hTi hq1 hq2 hqe hk2 htl
  have Hnt := Lib.hid hnt'
  have Hql := Lib.hid hql
  clear hnt hnt' hql
  go_wp2_with fail
  refine hnotes.mono ?_
  clear hnotes
  rintro e w2 ⟨A1, rfl, hrd, hb2⟩
  have hpar := hpar w2
  go_wp2_with fail
  refine hpar.mono ?_
  clear hpar
  rintro e w3 ⟨q, fp, rfl, hnp, -, hb3⟩
  have hnp3 := NpF.keep (F' := fun x => x < w3.heap.size) (Nat.le_refl _) (fun x _ hl => ⟨rfl, hl⟩) _ _ _ _ hnp
  have hrd3 := (hrd.below hb3).more hb3.size
  have hcl := hrn w3 _ 0 fp _ [] none 0 w3.heap.size hnp3 (World.ownsRow_nil _ _ _ _) (fun x hx => hx) (Nat.le_refl _) (by rw [Hnt.out]; have := Hql.out; omega)
  rw [Hnt.out] at hcl
  unfold RnE at hcl
  have hb13 := hb1.trans ((hb2.trans (hb3.mono hb2.size)).mono hb1.size)
  clear hrn hnp hnp3 hrd hb3 hb1 hb2
  go_wp2_with fail
  refine hcl.mono ?_
  clear hcl
  rintro e w4 ⟨A2, c2, rfl, hown4, hb4⟩
  have hrd4 := (hrd3.below hb4).more hb4.size
  have hsm := sameNotes_walk A1 A2 nt.length c2 nt w4 hrd4 (Rd.of_own hown4) (by have := Hql.out; omega)
  have hb14 := hb13.trans (hb4.mono hb13.size)
  clear hrd3 hown4 hb4 hrd4 hb13
  go_wp2_with fail
  refine hsm.mono ?_
  clear hsm
  rintro e w5 ⟨rfl, hb5⟩
  go_wp2_with fail
  go_ret
  exact ⟨rfl, hb14.trans (hb5.mono hb14.size)⟩
end Go.Proofs.YtalklmeejdmifaaGreatDoor
/-
  ARGUMENTS OF TYPE []string AND []int, OPENED: what they read as; the bound of the second form bounds their number and their bytes.
-/
namespace Go.Proofs.YtalklmeejdmifaaGreatDoor
open Go.RowKit Go.ChangeShapes Go.WideShapes Go.Deep

namespace bulks
theorem one_le {H : Type} (d : DataW H) : 1 ≤ Rows.uptoBulk d := by
  cases d with
  | lit l => cases l <;> simp [Rows.uptoBulk]
  | nil => simp [Rows.uptoBulk]
  | ptr d => simp [Rows.uptoBulk]
  | slice elems spare => simp [Rows.uptoBulk]
  | agg parts => simp [Rows.uptoBulk]
  | iface t d => simp [Rows.uptoBulk]
  | map entries => simp [Rows.uptoBulk]
  | held h => simp [Rows.uptoBulk]
theorem append {H : Type} (l r : List (DataW H)) : Rows.uptoBulkAll (l ++ r) = Rows.uptoBulkAll l + Rows.uptoBulkAll r := by
  induction l with
  | nil => simp [Rows.uptoBulkAll]
  | cons x l ih => simp only [List.cons_append, Rows.uptoBulkAll, ih]; omega
theorem bound {H : Type} {l : List (DataW H)} (hk : Rows.uptoSmall H l = true) : Rows.uptoBulkAll l ≤ 1048576 := of_decide_eq_true hk
theorem many {H : Type} : ∀ l : List (DataW H), l.length ≤ Rows.uptoBulkAll l
  | [] => by simp [Rows.uptoBulkAll]
  | d :: l => by have := many l; have := one_le d; simp only [Rows.uptoBulkAll, List.length_cons]; omega
theorem strs {H : Type} : ∀ l : List ByteArray, l.length + (l.map fun s => s.data.toList.length).sum ≤ Rows.uptoBulkAll (Go.ChangeShapes.strs (H := H) l)
  | [] => by simp [Go.ChangeShapes.strs, Rows.uptoBulkAll]
  | s :: l => by
    have := strs (H := H) l
    simp only [Go.ChangeShapes.strs, List.map_cons, Rows.uptoBulkAll, Rows.uptoBulk, List.length_cons, List.sum_cons] at *
    omega
end bulks

theorem add_cells {w : World} {a : Addr} {k : Nat} {u : Value} (h : w.cell? (a.add k) = some u) : w.cell? ⟨a.block, a.off + k, none⟩ = some u := by
  unfold Addr.add at h
  by_cases hk : k = 0
  · subst hk
    simp only [if_true, Nat.add_zero] at h ⊢
    unfold World.cell? at h ⊢
    split at h
    · rename_i hh
      rw [hh]
      by_cases hs : a.spot.isSome = true
      · simp [hs] at h
      · simpa [hs] using h
    · cases h
  · rw [if_neg hk] at h; exact h

theorem spot_none {w : World} {a : Addr} {k : Nat} {u : Value} (h : w.cell? (a.add k) = some u) (hk : k = 0) : a = ⟨a.block, a.off, none⟩ := by
  subst hk
  unfold Addr.add at h
  simp only [if_true] at h
  obtain ⟨b, o, s⟩ := a
  unfold World.cell? at h
  split at h
  · cases s with
    | none => rfl
    | some _ => simp at h
  · cases h

set_option maxRecDepth 100000 in
theorem open_ints' {H : Type} {enc : TypeId × Value → H} {w : World} {base : Nat} {spare : Nat → Bool} {held : Bool} {b0 : Nat} {v : Value} {d : DataW H} {p : List MemPlace}
    (hv : Value.okWide Tryz.prog w .any b0 76 v) (h : DataW.Trod enc Tryz.prog w base spare held 76 v d p) :
    ∃ (A : Option Addr) (c : Nat) (l : List Int), v = .slice A l.length c ∧ Rd w w.heap.size 1 A l.length (intV l) ∧ l.length + 1 ≤ Rows.uptoBulk d := by
  obtain ⟨A, len, cap, rfl⟩ := okWide_slice Tryz.underlying76 hv
  obtain ⟨fuel, hf⟩ := h
  rcases Go.ChangeShapes.open_ints Tryz.underlying76 Tryz.underlying3 (by kernel_rfl) hf with ⟨hcs, hx⟩ | ⟨a, len', cap', zs, hcs, hbs, hl, hm, hzl, hx, hcell, hwf⟩
  · simp only [Value.cells, List.cons.injEq, Value.slice.injEq, and_true] at hcs
    obtain ⟨rfl, rfl, rfl⟩ := hcs
    exact ⟨none, 0, [], rfl, Rd.none_, by have := bulks.one_le d; simpa using this⟩
  · simp only [Value.cells, List.cons.injEq, Value.slice.injEq, and_true] at hcs
    obtain ⟨rfl, rfl, rfl⟩ := hcs
    have hlz : len ≤ zs.length := by rw [hzl]; split <;> omega
    have htl : (zs.take len).length = len := by simp; omega
    refine ⟨some a, cap, zs.take len, by rw [htl], ⟨by simp [intV], fun hn => ?_⟩, ?_⟩
    · rw [htl] at hn
      have h0 := hcell 0 (by omega)
      refine ⟨a.block, a.off, by rw [← spot_none h0 rfl], World.block_lt_of_cell? w ⟨a.block, _, none⟩ (add_cells h0), fun j u hu => ?_⟩
      have hj : j < len := by
        have := (List.getElem?_eq_some_iff.1 hu).1
        simp [intV] at this
        omega
      have h1 := add_cells (hcell j (by omega))
      rw [h1, ← hu]
      unfold intV
      rw [List.getElem?_map, List.getElem?_take, if_pos hj, List.getD_eq_getElem?_getD, List.getElem?_eq_getElem (by omega)]; rfl
    · simp only [Prod.mk.injEq] at hx
      rw [hx.1, htl]
      have := bulks.many (lits .i64 (zs.take len) : List (DataW H))
      have e : (lits .i64 (zs.take len) : List (DataW H)).length = len := by simp [lits]; omega
      rw [e] at this
      simp only [Rows.uptoBulk]
      omega

set_option maxRecDepth 100000 in
theorem open_texts_at {H : Type} {enc : TypeId × Value → H} {w : World} {base : Nat} {spare : Nat → Bool} {held : Bool} {fuel : Nat} {v : Value} {d : DataW H} {p : List MemPlace}
    (hf : DataW.trod enc Tryz.prog w base spare held fuel 73 [v] = some (d, p)) :
    ∃ (A : Option Addr) (c : Nat) (l : List Bs), v = .slice A l.length c ∧ Rd w w.heap.size 1 A l.length (txtV l) ∧ l.length + (l.map List.length).sum + 1 ≤ Rows.uptoBulk d := by
  rcases open_strings Tryz.underlying73 Tryz.underlying9 (by kernel_rfl) hf with ⟨hcs, hx⟩ | ⟨a, len, cap, ss, hcs, hbs, hl, hm, hzl, hx, hcell, _⟩
  · simp only [List.cons.injEq, and_true] at hcs
    subst hcs
    exact ⟨none, 0, [], rfl, Rd.none_, by have := bulks.one_le d; simpa using this⟩
  · simp only [List.cons.injEq, and_true] at hcs
    subst hcs
    have hlz : len ≤ ss.length := by rw [hzl]; split <;> omega
    have htl : ((ss.take len).map fun s => s.data.toList).length = len := by simp; omega
    refine ⟨some a, cap, (ss.take len).map fun s => s.data.toList, by rw [htl], ⟨by simp [txtV], fun hn => ?_⟩, ?_⟩
    · rw [htl] at hn
      have h0 := hcell 0 (by omega)
      refine ⟨a.block, a.off, by rw [← spot_none h0 rfl], World.block_lt_of_cell? w ⟨a.block, _, none⟩ (add_cells h0), fun j u hu => ?_⟩
      have hj : j < len := by
        have := (List.getElem?_eq_some_iff.1 hu).1
        simp [txtV] at this
        omega
      have h1 := add_cells (hcell j (by omega))
      rw [h1, ← hu]
      unfold txtV strV
      rw [List.getElem?_map, List.getElem?_map, List.getElem?_take, if_pos hj, List.getD_eq_getElem?_getD, List.getElem?_eq_getElem (by omega)]
      simp only [Option.map_some, Option.getD_some, Lib.mk_data]
    · simp only [Prod.mk.injEq] at hx
      rw [hx.1, htl]
      have := bulks.strs (H := H) (ss.take len)
      simp only [List.length_take, List.map_map] at this ⊢
      have e : (List.length ∘ fun s : ByteArray => s.data.toList) = fun s : ByteArray => s.data.toList.length := rfl
      rw [e]
      simp only [Rows.uptoBulk]
      omega
set_option maxRecDepth 100000 in
theorem open_texts {H : Type} {enc : TypeId × Value → H} {w : World} {base : Nat} {spare : Nat → Bool} {held : Bool} {b0 : Nat} {v : Value} {d : DataW H} {p : List MemPlace}
    (hv : Value.okWide Tryz.prog w .any b0 73 v) (h : DataW.Trod enc Tryz.prog w base spare held 73 v d p) :
    ∃ (A : Option Addr) (c : Nat) (l : List Bs), v = .slice A l.length c ∧ Rd w w.heap.size 1 A l.length (txtV l) ∧ l.length + (l.map List.length).sum + 1 ≤ Rows.uptoBulk d := by
  obtain ⟨A, len, cap, rfl⟩ := okWide_slice Tryz.underlying73 hv
  obtain ⟨fuel, hf⟩ := h
  exact open_texts_at hf
end Go.Proofs.YtalklmeejdmifaaGreatDoor
/-
  WHAT THE ROW's LIST (the tables and errors that package strconv reads) GIVES A WALK; a world that meets it.
-/
namespace Go.Proofs.YtalklmeejdmifaaGreatDoor
open Go.ChangeShapes Go.WideShapes Go.RowKit

theorem maxL_of {W : World} (h : W.ShapedOpen Tryz.prog) : ∃ m, MaxL W m :=
  Go.Proofs.cell_of_shapedOpen_int (zero := #[.int .i64 0]) (t := 3) h (by decide) (by kernel_rfl) rfl (by kernel_rfl) (by kernel_rfl) Tryz.underlying3

namespace laidW
theorem acc_eq : Rows.laid_unicode_utf8_acceptRanges = Lib.acceptData := by kernel_rfl
theorem first_eq : Rows.laid_unicode_utf8_first = Lib.firstData := Pinned.utf8First_eq
theorem pow_eq : (Rows.laid_internal_strconv_uint64pow10 : DataW Unit) = Lib.tabData .u64 Lib.pow10Tab := by kernel_rfl
theorem tab10_of {l : List (String × DataW Unit)} {W : World} (h : laidMet Tryz.prog (("internal/strconv.uint64pow10", Rows.laid_internal_strconv_uint64pow10) :: l) W) : Tab10 W := by
  rw [pow_eq] at h
  exact Lib.tabIs_of_head (n := 20) g10 (t := 384) (e := 325) (by kernel_rfl) Tryz.underlying384 Tryz.underlying325 (by kernel_rfl) (by kernel_rfl) h

abbrev frameList : List (String × DataW Unit) := [("math/bits.deBruijn32tab", Rows.laid_math_bits_deBruijn32tab), ("math/bits.deBruijn64tab", Rows.laid_math_bits_deBruijn64tab), ("internal/strconv.uint64pow10", Rows.laid_internal_strconv_uint64pow10), ("unicode/utf8.acceptRanges", Rows.laid_unicode_utf8_acceptRanges), ("strconv.ErrRange", Rows.laid_strconv_ErrRange), ("strconv.ErrSyntax", Rows.laid_strconv_ErrSyntax), ("unicode/utf8.first", Rows.laid_unicode_utf8_first)]
theorem frame_of {W : World} (h : laidMetH Tryz.prog frameList W) : Tab10 W :=
  tab10_of (laidMet.tail (laidMet.tail (show laidMet Tryz.prog frameList W from h)))

/-- the cells of an array of integers -/
def litV : DataW Unit → List Value
  | .agg ds => ds.map fun
    | .lit (.int k z) => .int k z
    | _ => .bool false
  | _ => []
/-- A world that meets the condition: the settled one, the variables' cells laid, the errors' blocks behind. -/
noncomputable def frameWorld (os : Os) : World :=
  let w0 := World.holding Tryz.prog os ⟨#[], #[], []⟩
  let put (h : Array Obj) (g : Nat) (cs : Array Value) : Array Obj := h.modify g fun
    | .cells _ t frozen => .cells cs t frozen
    | o => o
  let h1 := put w0.heap 3 (Lib.firstTab.map fun z => Value.int .u8 z).toArray
  let h2 := put h1 4 ((List.range 16).flatMap fun i => [Value.int .u8 (Lib.accLo i), Value.int .u8 (Lib.accHi i)]).toArray
  let h3 := put h2 8 (litV Rows.laid_math_bits_deBruijn32tab).toArray
  let h4 := put h3 9 (litV Rows.laid_math_bits_deBruijn64tab).toArray
  let h5 := put h4 7 (litV Rows.laid_internal_strconv_uint64pow10).toArray
  let n := h5.size
  let h6 := h5.push (.cells #[.string ⟨#[118, 97, 108, 117, 101, 32, 111, 117, 116, 32, 111, 102, 32, 114, 97, 110, 103, 101]⟩] 376)
  let h7 := h6.push (.cells #[.string ⟨#[105, 110, 118, 97, 108, 105, 100, 32, 115, 121, 110, 116, 97, 120]⟩] 376)
  let h8 := put h7 6 #[.iface 374 (.pointer (some ⟨n, 0, none⟩))]
  let h9 := put h8 5 #[.iface 374 (.pointer (some ⟨n + 1, 0, none⟩))]
  { w0 with heap := h9 }
set_option maxRecDepth 100000 in
theorem frame_met (os : Os) (args : Array Value) : laidMetH Tryz.prog frameList ((frameWorld os).forCall (fun _ _ => 0) ⟨#[], args, []⟩).memory := by
  unfold frameList
  rw [acc_eq, first_eq]
  exact (LaidIn.of_run (l := [("math/bits.deBruijn32tab", Rows.laid_math_bits_deBruijn32tab), ("math/bits.deBruijn64tab", Rows.laid_math_bits_deBruijn64tab), ("internal/strconv.uint64pow10", Rows.laid_internal_strconv_uint64pow10), ("unicode/utf8.acceptRanges", Lib.acceptData), ("strconv.ErrRange", Rows.laid_strconv_ErrRange), ("strconv.ErrSyntax", Rows.laid_strconv_ErrSyntax), ("unicode/utf8.first", Lib.firstData)]) (List.range 40) 8 (by kernel_rfl) (by kernel_rfl) (by kernel_rfl) (by kernel_rfl)).met
end laidW
end Go.Proofs.YtalklmeejdmifaaGreatDoor
/-
  WHAT THE ROW's LIST of the laws of tokens GIVES A WALK: as LaidW, and lex.words; a world that meets it.
-/
namespace Go.Proofs.YtalklmeejdmifaaGreatDoor
open Go.ChangeShapes Go.WideShapes Go.RowKit

namespace laidW
abbrev lexList : List (String × DataW Unit) := [("math/bits.deBruijn32tab", Rows.laid_math_bits_deBruijn32tab), ("math/bits.deBruijn64tab", Rows.laid_math_bits_deBruijn64tab), ("internal/strconv.uint64pow10", Rows.laid_internal_strconv_uint64pow10), ("unicode/utf8.acceptRanges", Rows.laid_unicode_utf8_acceptRanges), ("strconv.ErrRange", Rows.laid_strconv_ErrRange), ("strconv.ErrSyntax", Rows.laid_strconv_ErrSyntax), ("amanuensis/lex.words", Rows.laid_amanuensis_lex_words), ("unicode/utf8.first", Rows.laid_unicode_utf8_first)]
theorem t8_of {l : List (String × DataW Unit)} {W : World} (h : laidMet Tryz.prog l W) (h1 : ("unicode/utf8.acceptRanges", Rows.laid_unicode_utf8_acceptRanges) ∈ l) (h2 : ("unicode/utf8.first", Rows.laid_unicode_utf8_first) ∈ l) : T8 W := by
  rw [acc_eq] at h1
  rw [first_eq] at h2
  exact utf8Tabs_of_reads (ρ := Tryz.lays197_ren) { Tryz.lays197 with } ⟨by kernel_rfl, by kernel_rfl, by kernel_rfl, by kernel_rfl, by kernel_rfl, by kernel_rfl, by kernel_rfl⟩ (Lib.laidMet.reads h h2) (Lib.laidMet.reads h h1)
theorem gW : Tryz.prog.globalNamed "amanuensis/lex.words" = some 1 := by kernel_rfl
/-- the cells of an array of strings that reads as these -/
theorem cells_of_strs {H : Type} {enc : TypeId × Value → H} {P : Program} {w : World} {base : Nat} {sp : Nat → Bool} {held : Bool} {fuel : Nat} {t e : TypeId} {n : Nat} {cs : List Value} {zs : List Bs} {p : List MemPlace}
    (ht : P.underlying t = some (.array n e)) (he : P.underlying e = some .string) (hce : P.cellsOf e = 1) (hct : P.cellsOf t = n)
    (h : DataW.trod enc P w base sp held fuel t cs = some (.agg (zs.map fun z => .lit (.string z)), p)) : cs = txtV zs := by
  cases fuel with
  | zero => simp [DataW.trod] at h
  | succ fuel =>
    simp only [DataW.trod, ht, hce, hct, Nat.mul_one] at h
    split at h
    · rename_i hl
      obtain ⟨xs, hm, hx⟩ := Option.map_eq_some_iff.1 h
      have hxs : xs.map (·.1) = zs.map fun z => (DataW.lit (.string z) : DataW H) := by
        have := congrArg Prod.fst hx
        simpa using this
      have hxl : xs.length = n := by simpa using Lib.mapM_length hm
      have hzl : zs.length = n := by
        have := congrArg List.length hxs
        simp at this
        omega
      apply List.ext_getElem?
      intro i
      by_cases hi : i < n
      · obtain ⟨b, hb, hf⟩ := Lib.mapM_at hm i i (by simp [hi])
        obtain ⟨z, hc, rfl, _⟩ := DataW.trod_string he hf
        have h1 : cs[i]? = some (.string z) := by
          have := congrArg (·[0]?) hc
          simpa [List.getElem?_take, List.getElem?_drop] using this
        have h2 : (xs.map (·.1))[i]? = some (DataW.lit (.string z.data.toList) : DataW H) := by simp [hb]
        rw [hxs] at h2
        simp only [List.getElem?_map, Option.map_eq_some_iff, DataW.lit.injEq, Lit.string.injEq] at h2
        obtain ⟨z', hz', h3⟩ := h2
        rw [h1]
        simp only [txtV, List.getElem?_map, hz', Option.map_some, h3, strV]
      · rw [List.getElem?_eq_none (by omega), List.getElem?_eq_none (by rw [txtV_len]; omega)]
    · cases h
theorem words_eq : (Rows.laid_amanuensis_lex_words : DataW Unit) = .agg (Lx.words.map fun z => .lit (.string z)) := by kernel_rfl
theorem words_of {l : List (String × DataW Unit)} {W : World} (h : laidMet Tryz.prog l W) (h1 : ("amanuensis/lex.words", Rows.laid_amanuensis_lex_words) ∈ l) : WordsIs W := by
  obtain ⟨g, t, cs, fuel, p, e1, e2, e3, e4⟩ := Lib.laidMet.reads h h1
  obtain rfl := Option.some.inj (gW.symm.trans e1)
  have e5 : (Tryz.prog.globals[1]?).map (·.type) = some 304 := by kernel_rfl
  obtain rfl := Option.some.inj (e5.symm.trans e2)
  rw [words_eq] at e4
  have hc := cells_of_strs (n := 12) Tryz.underlying304 Tryz.underlying9 (by kernel_rfl) (by kernel_rfl) e4
  have hcell : ∀ i, W.cell? ⟨1, i, none⟩ = (txtV Lx.words)[i]? := fun i => by
    rw [World.var?_cell gW e3 i, ← hc]; simp
  refine ⟨by kernel_rfl, fun _ => ⟨_, 0, rfl, ?_, fun i u hu => by rw [Nat.zero_add, hcell]; exact hu⟩⟩
  exact World.block_lt_of_cell? (a := ⟨1, 0, none⟩) W (hcell 0)
theorem lex_of {W : World} (h : laidMetH Tryz.prog lexList W) : T8 W ∧ WordsIs W :=
  have h' : laidMet Tryz.prog lexList W := h
  ⟨t8_of h' (by simp [lexList]) (by simp [lexList]), words_of h' (by simp [lexList])⟩

/-- A world that meets the condition. -/
noncomputable def lexWorld (os : Os) : World :=
  let w0 := frameWorld os
  { w0 with heap := w0.heap.modify 1 fun
      | .cells _ t frozen => .cells (txtV Lx.words).toArray t frozen
      | o => o }
set_option maxRecDepth 100000 in
theorem lex_met (os : Os) (args : Array Value) : laidMetH Tryz.prog lexList ((lexWorld os).forCall (fun _ _ => 0) ⟨#[], args, []⟩).memory := by
  unfold lexList
  rw [acc_eq, first_eq]
  exact (LaidIn.of_run (l := [("math/bits.deBruijn32tab", Rows.laid_math_bits_deBruijn32tab), ("math/bits.deBruijn64tab", Rows.laid_math_bits_deBruijn64tab), ("internal/strconv.uint64pow10", Rows.laid_internal_strconv_uint64pow10), ("unicode/utf8.acceptRanges", Lib.acceptData), ("strconv.ErrRange", Rows.laid_strconv_ErrRange), ("strconv.ErrSyntax", Rows.laid_strconv_ErrSyntax), ("amanuensis/lex.words", Rows.laid_amanuensis_lex_words), ("unicode/utf8.first", Lib.firstData)]) (List.range 40) 8 (by kernel_rfl) (by kernel_rfl) (by kernel_rfl) (by kernel_rfl)).met
end laidW
end Go.Proofs.YtalklmeejdmifaaGreatDoor
