/-
  ARGUMENTS OF TYPE []string AND []int, OPENED: what they read as; the bound of the second form bounds their number and their bytes.
-/
import Derived.Test.YtgpjcjnimheglaaGreatDoorWF
import Derived.ProofKit
import Derived.OpenShut
import Derived.JoinedCond
import Derived.Deep.Slices
import Derived.Deep.Fields
import Derived.ChangeSame
import Derived.SliceStrings
namespace Go.Proofs.YtgpjcjnimheglaaGreatDoor
open Go.RowKit Go.ChangeShapes Go.WideShapes Go.Deep

namespace bulks
theorem one_le {H : Type} (d : DataW H) : 1 ≤ Rows.uptoBulk d := by
  cases d with
  | lit l => cases l <;> simp [Rows.uptoBulk]
  | nil => simp [Rows.uptoBulk]
  | ptr d => simp [Rows.uptoBulk]
  | slice elems spare => simp [Rows.uptoBulk]
  | agg parts => simp [Rows.uptoBulk]
  | iface t d => simp [Rows.uptoBulk]
  | map entries => simp [Rows.uptoBulk]
  | held h => simp [Rows.uptoBulk]
theorem append {H : Type} (l r : List (DataW H)) : Rows.uptoBulkAll (l ++ r) = Rows.uptoBulkAll l + Rows.uptoBulkAll r := by
  induction l with
  | nil => simp [Rows.uptoBulkAll]
  | cons x l ih => simp only [List.cons_append, Rows.uptoBulkAll, ih]; omega
theorem bound {H : Type} {l : List (DataW H)} (hk : Rows.uptoSmall H l = true) : Rows.uptoBulkAll l ≤ 1048576 := of_decide_eq_true hk
theorem many {H : Type} : ∀ l : List (DataW H), l.length ≤ Rows.uptoBulkAll l
  | [] => by simp [Rows.uptoBulkAll]
  | d :: l => by have := many l; have := one_le d; simp only [Rows.uptoBulkAll, List.length_cons]; omega
theorem strs {H : Type} : ∀ l : List ByteArray, l.length + (l.map fun s => s.data.toList.length).sum ≤ Rows.uptoBulkAll (Go.ChangeShapes.strs (H := H) l)
  | [] => by simp [Go.ChangeShapes.strs, Rows.uptoBulkAll]
  | s :: l => by
    have := strs (H := H) l
    simp only [Go.ChangeShapes.strs, List.map_cons, Rows.uptoBulkAll, Rows.uptoBulk, List.length_cons, List.sum_cons] at *
    omega
end bulks

theorem add_cells {w : World} {a : Addr} {k : Nat} {u : Value} (h : w.cell? (a.add k) = some u) : w.cell? ⟨a.block, a.off + k, none⟩ = some u := by
  unfold Addr.add at h
  by_cases hk : k = 0
  · subst hk
    simp only [if_true, Nat.add_zero] at h ⊢
    unfold World.cell? at h ⊢
    split at h
    · rename_i hh
      rw [hh]
      by_cases hs : a.spot.isSome = true
      · simp [hs] at h
      · simpa [hs] using h
    · cases h
  · rw [if_neg hk] at h; exact h

theorem spot_none {w : World} {a : Addr} {k : Nat} {u : Value} (h : w.cell? (a.add k) = some u) (hk : k = 0) : a = ⟨a.block, a.off, none⟩ := by
  subst hk
  unfold Addr.add at h
  simp only [if_true] at h
  obtain ⟨b, o, s⟩ := a
  unfold World.cell? at h
  split at h
  · cases s with
    | none => rfl
    | some _ => simp at h
  · cases h

set_option maxRecDepth 100000 in
theorem open_ints' {H : Type} {enc : TypeId × Value → H} {w : World} {base : Nat} {spare : Nat → Bool} {held : Bool} {b0 : Nat} {v : Value} {d : DataW H} {p : List MemPlace}
    (hv : Value.okWide Tryz.prog w .any b0 130 v) (h : DataW.Trod enc Tryz.prog w base spare held 130 v d p) :
    ∃ (A : Option Addr) (c : Nat) (l : List Int), v = .slice A l.length c ∧ Rd w w.heap.size 1 A l.length (intV l) ∧ l.length + 1 ≤ Rows.uptoBulk d := by
  obtain ⟨A, len, cap, rfl⟩ := okWide_slice Tryz.underlying130 hv
  obtain ⟨fuel, hf⟩ := h
  rcases Go.ChangeShapes.open_ints Tryz.underlying130 Tryz.underlying3 (by kernel_rfl) hf with ⟨hcs, hx⟩ | ⟨a, len', cap', zs, hcs, hbs, hl, hm, hzl, hx, hcell, hwf⟩
  · simp only [Value.cells, List.cons.injEq, Value.slice.injEq, and_true] at hcs
    obtain ⟨rfl, rfl, rfl⟩ := hcs
    exact ⟨none, 0, [], rfl, Rd.none_, by have := bulks.one_le d; simpa using this⟩
  · simp only [Value.cells, List.cons.injEq, Value.slice.injEq, and_true] at hcs
    obtain ⟨rfl, rfl, rfl⟩ := hcs
    have hlz : len ≤ zs.length := by rw [hzl]; split <;> omega
    have htl : (zs.take len).length = len := by simp; omega
    refine ⟨some a, cap, zs.take len, by rw [htl], ⟨by simp [intV], fun hn => ?_⟩, ?_⟩
    · rw [htl] at hn
      have h0 := hcell 0 (by omega)
      refine ⟨a.block, a.off, by rw [← spot_none h0 rfl], World.block_lt_of_cell? w ⟨a.block, _, none⟩ (add_cells h0), fun j u hu => ?_⟩
      have hj : j < len := by
        have := (List.getElem?_eq_some_iff.1 hu).1
        simp [intV] at this
        omega
      have h1 := add_cells (hcell j (by omega))
      rw [h1, ← hu]
      unfold intV
      rw [List.getElem?_map, List.getElem?_take, if_pos hj, List.getD_eq_getElem?_getD, List.getElem?_eq_getElem (by omega)]; rfl
    · simp only [Prod.mk.injEq] at hx
      rw [hx.1, htl]
      have := bulks.many (lits .i64 (zs.take len) : List (DataW H))
      have e : (lits .i64 (zs.take len) : List (DataW H)).length = len := by simp [lits]; omega
      rw [e] at this
      simp only [Rows.uptoBulk]
      omega

set_option maxRecDepth 100000 in
theorem open_texts_at {H : Type} {enc : TypeId × Value → H} {w : World} {base : Nat} {spare : Nat → Bool} {held : Bool} {fuel : Nat} {v : Value} {d : DataW H} {p : List MemPlace}
    (hf : DataW.trod enc Tryz.prog w base spare held fuel 67 [v] = some (d, p)) :
    ∃ (A : Option Addr) (c : Nat) (l : List Bs), v = .slice A l.length c ∧ Rd w w.heap.size 1 A l.length (txtV l) ∧ l.length + (l.map List.length).sum + 1 ≤ Rows.uptoBulk d := by
  rcases open_strings Tryz.underlying67 Tryz.underlying9 (by kernel_rfl) hf with ⟨hcs, hx⟩ | ⟨a, len, cap, ss, hcs, hbs, hl, hm, hzl, hx, hcell, _⟩
  · simp only [List.cons.injEq, and_true] at hcs
    subst hcs
    exact ⟨none, 0, [], rfl, Rd.none_, by have := bulks.one_le d; simpa using this⟩
  · simp only [List.cons.injEq, and_true] at hcs
    subst hcs
    have hlz : len ≤ ss.length := by rw [hzl]; split <;> omega
    have htl : ((ss.take len).map fun s => s.data.toList).length = len := by simp; omega
    refine ⟨some a, cap, (ss.take len).map fun s => s.data.toList, by rw [htl], ⟨by simp [txtV], fun hn => ?_⟩, ?_⟩
    · rw [htl] at hn
      have h0 := hcell 0 (by omega)
      refine ⟨a.block, a.off, by rw [← spot_none h0 rfl], World.block_lt_of_cell? w ⟨a.block, _, none⟩ (add_cells h0), fun j u hu => ?_⟩
      have hj : j < len := by
        have := (List.getElem?_eq_some_iff.1 hu).1
        simp [txtV] at this
        omega
      have h1 := add_cells (hcell j (by omega))
      rw [h1, ← hu]
      unfold txtV strV
      rw [List.getElem?_map, List.getElem?_map, List.getElem?_take, if_pos hj, List.getD_eq_getElem?_getD, List.getElem?_eq_getElem (by omega)]
      simp only [Option.map_some, Option.getD_some, Lib.mk_data]
    · simp only [Prod.mk.injEq] at hx
      rw [hx.1, htl]
      have := bulks.strs (H := H) (ss.take len)
      simp only [List.length_take, List.map_map] at this ⊢
      have e : (List.length ∘ fun s : ByteArray => s.data.toList) = fun s : ByteArray => s.data.toList.length := rfl
      rw [e]
      simp only [Rows.uptoBulk]
      omega
set_option maxRecDepth 100000 in
theorem open_texts {H : Type} {enc : TypeId × Value → H} {w : World} {base : Nat} {spare : Nat → Bool} {held : Bool} {b0 : Nat} {v : Value} {d : DataW H} {p : List MemPlace}
    (hv : Value.okWide Tryz.prog w .any b0 67 v) (h : DataW.Trod enc Tryz.prog w base spare held 67 v d p) :
    ∃ (A : Option Addr) (c : Nat) (l : List Bs), v = .slice A l.length c ∧ Rd w w.heap.size 1 A l.length (txtV l) ∧ l.length + (l.map List.length).sum + 1 ≤ Rows.uptoBulk d := by
  obtain ⟨A, len, cap, rfl⟩ := okWide_slice Tryz.underlying67 hv
  obtain ⟨fuel, hf⟩ := h
  exact open_texts_at hf
end Go.Proofs.YtgpjcjnimheglaaGreatDoor
