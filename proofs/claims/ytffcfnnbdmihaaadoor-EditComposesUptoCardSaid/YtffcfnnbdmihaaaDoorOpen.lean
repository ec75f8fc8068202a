/-
  AN ARGUMENT OF TYPE []api.Span, OPENED: it reads as spans; the bound of the second form bounds their number and their bytes.
-/
import Derived.Test.YtffcfnnbdmihaaaDoorSpan
import Derived.ProofKit
import Derived.OpenShut
import Derived.JoinedCond
import Derived.Deep.Slices
import Derived.Deep.Fields
import Derived.ChangeSame
namespace Go.Proofs.YtffcfnnbdmihaaaDoor
open Go.RowKit Go.ChangeShapes Go.WideShapes Go.Deep

namespace bulks
theorem one_le {H : Type} (d : DataW H) : 1 ≤ Rows.uptoBulk d := by
  cases d with
  | lit l => cases l <;> simp [Rows.uptoBulk]
  | nil => simp [Rows.uptoBulk]
  | ptr d => simp [Rows.uptoBulk]
  | slice elems spare => simp [Rows.uptoBulk]
  | agg parts => simp [Rows.uptoBulk]
  | iface t d => simp [Rows.uptoBulk]
  | map entries => simp [Rows.uptoBulk]
  | held h => simp [Rows.uptoBulk]
theorem append {H : Type} (l r : List (DataW H)) : Rows.uptoBulkAll (l ++ r) = Rows.uptoBulkAll l + Rows.uptoBulkAll r := by
  induction l with
  | nil => simp [Rows.uptoBulkAll]
  | cons x l ih => simp only [List.cons_append, Rows.uptoBulkAll, ih]; omega
theorem bound {H : Type} {l : List (DataW H)} (hk : Rows.uptoSmall H l = true) : Rows.uptoBulkAll l ≤ 1048576 := of_decide_eq_true hk
end bulks

section
variable {H : Type} {enc : TypeId × Value → H} {P : Program} {w : World} {base : Nat} {spare : Nat → Bool} {held : Bool}
theorem open_slice_fields {t e : TypeId} {fs : Array Field} {fuel : Nat} {cs : List Value} {x : DataW H × List MemPlace} (ht : P.underlying t = some (.slice e)) (he : P.underlying e = some (.struct fs))
    (hone : oneCellFields P fs = true) (hC : P.cellsOf e = fs.size) (h : DataW.trod enc P w base spare held fuel t cs = some x) :
    (cs = [.slice none 0 0] ∧ x = (.nil, [])) ∨
    ∃ (a : Addr) (len cap m : Nat) (D : Nat → DataW H) (Pl : Nat → List MemPlace), cs = [.slice (some a) len cap] ∧ base ≤ a.block ∧ len ≤ cap ∧ cap ≤ maxLen ∧ m = (if spare a.block then cap else len) ∧
      x = (.slice ((List.range len).map D) ((List.range (m - len)).map fun j => D (len + j)), MemPlace.row a (m * fs.size) ++ (List.range m).flatMap Pl) ∧
      ∀ i, i < m → ∃ (ys : List (DataW H × List MemPlace)) (n : Nat), D i = .agg (ys.map (·.1)) ∧ Pl i = ys.flatMap (·.2) ∧ ys.length = fs.size ∧
        ∀ (j : Nat) (f : Field), fs[j]? = some f → ∃ (v : Value) (y : DataW H × List MemPlace), w.cell? (a.add (i * fs.size + j)) = some v ∧ ys[j]? = some y ∧ DataW.trod enc P w base spare held n f.type [v] = some y := by
  rcases open_slice ht h with h0 | ⟨a, len, cap, m, n, D, Pl, hcs, hb, hl, hm, hmm, hx, hi⟩
  · exact .inl h0
  · refine .inr ⟨a, len, cap, m, D, Pl, hcs, hb, hl, hm, hmm, by rw [hC] at hx; exact hx, fun i him => ?_⟩
    obtain ⟨cs', hc, ht'⟩ := hi i him
    rw [hC] at hc
    obtain ⟨ys, n', hn', hy, hlen, hyl, hf⟩ := DataW.trod_struct he ht'
    obtain ⟨_, hcl, hat⟩ := World.cells?_some hc
    simp only [Prod.mk.injEq] at hy
    refine ⟨ys, n', hy.1, hy.2, hyl, fun j f hj => ?_⟩
    obtain ⟨ho, hk⟩ := hone_of hone j f hj
    have hjl : j < fs.size := (Array.getElem?_eq_some_iff.1 hj).1
    have hcell := hat j hjl
    have hv : cs'[j]? = some (cs'[j]'(by omega)) := List.getElem?_eq_getElem (by omega)
    have h1 := hf j f hj
    rw [ho, hk] at h1
    have hone' : (cs'.drop j).take 1 = [cs'[j]'(by omega)] := by
      rw [List.drop_eq_getElem_cons (by omega)]
      rfl
    rw [hone'] at h1
    have hys : ys[j]? = some (ys[j]'(by omega)) := List.getElem?_eq_getElem (by omega)
    refine ⟨_, _, ?_, hys, h1.trans hys⟩
    rw [← Go.Deep.add_add, hcell, hv]
end

theorem add_cells {w : World} {a : Addr} {k : Nat} {u : Value} (h : w.cell? (a.add k) = some u) : w.cell? ⟨a.block, a.off + k, none⟩ = some u := by
  unfold Addr.add at h
  by_cases hk : k = 0
  · subst hk
    simp only [if_true, Nat.add_zero] at h ⊢
    unfold World.cell? at h ⊢
    split at h
    · rename_i hh
      rw [hh]
      by_cases hs : a.spot.isSome = true
      · simp [hs] at h
      · simpa [hs] using h
    · cases h
  · rw [if_neg hk] at h; exact h

theorem spot_none {w : World} {a : Addr} {k : Nat} {u : Value} (h : w.cell? (a.add k) = some u) (hk : k = 0) : a = ⟨a.block, a.off, none⟩ := by
  subst hk
  unfold Addr.add at h
  simp only [if_true] at h
  obtain ⟨b, o, s⟩ := a
  unfold World.cell? at h
  split at h
  · cases s with
    | none => rfl
    | some _ => simp at h
  · cases h

set_option maxRecDepth 100000 in
theorem open_spans {H : Type} {enc : TypeId × Value → H} {w : World} {base : Nat} {spare : Nat → Bool} {held : Bool} {b0 : Nat} {v : Value} {d : DataW H} {p : List MemPlace}
    (hv : Value.okWide Tryd.prog w .any b0 41 v) (h : DataW.Trod enc Tryd.prog w base spare held 41 v d p) :
    ∃ (A : Option Addr) (c : Nat) (l : List Sp), v = .slice A l.length c ∧ Rd w w.heap.size 3 A l.length (spCells l) ∧ l.length + spBytes l + 1 ≤ Rows.uptoBulk d := by
  obtain ⟨A, len, cap, rfl⟩ := okWide_slice Tryd.underlying41 hv
  obtain ⟨fuel, hf⟩ := h
  rcases open_slice_fields Tryd.underlying41 Tryd.underlying100 (by kernel_rfl) (by kernel_rfl) hf with ⟨hcs, hx⟩ | ⟨a, len', cap', m, D, Pl, hcs, hbs, hl, hm, hmm, hx, hi⟩
  · simp only [Value.cells, List.cons.injEq, Value.slice.injEq, and_true] at hcs
    obtain ⟨rfl, rfl, rfl⟩ := hcs
    exact ⟨none, 0, [], rfl, Rd.none_, by simp only [Prod.mk.injEq] at hx; rw [hx.1]; simp [Rows.uptoBulk, spBytes]⟩
  · simp only [Value.cells, List.cons.injEq, Value.slice.injEq, and_true] at hcs
    obtain ⟨rfl, rfl, rfl⟩ := hcs
    have hlm : len ≤ m := by rw [hmm]; split <;> omega
    have key : ∀ n, n ≤ len → ∃ l : List Sp, l.length = n ∧ (∀ i (hi : i < l.length), ∀ j u, l[i].cells[j]? = some u → w.cell? ⟨a.block, a.off + (i * 3 + j), none⟩ = some u) ∧ l.length + spBytes l ≤ Rows.uptoBulkAll ((List.range n).map D) := by
      intro n
      induction n with
      | zero => intro _; exact ⟨[], rfl, by simp, by simp [spBytes]⟩
      | succ n ih =>
        intro hn
        obtain ⟨l, hln, hc, hbk⟩ := ih (by omega)
        obtain ⟨ys, k, hD, _, hyl, hfs⟩ := hi n (by omega)
        obtain ⟨v0, y0, c0, e0, t0⟩ := hfs 0 _ rfl
        obtain ⟨v1, y1, c1, e1, t1⟩ := hfs 1 _ rfl
        obtain ⟨v2, y2, c2, e2, t2⟩ := hfs 2 _ rfl
        obtain ⟨x0, q0, rfl, _⟩ := DataW.trod_int Tryd.underlying3 t0
        obtain ⟨x1, q1, rfl, _⟩ := DataW.trod_int Tryd.underlying3 t1
        obtain ⟨x2, q2, rfl, _⟩ := DataW.trod_string Tryd.underlying9 t2
        simp only [List.cons.injEq, and_true] at q0 q1 q2
        subst q0 q1 q2
        refine ⟨l ++ [⟨x0, x1, x2⟩], by simp [hln], fun i hi j u hu => ?_, ?_⟩
        · rw [List.getElem_append] at hu
          split at hu
          · exact hc i (by assumption) j u hu
          · have hin : i = n := by simp at hi; omega
            subst hin
            simp [Sp.cells] at hu
            match j, hu with
            | 0, hu => simp at hu; subst hu; exact add_cells c0
            | 1, hu => simp at hu; subst hu; exact add_cells c1
            | 2, hu => simp at hu; subst hu; exact add_cells c2
        · rw [List.range_succ, List.map_append, bulks.append, spBytes_snoc]
          match ys, hyl, e0, e1, e2 with
          | [z0, z1, z2], _, e0, e1, e2 =>
            simp at e0 e1 e2
            subst e0 e1 e2
            simp only [List.map_cons, List.map_nil, Rows.uptoBulkAll, hD, Rows.uptoBulk, List.length_append, List.length_singleton, dlen]
            omega
    obtain ⟨l, hln, hc, hbk⟩ := key len (Nat.le_refl _)
    subst hln
    refine ⟨some a, cap, l, rfl, ⟨spCells_len l, fun hn => ?_⟩, ?_⟩
    · refine ⟨a.block, a.off, ?_, ?_, ?_⟩
      · obtain ⟨ys, k, _, _, _, hfs⟩ := hi 0 (by omega)
        obtain ⟨v0, y0, c0, _⟩ := hfs 0 _ rfl
        rw [← spot_none c0 (by simp)]
      · have := hc 0 hn 0 _ rfl
        exact World.block_lt_of_cell? w ⟨a.block, _, none⟩ this
      · intro j u hu
        have hj : j < l.length * 3 := by
          have := (List.getElem?_eq_some_iff.1 hu).1
          rwa [spCells_len] at this
        have h3 : j / 3 < l.length := by omega
        have := spCells_get l (j / 3) (j % 3) (Nat.mod_lt _ (by omega)) h3
        rw [show j / 3 * 3 + j % 3 = j from by omega] at this
        rw [this] at hu
        have := hc _ h3 _ _ hu
        rwa [show j / 3 * 3 + j % 3 = j from by omega] at this
    · simp only [Prod.mk.injEq] at hx
      rw [hx.1]
      simp only [Rows.uptoBulk]
      omega
end Go.Proofs.YtffcfnnbdmihaaaDoor
