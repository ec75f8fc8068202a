/-
  AN ARGUMENT OF TYPE []api.Span, OPENED: each span counts four besides its bytes.
-/
import Derived.Test.YtffcfnnbdmihaaaDoorOpen
namespace Go.Proofs.YtffcfnnbdmihaaaDoor
open Go.RowKit Go.ChangeShapes Go.WideShapes Go.Deep

set_option maxRecDepth 100000 in
theorem open_spans4 {H : Type} {enc : TypeId × Value → H} {w : World} {base : Nat} {spare : Nat → Bool} {held : Bool} {b0 : Nat} {v : Value} {d : DataW H} {p : List MemPlace}
    (hv : Value.okWide Tryd.prog w .any b0 41 v) (h : DataW.Trod enc Tryd.prog w base spare held 41 v d p) :
    ∃ (A : Option Addr) (c : Nat) (l : List Sp), v = .slice A l.length c ∧ Rd w w.heap.size 3 A l.length (spCells l) ∧ 4 * l.length + spBytes l + 1 ≤ Rows.uptoBulk d := by
  obtain ⟨A, len, cap, rfl⟩ := okWide_slice Tryd.underlying41 hv
  obtain ⟨fuel, hf⟩ := h
  rcases open_slice_fields Tryd.underlying41 Tryd.underlying100 (by kernel_rfl) (by kernel_rfl) hf with ⟨hcs, hx⟩ | ⟨a, len', cap', m, D, Pl, hcs, hbs, hl, hm, hmm, hx, hi⟩
  · simp only [Value.cells, List.cons.injEq, Value.slice.injEq, and_true] at hcs
    obtain ⟨rfl, rfl, rfl⟩ := hcs
    exact ⟨none, 0, [], rfl, Rd.none_, by simp only [Prod.mk.injEq] at hx; rw [hx.1]; simp [Rows.uptoBulk, spBytes]⟩
  · simp only [Value.cells, List.cons.injEq, Value.slice.injEq, and_true] at hcs
    obtain ⟨rfl, rfl, rfl⟩ := hcs
    have hlm : len ≤ m := by rw [hmm]; split <;> omega
    have key : ∀ n, n ≤ len → ∃ l : List Sp, l.length = n ∧ (∀ i (hi : i < l.length), ∀ j u, l[i].cells[j]? = some u → w.cell? ⟨a.block, a.off + (i * 3 + j), none⟩ = some u) ∧ 4 * l.length + spBytes l ≤ Rows.uptoBulkAll ((List.range n).map D) := by
      intro n
      induction n with
      | zero => intro _; exact ⟨[], rfl, by simp, by simp [spBytes]⟩
      | succ n ih =>
        intro hn
        obtain ⟨l, hln, hc, hbk⟩ := ih (by omega)
        obtain ⟨ys, k, hD, _, hyl, hfs⟩ := hi n (by omega)
        obtain ⟨v0, y0, c0, e0, t0⟩ := hfs 0 _ rfl
        obtain ⟨v1, y1, c1, e1, t1⟩ := hfs 1 _ rfl
        obtain ⟨v2, y2, c2, e2, t2⟩ := hfs 2 _ rfl
        obtain ⟨x0, q0, rfl, _⟩ := DataW.trod_int Tryd.underlying3 t0
        obtain ⟨x1, q1, rfl, _⟩ := DataW.trod_int Tryd.underlying3 t1
        obtain ⟨x2, q2, rfl, _⟩ := DataW.trod_string Tryd.underlying9 t2
        simp only [List.cons.injEq, and_true] at q0 q1 q2
        subst q0 q1 q2
        refine ⟨l ++ [⟨x0, x1, x2⟩], by simp [hln], fun i hi j u hu => ?_, ?_⟩
        · rw [List.getElem_append] at hu
          split at hu
          · exact hc i (by assumption) j u hu
          · have hin : i = n := by simp at hi; omega
            subst hin
            simp [Sp.cells] at hu
            match j, hu with
            | 0, hu => simp at hu; subst hu; exact add_cells c0
            | 1, hu => simp at hu; subst hu; exact add_cells c1
            | 2, hu => simp at hu; subst hu; exact add_cells c2
        · rw [List.range_succ, List.map_append, bulks.append, spBytes_snoc]
          match ys, hyl, e0, e1, e2 with
          | [z0, z1, z2], _, e0, e1, e2 =>
            simp at e0 e1 e2
            subst e0 e1 e2
            simp only [List.map_cons, List.map_nil, Rows.uptoBulkAll, hD, Rows.uptoBulk, List.length_append, List.length_singleton, dlen]
            omega
    obtain ⟨l, hln, hc, hbk⟩ := key len (Nat.le_refl _)
    subst hln
    refine ⟨some a, cap, l, rfl, ⟨spCells_len l, fun hn => ?_⟩, ?_⟩
    · refine ⟨a.block, a.off, ?_, ?_, ?_⟩
      · obtain ⟨ys, k, _, _, _, hfs⟩ := hi 0 (by omega)
        obtain ⟨v0, y0, c0, _⟩ := hfs 0 _ rfl
        rw [← spot_none c0 (by simp)]
      · have := hc 0 hn 0 _ rfl
        exact World.block_lt_of_cell? w ⟨a.block, _, none⟩ this
      · intro j u hu
        have hj : j < l.length * 3 := by
          have := (List.getElem?_eq_some_iff.1 hu).1
          rwa [spCells_len] at this
        have h3 : j / 3 < l.length := by omega
        have := spCells_get l (j / 3) (j % 3) (Nat.mod_lt _ (by omega)) h3
        rw [show j / 3 * 3 + j % 3 = j from by omega] at this
        rw [this] at hu
        have := hc _ h3 _ _ hu
        rwa [show j / 3 * 3 + j % 3 = j from by omega] at this
    · simp only [Prod.mk.injEq] at hx
      rw [hx.1]
      simp only [Rows.uptoBulk]
      omega
end Go.Proofs.YtffcfnnbdmihaaaDoor
