/-
  AN ARGUMENT OF TYPE []Step, OPENED: records that hold a list of spans each.
-/
import Derived.Test.YtffcfnnbdmihaaaDoorOpen
namespace Go.Proofs.YtffcfnnbdmihaaaDoor
open Go.RowKit Go.ChangeShapes Go.WideShapes Go.Deep

structure St where
  op : Int
  n : Int
  A : Option Addr
  c : Nat
  sp : List Sp

def St.cells (p : St) : List Value := [.int .i64 p.op, .int .i64 p.n, .slice p.A p.sp.length p.c]
def stCells (l : List St) : List Value := l.flatMap St.cells
def stBulk (l : List St) : Nat := (l.map fun s => s.sp.length + spBytes s.sp).sum
theorem stBulk_snoc (l : List St) (s : St) : stBulk (l ++ [s]) = stBulk l + (s.sp.length + spBytes s.sp) := by simp [stBulk]
theorem stBulk_take (l : List St) (k : Nat) : stBulk (l.take k) ≤ stBulk l := by
  have h : stBulk (l.take k ++ l.drop k) = stBulk (l.take k) + stBulk (l.drop k) := by simp only [stBulk, List.map_append, List.sum_append]
  rw [List.take_append_drop] at h
  omega
theorem stCells_len (l : List St) : (stCells l).length = l.length * 3 := by
  induction l with
  | nil => rfl
  | cons a l ih => simp only [stCells, List.flatMap_cons, List.length_append, List.length_cons] at *; rw [ih]; simp [St.cells]; omega
theorem stCells_get (l : List St) (k j : Nat) (hj : j < 3) (hk : k < l.length) : (stCells l)[k * 3 + j]? = (l[k].cells)[j]? := by
  induction l generalizing k with
  | nil => simp at hk
  | cons a l ih =>
    cases k with
    | zero => simp only [stCells, List.flatMap_cons]; rw [List.getElem?_append_left (by simp [St.cells]; omega)]; simp
    | succ k =>
      have h3 : a.cells.length = 3 := rfl
      simp only [stCells, List.flatMap_cons]
      rw [List.getElem?_append_right (by omega), h3]
      have e : (k + 1) * 3 + j - 3 = k * 3 + j := by omega
      rw [e]
      have := ih k (by simpa using hk)
      simpa [stCells] using this

theorem Rd.st {w : World} {B : Nat} {A : Option Addr} {l : List St} {k : Nat} (h : Rd w B 3 A l.length (stCells l)) (hk : k < l.length) :
    ∃ b o, A = some ⟨b, o, none⟩ ∧ b < B ∧ w.cell? ⟨b, o + k * 3, none⟩ = some (.int .i64 l[k].op) ∧ w.cell? ⟨b, o + k * 3 + 1, none⟩ = some (.int .i64 l[k].n) ∧ w.cell? ⟨b, o + k * 3 + 2, none⟩ = some (.slice l[k].A l[k].sp.length l[k].c) := by
  obtain ⟨b, o, e, hb, hc⟩ := h.2 (by omega)
  refine ⟨b, o, e, hb, ?_, ?_, ?_⟩
  · have := hc (k * 3 + 0) _ (stCells_get l k 0 (by omega) hk); simpa [Nat.add_assoc] using this
  · have := hc (k * 3 + 1) _ (stCells_get l k 1 (by omega) hk); simpa [Nat.add_assoc] using this
  · have := hc (k * 3 + 2) _ (stCells_get l k 2 (by omega) hk); simpa [Nat.add_assoc] using this

set_option maxRecDepth 100000 in
theorem open_spans_at {H : Type} {enc : TypeId × Value → H} {w : World} {base : Nat} {spare : Nat → Bool} {held : Bool} {fuel : Nat} {v : Value} {d : DataW H} {p : List MemPlace}
    (hf : DataW.trod enc Tryd.prog w base spare held fuel 41 [v] = some (d, p)) :
    ∃ (A : Option Addr) (c : Nat) (l : List Sp), v = .slice A l.length c ∧ Rd w w.heap.size 3 A l.length (spCells l) ∧ l.length + spBytes l + 1 ≤ Rows.uptoBulk d := by
  rcases open_slice_fields Tryd.underlying41 Tryd.underlying100 (by kernel_rfl) (by kernel_rfl) hf with ⟨hcs, hx⟩ | ⟨a, len, cap, m, D, Pl, hcs, hbs, hl, hm, hmm, hx, hi⟩
  · simp only [List.cons.injEq, and_true] at hcs
    subst hcs
    exact ⟨none, 0, [], rfl, Rd.none_, by simp only [Prod.mk.injEq] at hx; rw [hx.1]; simp [Rows.uptoBulk, spBytes]⟩
  · simp only [List.cons.injEq, and_true] at hcs
    subst hcs
    have hlm : len ≤ m := by rw [hmm]; split <;> omega
    have key : ∀ n, n ≤ len → ∃ l : List Sp, l.length = n ∧ (∀ i (hi : i < l.length), ∀ j u, l[i].cells[j]? = some u → w.cell? ⟨a.block, a.off + (i * 3 + j), none⟩ = some u) ∧ l.length + spBytes l ≤ Rows.uptoBulkAll ((List.range n).map D) := by
      intro n
      induction n with
      | zero => intro _; exact ⟨[], rfl, by simp, by simp [spBytes]⟩
      | succ n ih =>
        intro hn
        obtain ⟨l, hln, hc, hbk⟩ := ih (by omega)
        obtain ⟨ys, k, hD, _, hyl, hfs⟩ := hi n (by omega)
        obtain ⟨v0, y0, c0, e0, t0⟩ := hfs 0 _ rfl
        obtain ⟨v1, y1, c1, e1, t1⟩ := hfs 1 _ rfl
        obtain ⟨v2, y2, c2, e2, t2⟩ := hfs 2 _ rfl
        obtain ⟨x0, q0, rfl, _⟩ := DataW.trod_int Tryd.underlying3 t0
        obtain ⟨x1, q1, rfl, _⟩ := DataW.trod_int Tryd.underlying3 t1
        obtain ⟨x2, q2, rfl, _⟩ := DataW.trod_string Tryd.underlying9 t2
        simp only [List.cons.injEq, and_true] at q0 q1 q2
        subst q0 q1 q2
        refine ⟨l ++ [⟨x0, x1, x2⟩], by simp [hln], fun i hi j u hu => ?_, ?_⟩
        · rw [List.getElem_append] at hu
          split at hu
          · exact hc i (by assumption) j u hu
          · have hin : i = n := by simp at hi; omega
            subst hin
            simp [Sp.cells] at hu
            match j, hu with
            | 0, hu => simp at hu; subst hu; exact add_cells c0
            | 1, hu => simp at hu; subst hu; exact add_cells c1
            | 2, hu => simp at hu; subst hu; exact add_cells c2
        · rw [List.range_succ, List.map_append, bulks.append, spBytes_snoc]
          match ys, hyl, e0, e1, e2 with
          | [z0, z1, z2], _, e0, e1, e2 =>
            simp at e0 e1 e2
            subst e0 e1 e2
            simp only [List.map_cons, List.map_nil, Rows.uptoBulkAll, hD, Rows.uptoBulk, List.length_append, List.length_singleton, dlen]
            omega
    obtain ⟨l, hln, hc, hbk⟩ := key len (Nat.le_refl _)
    subst hln
    refine ⟨some a, cap, l, rfl, ⟨spCells_len l, fun hn => ?_⟩, ?_⟩
    · refine ⟨a.block, a.off, ?_, ?_, ?_⟩
      · obtain ⟨ys, k, _, _, _, hfs⟩ := hi 0 (by omega)
        obtain ⟨v0, y0, c0, _⟩ := hfs 0 _ rfl
        rw [← spot_none c0 (by simp)]
      · have := hc 0 hn 0 _ rfl
        exact World.block_lt_of_cell? w ⟨a.block, _, none⟩ this
      · intro j u hu
        have hj : j < l.length * 3 := by
          have := (List.getElem?_eq_some_iff.1 hu).1
          rwa [spCells_len] at this
        have h3 : j / 3 < l.length := by omega
        have := spCells_get l (j / 3) (j % 3) (Nat.mod_lt _ (by omega)) h3
        rw [show j / 3 * 3 + j % 3 = j from by omega] at this
        rw [this] at hu
        have := hc _ h3 _ _ hu
        rwa [show j / 3 * 3 + j % 3 = j from by omega] at this
    · simp only [Prod.mk.injEq] at hx
      rw [hx.1]
      simp only [Rows.uptoBulk]
      omega

set_option maxRecDepth 100000 in
theorem open_steps {H : Type} {enc : TypeId × Value → H} {w : World} {base : Nat} {spare : Nat → Bool} {held : Bool} {b0 : Nat} {v : Value} {d : DataW H} {p : List MemPlace}
    (hv : Value.okWide Tryd.prog w .any b0 72 v) (h : DataW.Trod enc Tryd.prog w base spare held 72 v d p) :
    ∃ (A : Option Addr) (c : Nat) (l : List St), v = .slice A l.length c ∧ Rd w w.heap.size 3 A l.length (stCells l) ∧ (∀ s ∈ l, Rd w w.heap.size 3 s.A s.sp.length (spCells s.sp)) ∧ l.length + stBulk l + 1 ≤ Rows.uptoBulk d := by
  obtain ⟨A, len, cap, rfl⟩ := okWide_slice Tryd.underlying72 hv
  obtain ⟨fuel, hf⟩ := h
  rcases open_slice_fields Tryd.underlying72 Tryd.underlying80 (by kernel_rfl) (by kernel_rfl) hf with ⟨hcs, hx⟩ | ⟨a, len', cap', m, D, Pl, hcs, hbs, hl, hm, hmm, hx, hi⟩
  · simp only [Value.cells, List.cons.injEq, Value.slice.injEq, and_true] at hcs
    obtain ⟨rfl, rfl, rfl⟩ := hcs
    exact ⟨none, 0, [], rfl, Rd.none_, by simp, by simp only [Prod.mk.injEq] at hx; rw [hx.1]; simp [Rows.uptoBulk, stBulk]⟩
  · simp only [Value.cells, List.cons.injEq, Value.slice.injEq, and_true] at hcs
    obtain ⟨rfl, rfl, rfl⟩ := hcs
    have hlm : len ≤ m := by rw [hmm]; split <;> omega
    have key : ∀ n, n ≤ len → ∃ l : List St, l.length = n ∧ (∀ i (hi : i < l.length), ∀ j u, l[i].cells[j]? = some u → w.cell? ⟨a.block, a.off + (i * 3 + j), none⟩ = some u) ∧ (∀ s ∈ l, Rd w w.heap.size 3 s.A s.sp.length (spCells s.sp)) ∧ l.length + stBulk l ≤ Rows.uptoBulkAll ((List.range n).map D) := by
      intro n
      induction n with
      | zero => intro _; exact ⟨[], rfl, by simp, by simp, by simp [stBulk]⟩
      | succ n ih =>
        intro hn
        obtain ⟨l, hln, hc, hsp, hbk⟩ := ih (by omega)
        obtain ⟨ys, k, hD, _, hyl, hfs⟩ := hi n (by omega)
        obtain ⟨v0, y0, c0, e0, t0⟩ := hfs 0 _ rfl
        obtain ⟨v1, y1, c1, e1, t1⟩ := hfs 1 _ rfl
        obtain ⟨v2, y2, c2, e2, t2⟩ := hfs 2 _ rfl
        obtain ⟨x0, q0, rfl, _⟩ := DataW.trod_int Tryd.underlying3 t0
        obtain ⟨x1, q1, rfl, _⟩ := DataW.trod_int Tryd.underlying3 t1
        obtain ⟨A2, cap2, l2, rfl, r2, b2⟩ := open_spans_at (d := y2.1) (p := y2.2) t2
        simp only [List.cons.injEq, and_true] at q0 q1
        subst q0 q1
        refine ⟨l ++ [⟨x0, x1, A2, cap2, l2⟩], by simp [hln], fun i hi j u hu => ?_, fun s hs => ?_, ?_⟩
        · rw [List.getElem_append] at hu
          split at hu
          · exact hc i (by assumption) j u hu
          · have hin : i = n := by simp at hi; omega
            subst hin
            simp [St.cells] at hu
            match j, hu with
            | 0, hu => simp at hu; subst hu; exact add_cells c0
            | 1, hu => simp at hu; subst hu; exact add_cells c1
            | 2, hu => simp at hu; subst hu; exact add_cells c2
        · rcases List.mem_append.1 hs with h | h
          · exact hsp s h
          · simp only [List.mem_singleton] at h
            subst h
            exact r2
        · rw [List.range_succ, List.map_append, bulks.append, stBulk_snoc]
          match ys, hyl, e0, e1, e2 with
          | [z0, z1, z2], _, e0, e1, e2 =>
            simp at e0 e1 e2
            subst e0 e1 e2
            simp only [List.map_cons, List.map_nil, Rows.uptoBulkAll, hD, Rows.uptoBulk, List.length_append, List.length_singleton]
            omega
    obtain ⟨l, hln, hc, hsp, hbk⟩ := key len (Nat.le_refl _)
    subst hln
    refine ⟨some a, cap, l, rfl, ⟨stCells_len l, fun hn => ?_⟩, hsp, ?_⟩
    · refine ⟨a.block, a.off, ?_, ?_, ?_⟩
      · obtain ⟨ys, k, _, _, _, hfs⟩ := hi 0 (by omega)
        obtain ⟨v0, y0, c0, _⟩ := hfs 0 _ rfl
        rw [← spot_none c0 (by simp)]
      · have := hc 0 hn 0 _ rfl
        exact World.block_lt_of_cell? w ⟨a.block, _, none⟩ this
      · intro j u hu
        have hj : j < l.length * 3 := by
          have := (List.getElem?_eq_some_iff.1 hu).1
          rwa [stCells_len] at this
        have h3 : j / 3 < l.length := by omega
        have := stCells_get l (j / 3) (j % 3) (Nat.mod_lt _ (by omega)) h3
        rw [show j / 3 * 3 + j % 3 = j from by omega] at this
        rw [this] at hu
        have := hc _ h3 _ _ hu
        rwa [show j / 3 * 3 + j % 3 = j from by omega] at this
    · simp only [Prod.mk.injEq] at hx
      rw [hx.1]
      simp only [Rows.uptoBulk]
      omega
end Go.Proofs.YtffcfnnbdmihaaaDoor
