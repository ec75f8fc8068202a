/-
  ARGUMENTS OPENED: rules; ints.
-/
import Derived.Test.YtnadldoebfmgmaaDoorQN
import Derived.ProofKit
import Derived.OpenShut
import Derived.JoinedCond
import Derived.Deep.Slices
import Derived.Deep.Fields
import Derived.ChangeSame
import Derived.ChangeSlices
import Derived.SizedLaws
namespace Go.Proofs.YtnadldoebfmgmaaDoor.q
open Go.RowKit Go.ChangeShapes Go.WideShapes Go.Deep

section
variable {H : Type} {enc : TypeId × Value → H} {P : Program} {w : World} {base : Nat} {spare : Nat → Bool} {held : Bool}
theorem open_slice_fields {t e : TypeId} {fs : Array Field} {fuel : Nat} {cs : List Value} {x : DataW H × List MemPlace} (ht : P.underlying t = some (.slice e)) (he : P.underlying e = some (.struct fs))
    (hone : oneCellFields P fs = true) (hC : P.cellsOf e = fs.size) (h : DataW.trod enc P w base spare held fuel t cs = some x) :
    (cs = [.slice none 0 0] ∧ x = (.nil, [])) ∨
    ∃ (a : Addr) (len cap m : Nat) (D : Nat → DataW H) (Pl : Nat → List MemPlace), cs = [.slice (some a) len cap] ∧ base ≤ a.block ∧ len ≤ cap ∧ cap ≤ maxLen ∧ m = (if spare a.block then cap else len) ∧
      x = (.slice ((List.range len).map D) ((List.range (m - len)).map fun j => D (len + j)), MemPlace.row a (m * fs.size) ++ (List.range m).flatMap Pl) ∧
      ∀ i, i < m → ∃ (ys : List (DataW H × List MemPlace)) (n : Nat), D i = .agg (ys.map (·.1)) ∧ Pl i = ys.flatMap (·.2) ∧ ys.length = fs.size ∧
        ∀ (j : Nat) (f : Field), fs[j]? = some f → ∃ (v : Value) (y : DataW H × List MemPlace), w.cell? (a.add (i * fs.size + j)) = some v ∧ ys[j]? = some y ∧ DataW.trod enc P w base spare held n f.type [v] = some y := by
  rcases open_slice ht h with h0 | ⟨a, len, cap, m, n, D, Pl, hcs, hb, hl, hm, hmm, hx, hi⟩
  · exact .inl h0
  · refine .inr ⟨a, len, cap, m, D, Pl, hcs, hb, hl, hm, hmm, by rw [hC] at hx; exact hx, fun i him => ?_⟩
    obtain ⟨cs', hc, ht'⟩ := hi i him
    rw [hC] at hc
    obtain ⟨ys, n', hn', hy, hlen, hyl, hf⟩ := DataW.trod_struct he ht'
    obtain ⟨_, hcl, hat⟩ := World.cells?_some hc
    simp only [Prod.mk.injEq] at hy
    refine ⟨ys, n', hy.1, hy.2, hyl, fun j f hj => ?_⟩
    obtain ⟨ho, hk⟩ := hone_of hone j f hj
    have hjl : j < fs.size := (Array.getElem?_eq_some_iff.1 hj).1
    have hcell := hat j hjl
    have hv : cs'[j]? = some (cs'[j]'(by omega)) := List.getElem?_eq_getElem (by omega)
    have h1 := hf j f hj
    rw [ho, hk] at h1
    have hone' : (cs'.drop j).take 1 = [cs'[j]'(by omega)] := by
      rw [List.drop_eq_getElem_cons (by omega)]
      rfl
    rw [hone'] at h1
    have hys : ys[j]? = some (ys[j]'(by omega)) := List.getElem?_eq_getElem (by omega)
    refine ⟨_, _, ?_, hys, h1.trans hys⟩
    rw [← Go.Deep.add_add, hcell, hv]
end

theorem add_cells {w : World} {a : Addr} {k : Nat} {u : Value} (h : w.cell? (a.add k) = some u) : w.cell? ⟨a.block, a.off + k, none⟩ = some u := by
  unfold Addr.add at h
  by_cases hk : k = 0
  · subst hk
    simp only [if_true, Nat.add_zero] at h ⊢
    unfold World.cell? at h ⊢
    split at h
    · rename_i hh
      rw [hh]
      by_cases hs : a.spot.isSome = true
      · simp [hs] at h
      · simpa [hs] using h
    · cases h
  · rw [if_neg hk] at h; exact h

theorem spot_none {w : World} {a : Addr} {k : Nat} {u : Value} (h : w.cell? (a.add k) = some u) (hk : k = 0) : a = ⟨a.block, a.off, none⟩ := by
  subst hk
  unfold Addr.add at h
  simp only [if_true] at h
  obtain ⟨b, o, s⟩ := a
  unfold World.cell? at h
  split at h
  · cases s with
    | none => rfl
    | some _ => simp at h
  · cases h

theorem ruCells_len (l : List Ru) : (ruCells l).length = l.length * 4 := by
  induction l with
  | nil => rfl
  | cons a l ih => simp only [ruCells, List.flatMap_cons, List.length_append, List.length_cons] at *; rw [ih]; simp [Ru.cells]; omega
/-- what a slice's reading is: nothing, or as many readings as it is long -/
def SlD {H : Type} (d : DataW H) (n : Nat) : Prop := n = 0 ∨ ∃ elems spare, d = .slice elems spare ∧ elems.length = n
theorem SlD.le {H : Type} {P : Program} {ts : List TypeId} {ds : List (DataW H)} {d : DataW H} {n : Nat} (h : SlD d n) (hk : (DataW.weightsEach P ts ds).all (· ≤ reachBytes) = true) {j : Nat} {t e : TypeId} (ht : ts[j]? = some t) (hd : ds[j]? = some d) (hu : P.underlying t = some (.slice e)) (hb : 8 ≤ P.bytesOf e) :
    (n : Int) ≤ 100000000000000 := by
  rcases h with h | ⟨elems, spare, rfl, h⟩
  · omega
  · have h1 := sized_slice hk ht hd hu
    have h2 : (elems.length + spare.length) * 8 ≤ (elems.length + spare.length) * P.bytesOf e := Nat.mul_le_mul_left _ hb
    have h3 := reachBytes_lt
    omega

theorem reach_num : reachBytes = 140737488351232 := rfl
theorem SlD.leR {H : Type} {P : Program} {ts : List TypeId} {ds : List (DataW H)} {d : DataW H} {n : Nat} (h : SlD d n) (hk : (DataW.weightsEach P ts ds).all (· ≤ reachBytes) = true) {j : Nat} {t e : TypeId} (ht : ts[j]? = some t) (hd : ds[j]? = some d) (hu : P.underlying t = some (.slice e)) (hb : 32 ≤ P.bytesOf e) :
    n ≤ 4398046510976 := by
  rcases h with h | ⟨elems, spare, rfl, h⟩
  · omega
  · have h1 := sized_slice hk ht hd hu
    have h2 : (elems.length + spare.length) * 32 ≤ (elems.length + spare.length) * P.bytesOf e := Nat.mul_le_mul_left _ hb
    have h3 := reach_num
    omega

set_option maxRecDepth 100000 in
theorem open_rules {H : Type} {enc : TypeId × Value → H} {w : World} {base : Nat} {spare : Nat → Bool} {held : Bool} {b0 : Nat} {v : Value} {d : DataW H} {p : List MemPlace}
    (hv : Value.okWide Tryd.prog w .any b0 22 v) (h : DataW.Trod enc Tryd.prog w base spare held 22 v d p) :
    ∃ (A : Option Addr) (c : Nat) (l : List Ru), v = .slice A l.length c ∧ Rd w w.heap.size 4 A l.length (ruCells l) ∧ SlD d l.length := by
  obtain ⟨A, len, cap, rfl⟩ := okWide_slice Tryd.underlying22 hv
  obtain ⟨fuel, hf⟩ := h
  rcases open_slice_fields Tryd.underlying22 Tryd.underlying65 (by kernel_rfl) (by kernel_rfl) hf with ⟨hcs, hx⟩ | ⟨a, len', cap', m, D, Pl, hcs, hbs, hl, hm, hmm, hx, hi⟩
  · simp only [Value.cells, List.cons.injEq, Value.slice.injEq, and_true] at hcs
    obtain ⟨rfl, rfl, rfl⟩ := hcs
    exact ⟨none, 0, [], rfl, Rd.none_, .inl rfl⟩
  · simp only [Value.cells, List.cons.injEq, Value.slice.injEq, and_true] at hcs
    obtain ⟨rfl, rfl, rfl⟩ := hcs
    have hlm : len ≤ m := by rw [hmm]; split <;> omega
    have key : ∀ n, n ≤ len → ∃ l : List Ru, l.length = n ∧ (∀ i (hi : i < l.length), ∀ j u, l[i].cells[j]? = some u → w.cell? ⟨a.block, a.off + (i * 4 + j), none⟩ = some u) := by
      intro n
      induction n with
      | zero => intro _; exact ⟨[], rfl, by simp⟩
      | succ n ih =>
        intro hn
        obtain ⟨l, hln, hc⟩ := ih (by omega)
        obtain ⟨ys, k, hD, _, hyl, hfs⟩ := hi n (by omega)
        obtain ⟨v0, y0, c0, e0, t0⟩ := hfs 0 _ rfl
        obtain ⟨v1, y1, c1, e1, t1⟩ := hfs 1 _ rfl
        obtain ⟨v2, y2, c2, e2, t2⟩ := hfs 2 _ rfl
        obtain ⟨v3, y3, c3, e3, t3⟩ := hfs 3 _ rfl
        obtain ⟨x0, q0, rfl, _⟩ := DataW.trod_int Tryd.underlying3 t0
        obtain ⟨x1, q1, rfl, _⟩ := DataW.trod_int Tryd.underlying3 t1
        obtain ⟨x2, q2, rfl, _⟩ := DataW.trod_int Tryd.underlying3 t2
        obtain ⟨x3, q3, rfl, _⟩ := DataW.trod_int Tryd.underlying3 t3
        simp only [List.cons.injEq, and_true] at q0 q1 q2 q3
        subst q0 q1 q2 q3
        refine ⟨l ++ [⟨x0, x1, x2, x3⟩], by simp [hln], fun i hi j u hu => ?_⟩
        rw [List.getElem_append] at hu
        split at hu
        · exact hc i (by assumption) j u hu
        · have hin : i = n := by simp at hi; omega
          subst hin
          simp [Ru.cells] at hu
          match j, hu with
          | 0, hu => simp at hu; subst hu; exact add_cells c0
          | 1, hu => simp at hu; subst hu; exact add_cells c1
          | 2, hu => simp at hu; subst hu; exact add_cells c2
          | 3, hu => simp at hu; subst hu; exact add_cells c3
    obtain ⟨l, hln, hc⟩ := key len (Nat.le_refl _)
    subst hln
    refine ⟨some a, cap, l, rfl, ⟨ruCells_len l, fun hn => ?_⟩, .inr ⟨_, _, by simp only [Prod.mk.injEq] at hx; exact hx.1, by simp⟩⟩
    refine ⟨a.block, a.off, ?_, ?_, ?_⟩
    · obtain ⟨ys, k, _, _, _, hfs⟩ := hi 0 (by omega)
      obtain ⟨v0, y0, c0, _⟩ := hfs 0 _ rfl
      rw [← spot_none c0 (by simp)]
    · have := hc 0 hn 0 _ rfl
      exact World.block_lt_of_cell? w ⟨a.block, _, none⟩ this
    · intro j u hu
      have hj : j < l.length * 4 := by
        have := (List.getElem?_eq_some_iff.1 hu).1
        rwa [ruCells_len] at this
      have h3 : j / 4 < l.length := by omega
      have := ruCells_get l (j / 4) (j % 4) (Nat.mod_lt _ (by omega)) h3
      rw [show j / 4 * 4 + j % 4 = j from by omega] at this
      rw [this] at hu
      have := hc _ h3 _ _ hu
      rwa [show j / 4 * 4 + j % 4 = j from by omega] at this
theorem i64_wf {n : Int} (h : (Lit.int .i64 n).wf = true) : I64 n := by
  simp only [Lit.wf, Bool.and_eq_true, decide_eq_true_eq] at h
  have h1 : IntKind.i64.min = -9223372036854775808 := by decide
  have h2 : IntKind.i64.max = 9223372036854775807 := by decide
  rw [h1, h2] at h
  exact h
set_option maxRecDepth 100000 in
theorem open_intsQ {H : Type} {enc : TypeId × Value → H} {w : World} {base : Nat} {spare : Nat → Bool} {held : Bool} {b0 : Nat} {v : Value} {d : DataW H} {p : List MemPlace}
    (hv : Value.okWide Tryd.prog w .any b0 23 v) (h : DataW.Trod enc Tryd.prog w base spare held 23 v d p) :
    ∃ (A : Option Addr) (c : Nat) (l : List Int), v = .slice A l.length c ∧ Rd w w.heap.size 1 A l.length (intsV l) ∧ SlD d l.length ∧ ∀ x ∈ l, I64 x := by
  obtain ⟨A, len, cap, rfl⟩ := okWide_slice Tryd.underlying23 hv
  obtain ⟨fuel, hf⟩ := h
  rcases Go.ChangeShapes.open_ints Tryd.underlying23 Tryd.underlying3 (by kernel_rfl) hf with ⟨hcs, hx⟩ | ⟨a, len', cap', zs, hcs, hbs, hl, hm, hzl, hx, hcell, hwf⟩
  · simp only [Value.cells, List.cons.injEq, Value.slice.injEq, and_true] at hcs
    obtain ⟨rfl, rfl, rfl⟩ := hcs
    exact ⟨none, 0, [], rfl, Rd.none_, .inl rfl, by simp⟩
  · simp only [Value.cells, List.cons.injEq, Value.slice.injEq, and_true] at hcs
    obtain ⟨rfl, rfl, rfl⟩ := hcs
    have hlz : len ≤ zs.length := by rw [hzl]; split <;> omega
    have htl : (zs.take len).length = len := by simp; omega
    refine ⟨some a, cap, zs.take len, by rw [htl], ⟨by simp [intsV], fun hn => ?_⟩, .inr ⟨_, _, by simp only [Prod.mk.injEq] at hx; exact hx.1, by simp [lits]⟩, fun x hx => i64_wf (hwf x (List.mem_of_mem_take hx))⟩
    rw [htl] at hn
    have h0 := hcell 0 (by omega)
    refine ⟨a.block, a.off, by rw [← spot_none h0 rfl], World.block_lt_of_cell? w ⟨a.block, _, none⟩ (add_cells h0), fun j u hu => ?_⟩
    have hj : j < len := by
      have := (List.getElem?_eq_some_iff.1 hu).1
      simp [intsV] at this
      omega
    have h1 := add_cells (hcell j (by omega))
    rw [h1, ← hu]
    unfold intsV
    rw [List.getElem?_map, List.getElem?_take, if_pos hj, List.getD_eq_getElem?_getD, List.getElem?_eq_getElem (by omega)]; rfl
end Go.Proofs.YtnadldoebfmgmaaDoor.q
