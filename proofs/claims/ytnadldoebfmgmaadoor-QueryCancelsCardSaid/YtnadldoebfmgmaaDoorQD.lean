/-
  WHAT IS BUSY KEEPS ITS BLOCKS: the cell's own and that of its deps.
-/
import Derived.Test.YtnadldoebfmgmaaDoorQO
namespace Go.Proofs.YtnadldoebfmgmaaDoor.q
open Go.RowKit

/-- the blocks of what is busy (but for cell x) are as they were -/
def Held (x : Nat) (ps : List Nat) (s : Sh) (w w' : World) : Prop :=
  ∀ j (hj : j < ps.length), j ≠ x → (s.at j).busy = true → ∀ b, (b = ps[j] ∨ ∃ vd, w.cell? ⟨ps[j], 7, none⟩ = some vd ∧ vd.ownBlock = some b) → w'.heap[b]? = w.heap[b]?
section
variable {x y : Nat} {ps : List Nat} {s t : Sh} {w w1 w2 : World}
theorem Held.refl : Held x ps s w w := fun _ _ _ _ _ _ => rfl
theorem Held.trans (h : Held x ps s w w1) (h' : Held x ps t w1 w2) (hb : ∀ j, j < ps.length → j ≠ x → (s.at j).busy = true → (t.at j).busy = true) : Held x ps s w w2 := fun j hj hx hbj b hbl => by
  have h0 := h j hj hx hbj ps[j] (.inl rfl)
  refine (h' j hj hx (hb j hj hx hbj) b ?_).trans (h j hj hx hbj b hbl)
  rcases hbl with e | ⟨vd, e1, e2⟩
  · exact .inl e
  · exact .inr ⟨vd, (World.cell?_of_block (a := ⟨ps[j], 7, none⟩) h0).trans e1, e2⟩
/-- what is not busy need not be named -/
theorem Held.all (h : Held x ps s w w1) (hx : (s.at x).busy = false) (y : Nat) : Held y ps s w w1 := fun j hj _ hbj b hbl => by
  refine h j hj (fun e => ?_) hbj b hbl
  subst e
  rw [hx] at hbj; cases hbj
end
section
variable {N : Nat → Prop} {x : Nat} {w w' : World} {base sp rb rc : Nat} {lk : Int} {ps : List Nat} {vc : Value} {s : Sh}
/-- the sheet's blocks are not among those that it keeps clear of -/
theorem Held.of_clear (h : ShAt N w base sp lk ps vc rb rc s) (hk : ∀ b, b < w.heap.size → ¬ N b → w'.heap[b]? = w.heap[b]?) : Held x ps s w w' := fun j hj _ _ b hbl => by
  obtain ⟨vd, vl, hv⟩ := h.each j hj
  rcases hbl with e | ⟨v, e1, e2⟩
  · rw [e]; exact hk _ hv.blk.lt hv.np
  · have c7 := hv.blk.cell 7
    simp [celCells] at c7
    rw [c7] at e1
    injection e1 with e1
    rw [← e1] at e2
    exact hk _ (hv.deps.lt b e2).2 (hv.nd b e2)
theorem Held.of_below (h : ShAt N w base sp lk ps vc rb rc s) (hb : Below w.heap.size w w') : Held x ps s w w' := Held.of_clear h fun b hb' _ => hb.block b hb'
/-- a turn of cell x's own block -/
theorem Held.of_oth (h : ShAt N w base sp lk ps vc rb rc s) (hx : x < ps.length) (ho : Oth1 ps[x] w w') : Held x ps s w w' := fun j hj hjx _ b hbl => by
  obtain ⟨vd, vl, hv⟩ := h.each j hj
  obtain ⟨vd', vl', hv'⟩ := h.each x hx
  rcases hbl with e | ⟨v, e1, e2⟩
  · rw [e]; exact ho _ hv.blk.lt (nod_ne h.nod hjx)
  · have c7 := hv.blk.cell 7
    simp [celCells] at c7
    rw [c7] at e1
    injection e1 with e1
    rw [← e1] at e2
    exact ho _ (hv.deps.lt b e2).2 fun e => own_ne hv.deps hv'.blk (by decide) (by rw [e2, e])
/-- a store into the sheet's own block or into a count -/
theorem Held.of_far (h : ShAt N w base sp lk ps vc rb rc s) {a : Addr} (ha : a.block = sp ∨ a.block = rb) (u : Value) : Held x ps s w (w.setCell a u) := fun j hj _ _ b hbl => by
  obtain ⟨vd, vl, hv⟩ := h.each j hj
  refine Below.heap_setCell _ _ _ _ fun e => ?_
  rcases hbl with e0 | ⟨v, e1, e2⟩
  · rcases ha with h1 | h1
    · exact blk_ne h.sheet hv.blk (by decide) (h1.symm.trans (e.symm.trans e0))
    · exact own_ne h.runs hv.blk (by decide) (by rw [← e0, e, h1]; rfl)
  · have c7 := hv.blk.cell 7
    simp [celCells] at c7
    rw [c7] at e1
    injection e1 with e1
    rw [← e1] at e2
    rcases ha with h1 | h1
    · exact own_ne hv.deps h.sheet (by decide) (by rw [e2, e, h1])
    · obtain ⟨cs, fr, h2⟩ := own_ty hv.deps b e2
      obtain ⟨cs', fr', h3⟩ := own_ty h.runs rb rfl
      rw [e, h1, h3] at h2
      injection h2 with h2
      injection h2 with _ h2 _
      exact absurd h2 (by decide)
end
end Go.Proofs.YtnadldoebfmgmaaDoor.q
