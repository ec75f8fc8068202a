/-
  THE WALK of (*amanuensisref7.S).Set.
-/
import Derived.Test.YtnadldoebfmgmaaDoorR7True
namespace Go.Proofs.YtnadldoebfmgmaaDoor.q
open Go.RowKit

theorem oCells_set (vs : List Int) (k : Nat) (v : Int) (hk : k < vs.length) : (oCells vs).set (k * 2) (.int .i64 v) = oCells (vs.set k v) := by
  induction vs generalizing k with
  | nil => simp at hk
  | cons a l ih =>
    cases k with
    | zero => simp [oCells]
    | succ k =>
      have := ih k (by simpa using hk)
      simp only [oCells, List.flatMap_cons, List.set_cons_succ] at *
      rw [show (k + 1) * 2 = k * 2 + 1 + 1 from by omega]
      simp only [List.cons_append, List.nil_append, List.set_cons_succ]
      rw [this]
/-- only the reference's blocks have turned -/
def RefOnly (H1 H2 : Nat) (w w' : World) : Prop := Below H1 w w' ∧ w'.heap.size = w.heap.size ∧ ∀ j, ¬ (H1 ≤ j ∧ j < H2) → w'.heap[j]? = w.heap[j]?
theorem RefOnly.refl (H1 H2 : Nat) (w : World) : RefOnly H1 H2 w w := ⟨Below.refl _ _, rfl, fun _ _ => rfl⟩
theorem RefOnly.set {H1 H2 : Nat} {w w' : World} (h : RefOnly H1 H2 w w') {p : Addr} (h1 : H1 ≤ p.block) (h2 : p.block < H2) (u : Value) : RefOnly H1 H2 w (w'.setCell p u) :=
  ⟨h.1.setCell h1 _, by rw [← h.2.1]; simp, fun j hj => (Below.heap_setCell _ _ _ j (fun e => hj (by rw [e]; exact ⟨h1, h2⟩))).trans (h.2.2 j hj)⟩
section
variable {w : World} {H1 H2 rp : Nat} {l : List Ru} {vs : List Int} {vR vI vF x2 x3 x4 x6 x7 : Value}
theorem row_far {w : World} {b b' n n' size size' : Nat} {e t : TypeId} {v v' : Value} {xs ys : List Value} (h : w.ownsRow b e size v n xs) (h' : w.ownsRow b' t size' v' n' ys) (hne : e ≠ t) {g j : Nat} {u : Value} (hg : v'.ownBlock = some g) : (w.setCell ⟨g, j, none⟩ u).ownsRow b e size v n xs :=
  own_of_block h fun k hk => Below.heap_setCell _ _ _ _ fun e1 => by
    obtain ⟨cs, fr, h1⟩ := own_ty h k hk
    obtain ⟨cs', fr', h2⟩ := own_ty h' g hg
    rw [e1, h2] at h1
    injection h1 with h1
    injection h1 with _ h1 _
    exact hne h1.symm
theorem blk_far_row {w : World} {b n size g p j : Nat} {e t : TypeId} {v : Value} {xs : List Value} {cs : Array Value} {u : Value} (hB : Blk w p t cs) (h : w.ownsRow b e size v n xs) (hne : e ≠ t) (hg : v.ownBlock = some g) : Blk (w.setCell ⟨g, j, none⟩ u) p t cs :=
  hB.far (p := ⟨g, j, none⟩) (fun e1 => own_ne h hB hne (by rw [hg, e1])) u
theorem RefAt.setIs {gI cI : Nat} (h : RefAt w H1 H2 rp l vs vR (.slice (some ⟨gI, 0, none⟩) l.length cI) vF x2 x3 x4 x6 x7) {k : Nat} (hk : k < l.length) (v : Int) :
    RefAt (w.setCell ⟨gI, k * 2, none⟩ (.int .i64 v)) H1 H2 rp l (vs.set k v) vR (.slice (some ⟨gI, 0, none⟩) l.length cI) vF x2 x3 x4 x6 x7 := by
  refine ⟨blk_far_row h.blk h.is (by decide) rfl, row_far h.ru h.is (by decide) rfl, ?_, row_far h.fr h.is (by decide) rfl, h.lo, h.hi, h.hr, h.hI, h.hF, by rw [List.length_set]; exact h.vlen⟩
  rw [← oCells_set vs k v (by rw [h.vlen]; exact hk)]
  exact (h.is.stored (k * 2) _).1
theorem RefAt.setFr {gF cF : Nat} (h : RefAt w H1 H2 rp l vs vR vI (.slice (some ⟨gF, 0, none⟩) l.length cF) x2 x3 x4 x6 x7) (k : Nat) :
    RefAt (w.setCell ⟨gF, k, none⟩ (.bool false)) H1 H2 rp l vs vR vI (.slice (some ⟨gF, 0, none⟩) l.length cF) x2 x3 x4 x6 x7 := by
  refine ⟨blk_far_row h.blk h.fr (by decide) rfl, row_far h.ru h.fr (by decide) rfl, row_far h.is h.fr (by decide) rfl, ?_, h.lo, h.hi, h.hr, h.hI, h.hF, h.vlen⟩
  have h1 := (h.fr.stored k (.bool false)).1
  have e : (List.replicate l.length (Value.bool false)).set k (.bool false) = List.replicate l.length (.bool false) := by
    apply List.ext_getElem?
    intro j
    rw [List.getElem?_set]
    split
    · rename_i hkj
      subst hkj
      split
      · rename_i hl; rw [List.getElem?_replicate, if_pos (by simpa using hl)]
      · rename_i hl; rw [List.getElem?_eq_none (by simpa using hl)]
    · rfl
  rw [e] at h1
  exact h1
end
theorem setV_no {l : List Ru} {vs : List Int} {k : Nat} {v : Int} (h : (l.getD k Ru.dflt).op ≠ 0) : setV l vs k v = vs := by unfold setV; rw [if_neg (fun e => h e.2)]
theorem setV_yes {l : List Ru} {vs : List Int} {k : Nat} {v : Int} (hk : k < l.length) (h : (l.getD k Ru.dflt).op = 0) : setV l vs k v = vs.set k v := by unfold setV; rw [if_pos ⟨hk, h⟩]
theorem set_self {vs : List Int} {k : Nat} (hk : k < vs.length) : vs.set k (vs.getD k 0) = vs := by
  apply List.ext_getElem?
  intro j
  by_cases hj : k = j
  · subst hj; rw [List.getElem?_set_self hk, getD_lt hk, List.getElem?_eq_getElem hk]
  · rw [List.getElem?_set_ne hj]

set_option maxHeartbeats 4000000 in
set_option maxRecDepth 100000 in
theorem rset_walk (w : World) (H1 H2 rp : Nat) (l : List Ru) (vs : List Int) (k : Nat) (v : Int) (h : Ref w H1 H2 rp l vs) (hk : k < l.length) (h64 : l.length ≤ 64) :
    Calls Tryd.prog 7 #[.pointer (some ⟨rp, 0, none⟩), .int .i64 k, .int .i64 v] w fun e w' => (∃ b : Bool, e = .returned (.bool b)) ∧ Ref w' H1 H2 rp l (setV l vs k v) ∧ RefOnly H1 H2 w w' := by
  obtain ⟨vR, vI, vF, x2, x3, x4, x6, x7, R⟩ := h
  obtain ⟨gR, cR, rfl, hgR, _⟩ := R.ru.form (by omega)
  obtain ⟨gI, cI, rfl, hgI, _⟩ := R.is.form (by omega)
  obtain ⟨gF, cF, rfl, hgF, _⟩ := R.fr.form (by omega)
  have m0 := R.blk.cell 0
  have m1 := R.blk.cell 1
  have m5 := R.blk.cell 5
  simp at m0 m1 m5
  have hv : k < vs.length := by rw [R.vlen]; exact hk
  have a0 := own_cell R.ru (k * 4 + 0) _ ((ru_cells hk 0 (by omega)).trans rfl)
  have b0 := own_cell R.is (k * 2 + 0) _ ((o_cells hv 0 (by omega)).trans rfl)
  have f0 := R.is.frozenAt (k * 2)
  simp only [Nat.add_zero] at a0 b0
  have i1 : (0 : Int) ≤ (k : Int) := by omega
  have i2 : (k : Int) < (l.length : Int) := by omega
  have d1 : decide ((k : Int) < 0) = false := by simp
  have d2 : decide ((l.length : Int) ≤ (k : Int)) = false := by simp; omega
  by_cases ho : (l.getD k Ru.dflt).op = 0
  · have hS : Hid (setV l vs k v = vs.set k v) := setV_yes hk ho
    have e0 : ((l.getD k Ru.dflt).op != 0) = false := by simpa using ho
    generalize (l.getD k Ru.dflt).op = op at *
    by_cases hn : vs.getD k 0 = v
    · have en : (vs.getD k 0 != v) = false := by simpa using hn
      have hS2 : Hid (setV l vs k v = vs) := by
        show _ = _
        rw [hS.out, ← hn]; exact set_self hv
      generalize vs.getD k 0 = x at *
      have HR := Lib.hid R
      clear ho hn R hv hS
      go_enter Tryd.func7, Tryd.ntmps7
      go_wp2_with fail
      go_ret
      refine ⟨⟨_, rfl⟩, ?_, RefOnly.refl _ _ _⟩
      rw [hS2.out]
      exact ⟨_, _, _, _, _, _, _, _, HR.out⟩
    · have en : (vs.getD k 0 != v) = true := by simpa using hn
      generalize hxx : vs.getD k 0 = x at en b0
      have R2 := R.setIs hk v
      have HR2 := Lib.hid R2
      have HO2 : Hid (RefOnly H1 H2 w (w.setCell ⟨gI, k * 2, none⟩ (.int .i64 v))) := (RefOnly.refl H1 H2 w).set (p := ⟨gI, k * 2, none⟩) hgI (R.hI gI rfl) _
      have hF2 := R.hF gF rfl
      clear ho hn hxx R hv R2
      go_enter Tryd.func7, Tryd.ntmps7
      go_upto_region 5 with fail
      generalize w.setCell ⟨gI, k * 2, none⟩ (.int .i64 v) = w2 at *
      clear b0 f0 m0 m1 m5 a0
      go_wp2_with fail
      go_loopw [7] (fun i wr => ∃ j : Nat, i = .int .i64 j ∧ j ≤ l.length ∧ Hid (RefAt wr H1 H2 rp l (vs.set k v) (.slice (some ⟨gR, 0, none⟩) l.length cR) (.slice (some ⟨gI, 0, none⟩) l.length cI) (.slice (some ⟨gF, 0, none⟩) l.length cF) x2 x3 x4 x6 x7) ∧ Hid (RefOnly H1 H2 w wr)) (fun i _ => l.length - (intOf i).toNat)
      case atStart => exact ⟨0, rfl, Nat.zero_le _, HR2, HO2⟩
      case round =>
        clear HR2 HO2
        obtain ⟨j, rfl, hj, HR, HO⟩ := hrel
        have m5 := HR.out.blk.cell 5
        simp at m5
        by_cases hlt : j < l.length
        · have j1 : (0 : Int) ≤ (j : Int) := by omega
          have j2 : (j : Int) < (l.length : Int) := by omega
          have j3 : decide (j < l.length) = true := by simpa using hlt
          have cf := own_cell HR.out.fr j (.bool false) (by rw [List.getElem?_replicate, if_pos hlt])
          have ff := HR.out.fr.frozenAt j
          have HR3 := Lib.hid (HR.out.setFr j)
          have HO3 := Lib.hid (HO.out.set (p := ⟨gF, j, none⟩) hgF hF2 (.bool false))
          go_wp2_with fail
          go_roundw
          case rel => exact ⟨j + 1, by go_num, by omega, HR3, HO3⟩
          case measure => simp [intOf]; omega
        · have j3 : decide (j < l.length) = false := by simpa using hlt
          go_wp2_with fail
          go_ret
          refine ⟨⟨_, rfl⟩, ?_, HO.out⟩
          rw [hS.out]
          exact ⟨_, _, _, _, _, _, _, _, HR.out⟩
  · have hS : Hid (setV l vs k v = vs) := setV_no ho
    have e0 : ((l.getD k Ru.dflt).op != 0) = true := by simpa using ho
    generalize (l.getD k Ru.dflt).op = op at *
    have HR := Lib.hid R
    clear ho R hv
    go_enter Tryd.func7, Tryd.ntmps7
    go_wp2_with fail
    go_ret
    refine ⟨⟨_, rfl⟩, ?_, RefOnly.refl _ _ _⟩
    rw [hS.out]
    exact ⟨_, _, _, _, _, _, _, _, HR.out⟩
end Go.Proofs.YtnadldoebfmgmaaDoor.q
