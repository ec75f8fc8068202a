/-
  HISTORIES as package undo lays them, beside blocks N that are not theirs: the predicate, New, Text, Go, Undo.
-/
import Derived.Test.YtffcfnnbdmihaaaDoorApply
import Derived.Deep.RegionHeld3
import Derived.BigRegion
import Derived.StillTailTactics
namespace Go.Proofs.YtffcfnnbdmihaaaDoor.hn
open Go.RowKit

structure HV where
  text : ByteArray
  fr : Int
  nx : List Nat
  v : Value

def HV.cells (p : HV) : List Value := [.string p.text, .int .i64 p.fr, p.v]
def ints (l : List Nat) : List Value := l.map fun (n : Nat) => .int .i64 (n : Int)

/-- block h is a History of the states l, at state a; all its memory is from block 'base' on -/
def HistAt (N : Nat → Prop) (w : World) (base h : Nat) (l : List HV) (a : Nat) : Prop :=
  ∃ g cap, Blk w h 116 #[.slice (some ⟨g, 0, none⟩) l.length cap, .int .i64 a] ∧ base ≤ h ∧
    w.ownsRow base 113 3 (.slice (some ⟨g, 0, none⟩) l.length cap) l.length (l.flatMap HV.cells) ∧
    (∀ p ∈ l, w.ownsRow base 3 1 p.v p.nx.length (ints p.nx)) ∧
    l.Pairwise (fun p q => p.v.ownBlock = none ∨ p.v.ownBlock ≠ q.v.ownBlock) ∧ a < l.length ∧ (¬ N h ∧ ¬ N g ∧ ∀ p ∈ l, ∀ k, p.v.ownBlock = some k → ¬ N k)

/-- the blocks N are as they were -/
def KeepN (N : Nat → Prop) (w w' : World) : Prop := ∀ k, N k → w'.heap[k]? = w.heap[k]?
section
variable {N : Nat → Prop} {w w1 w2 : World}
theorem KeepN.refl (N : Nat → Prop) (w : World) : KeepN N w w := fun _ _ => rfl
theorem KeepN.trans (h : KeepN N w w1) (h' : KeepN N w1 w2) : KeepN N w w2 := fun k hk => (h' k hk).trans (h k hk)
theorem KeepN.below (h : ∀ k, N k → k < w.heap.size) (hb : Below w.heap.size w w1) : KeepN N w w1 := fun k hk => hb.block k (h k hk)
theorem KeepN.setCell {p : Addr} (h : ¬ N p.block) (u : Value) : KeepN N w (w.setCell p u) := fun k hk => Below.heap_setCell w p u k (fun e => h (e ▸ hk))
end

variable {N : Nat → Prop}
theorem HistAt.lt {w : World} {base h : Nat} {l : List HV} {a : Nat} (H : HistAt N w base h l a) : h < w.heap.size := by
  obtain ⟨g, cap, hb, _⟩ := H
  exact hb.lt
theorem HistAt.keep {w w' : World} {base h : Nat} {l : List HV} {a : Nat} (H : HistAt N w base h l a) (hk : ∀ k, k < w.heap.size → w'.heap[k]? = w.heap[k]?) : HistAt N w' base h l a := by
  obtain ⟨g, cap, hb, hB, ho, hn, hp, ha, hN⟩ := H
  refine ⟨g, cap, (hk _ hb.lt).trans hb, hB, own_of_block ho fun k hk' => hk k (ho.lt k hk').2, fun p hp' => own_of_block (hn p hp') fun k hk' => hk k ((hn p hp').lt k hk').2, hp, ha, hN⟩
theorem HistAt.below {w w' : World} {base h : Nat} {l : List HV} {a : Nat} (H : HistAt N w base h l a) (hb : Below w.heap.size w w') : HistAt N w' base h l a := H.keep hb.block
theorem HistAt.drewN {w : World} {base h : Nat} {l : List HV} {a : Nat} (H : HistAt N w base h l a) (n : Nat) : HistAt N (w.drewN n) base h l a := H

theorem hvCells_get (l : List HV) (k j : Nat) (hj : j < 3) (hk : k < l.length) : (l.flatMap HV.cells)[k * 3 + j]? = (l[k].cells)[j]? := by
  induction l generalizing k with
  | nil => simp at hk
  | cons a l ih =>
    cases k with
    | zero => simp only [List.flatMap_cons]; rw [List.getElem?_append_left (by simp [HV.cells]; omega)]; simp
    | succ k =>
      have h3 : a.cells.length = 3 := rfl
      simp only [List.flatMap_cons]
      rw [List.getElem?_append_right (by omega), h3]
      have e : (k + 1) * 3 + j - 3 = k * 3 + j := by omega
      rw [e]
      simpa using ih k (by simpa using hk)
theorem hvCells_len (l : List HV) : (l.flatMap HV.cells).length = l.length * 3 := by
  induction l with
  | nil => rfl
  | cons a l ih => simp only [List.flatMap_cons, List.length_append, List.length_cons, ih]; simp [HV.cells]; omega

set_option maxRecDepth 100000 in
theorem new_walk (s : ByteArray) (w : World) (hNw : ∀ k, N k → k < w.heap.size) :
    Calls Tryd.prog 38 #[.string s] w fun e w' => ∃ h, e = .returned (.pointer (some ⟨h, 0, none⟩)) ∧ HistAt N w' w.heap.size h [⟨s, -1, [], .slice none 0 0⟩] 0 ∧ Below w.heap.size w w' := by
  go_enter Tryd.func38, Tryd.ntmps38
  go_wp2
  go_ret
  refine ⟨w.heap.size + 1, by simp, ⟨w.heap.size, 1, by have := Blk.new (w.alloc (.cells #[.string s, .int .i64 (-1), .slice none 0 0] 113)) 116 #[.slice (some ⟨w.heap.size, 0, none⟩) 1 1, .int .i64 0]; simpa using this, by omega, ⟨rfl, .inr ⟨w.heap.size, 1, #[.string s, .int .i64 (-1), .slice none 0 0], rfl, by omega, ?_, by simp, by unfold maxLen; simp, rfl, rfl⟩⟩, ?_, by simp, by simp, fun h => absurd (hNw _ h) (by omega), fun h => absurd (hNw _ h) (by omega), by simp [Value.ownBlock]⟩, ((Below.refl _ _).alloc (Nat.le_refl _) _).alloc (by simp) _⟩
  · exact (Blk.new w _ _).alloc _
  · intro p hp
    simp only [List.mem_singleton] at hp
    subst hp
    exact World.ownsRow_nil _ _ _ _

set_option maxRecDepth 100000 in
theorem text_walk (base h : Nat) (l : List HV) (a : Nat) (w : World) (H : HistAt N w base h l a) (x : HV) (hx : l[a]? = some x) :
    Calls Tryd.prog 45 #[.pointer (some ⟨h, 0, none⟩)] w fun e w' => e = .returned (.string x.text) ∧ ∃ n, w' = w.drewN n := by
  obtain ⟨g, cap, hb, hB, ho, hn, hp, ha, hN⟩ := H
  have c0 := hb.cell 0
  have c1 := hb.cell 1
  obtain rfl : l[a] = x := by rw [List.getElem?_eq_getElem ha] at hx; exact Option.some.inj hx
  have c2 := own_cell ho (a * 3 + 0) _ (hvCells_get l a 0 (by omega) ha)
  clear hx
  simp at c0 c1
  simp only [Nat.add_zero] at c2
  have i1 : (0 : Int) ≤ (a : Int) := by omega
  have i2 : (a : Int) < (l.length : Int) := by omega
  generalize l[a] = x at *
  go_enter Tryd.func45, Tryd.ntmps45
  go_wp2
  go_quiet (fail)
  go_wp2
  go_ret
  exact ⟨rfl, _, rfl⟩

set_option maxRecDepth 100000 in
theorem go_no (base h : Nat) (l : List HV) (a : Nat) (w : World) (n : Int) (H : HistAt N w base h l a) (hn : n < 0 ∨ l.length ≤ n) :
    Calls Tryd.prog 44 #[.pointer (some ⟨h, 0, none⟩), .int .i64 n] w fun e w' => e = .returned (.bool false) ∧ w = w' := by
  obtain ⟨g, cap, hb, hB, ho, hn', hp, ha, hN⟩ := H
  have c0 := hb.cell 0
  simp at c0
  rcases hn with hn | hn
  · go_enter Tryd.func44, Tryd.ntmps44
    go_wp2
    go_ret
    exact ⟨rfl, rfl⟩
  · have h0 : ¬ n < 0 := by omega
    go_enter Tryd.func44, Tryd.ntmps44
    go_wp2
    go_ret
    exact ⟨rfl, rfl⟩

theorem HistAt.setAt {w : World} {base h : Nat} {l : List HV} {a : Nat} (H : HistAt N w base h l a) {n : Nat} (hn : n < l.length) : HistAt N (w.setCell ⟨h, 1, none⟩ (.int .i64 n)) base h l n := by
  obtain ⟨g, cap, hb, hB, ho, hnx, hp, ha, hN⟩ := H
  refine ⟨g, cap, hb.set_ 1 _, hB, own_of_block ho fun k hk => Below.heap_setCell _ _ _ _ ?_, fun p hp' => own_of_block (hnx p hp') fun k hk => Below.heap_setCell _ _ _ _ ?_, hp, hn, hN⟩
  · intro e
    subst e
    exact own_ne ho hb (by decide) hk.symm
  · intro e
    subst e
    exact own_ne (hnx p hp') hb (by decide) hk.symm

set_option maxRecDepth 100000 in
theorem go_yes (base h : Nat) (l : List HV) (a : Nat) (w : World) (n : Nat) (H : HistAt N w base h l a) (hn : n < l.length) :
    Calls Tryd.prog 44 #[.pointer (some ⟨h, 0, none⟩), .int .i64 n] w fun e w' => e = .returned (.bool true) ∧ HistAt N w' base h l n ∧ Below base w w' ∧ KeepN N w w' := by
  have H' := H.setAt hn
  obtain ⟨g, cap, hb, hB, ho, hnx, hp, ha, hN⟩ := H
  have c0 := hb.cell 0
  have c1 := hb.cell 1
  have f1 := hb.frozen 1
  simp at c0 c1
  have h1 : ¬ (n : Int) < 0 := by omega
  have h2 : ¬ (l.length : Int) ≤ n := by omega
  go_enter Tryd.func44, Tryd.ntmps44
  go_wp2
  go_ret
  exact ⟨rfl, H', (Below.refl _ _).setCell (p := ⟨h, 1, none⟩) hB _, KeepN.setCell hN.1 _⟩

set_option maxRecDepth 100000 in
theorem undo_walk (base h : Nat) (l : List HV) (a : Nat) (w : World) (H : HistAt N w base h l a) (x : HV) (hx : l[a]? = some x) (n : Nat) (hf : x.fr = n) (hn : n < l.length) :
    Calls Tryd.prog 42 #[.pointer (some ⟨h, 0, none⟩)] w fun e w' => e = .returned (.bool true) ∧ HistAt N w' base h l n ∧ Below base w w' ∧ KeepN N w w' := by
  have H'' : HistAt N w.drew base h l a := H
  obtain ⟨g, cap, hb, hB, ho, hnx, hp, ha, hN⟩ := H
  have c0 := hb.cell 0
  have c1 := hb.cell 1
  obtain rfl : l[a] = x := by rw [List.getElem?_eq_getElem ha] at hx; exact Option.some.inj hx
  have c2 := own_cell ho (a * 3 + 1) (.int .i64 n) (by rw [hvCells_get l a 1 (by omega) ha, ← hf]; rfl)
  clear hx
  simp at c0 c1

  have i1 : (0 : Int) ≤ (a : Int) := by omega
  have i2 : (a : Int) < (l.length : Int) := by omega
  clear hf
  go_enter Tryd.func42, Tryd.ntmps42
  go_wp2
  go_still_tail 12, (by kernel_rfl)
  change wpList _ _ _ _ _ w.drew
  go_wp2_with fail
  refine (go_yes base h l a _ n H'' hn).mono ?_
  rintro e w2 ⟨rfl, H2, hb2, hk2⟩
  go_wp2
  go_ret
  exact ⟨rfl, H2, (Below.refl _ _).drew.trans hb2, hk2⟩
end Go.Proofs.YtffcfnnbdmihaaaDoor.hn
