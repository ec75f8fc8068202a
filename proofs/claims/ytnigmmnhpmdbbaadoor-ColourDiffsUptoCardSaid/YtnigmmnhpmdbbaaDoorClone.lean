/-
  THE WALKS of slices.Clip, Clone, at []api.Colour.
-/
import Derived.Test.YtnigmmnhpmdbbaaDoorCo
import Derived.Laws.AppendOwnNone
import Derived.Deep.DeepCutAuto
namespace Go.Proofs.YtnigmmnhpmdbbaaDoor
open Go.RowKit

theorem infoCo : (Tryd.prog.info? 26).map (fun i => (i.zero, i.size, i.bytes)) = some (some (.agg #[.int .i64 0, .int .i64 0, .int .i64 0, .int .i64 0]), 4, 32) := by kernel_rfl

set_option maxRecDepth 100000 in
theorem clip_walk (A : Option Addr) (n c : Nat) (w : World) (h : n ≤ c) (hn : A = none → c = 0) :
    Calls Tryd.prog 7 #[.slice A n c] w fun e w' => e = .returned (.slice A n n) ∧ w = w' := by
  cases A with
  | none =>
    have := hn rfl
    subst this
    obtain rfl : n = 0 := by omega
    go_enter Tryd.func7, Tryd.ntmps7
    go_wp2
    go_ret
    exact ⟨rfl, rfl⟩
  | some a =>
    go_enter Tryd.func7, Tryd.ntmps7
    go_wp2
    go_ret
    exact ⟨rfl, rfl⟩

/-- the slice value (A, n, c) reads as the colours l -/
def CoAt (w : World) (A : Option Addr) (l : List Co) : Prop :=
  (A = none → l = []) ∧ ∀ ad, A = some ad → ∀ j u, (coCells l)[j]? = some u → w.cell? (ad.add j) = some u
theorem CoAt.keep {w w' : World} {A : Option Addr} {l : List Co} (h : CoAt w A l) (hk : ∀ p : Addr, ∀ u, w.cell? p = some u → w'.cell? p = some u) : CoAt w' A l :=
  ⟨h.1, fun ad ha j u hu => hk _ _ (h.2 ad ha j u hu)⟩
theorem CoAt.below {w w' : World} {A : Option Addr} {l : List Co} (h : CoAt w A l) (hb : Below w.heap.size w w') : CoAt w' A l :=
  h.keep fun p u hp => by
    have := World.block_lt_of_cell? w p hp
    exact (hb.cell this).trans hp
theorem Rd.coAt {w : World} {B : Nat} {A : Option Addr} {l : List Co} (h : Rd w B 4 A l.length (coCells l)) : CoAt w A l := by
  constructor
  · intro hA
    rcases Nat.eq_zero_or_pos l.length with h0 | h0
    · exact List.eq_nil_of_length_eq_zero h0
    · obtain ⟨b, o, e, _⟩ := h.2 h0
      rw [hA] at e; cases e
  · intro ad hA j u hu
    have hj : j < l.length * 4 := by
      have := (List.getElem?_eq_some_iff.1 hu).1
      rwa [coCells_len] at this
    obtain ⟨b, o, e, _, hc⟩ := h.2 (by omega)
    rw [hA] at e
    injection e with e
    subst e
    have := hc j u hu
    unfold Addr.add
    split
    · rename_i h0; subst h0; simpa using this
    · exact this

set_option maxHeartbeats 1000000 in
set_option maxRecDepth 100000 in
theorem clone_walk (A : Option Addr) (c : Nat) (l : List Co) (w : World) (h : CoAt w A l) (hc : A = none → c = 0) (hl : l.length ≤ 4194304) :
    Calls Tryd.prog 8 #[.slice A l.length c] w fun e w' => ∃ v, e = .returned v ∧ w'.ownsRow w.heap.size 26 4 v l.length (coCells l) ∧ Below w.heap.size w w' := by
  obtain ⟨i0, ji, jz0, jz1, jz2⟩ := info_parts infoCo
  cases A with
  | none =>
    have h1 := h.1 rfl
    have h2 := hc rfl
    subst h1 h2
    have hnl := fun w : World => Lib.run_eql_slice_nil (P := Tryd.prog) w 22 26 none 0 0 0 0 Tryd.underlying22
    go_enter Tryd.func8, Tryd.ntmps8
    go_wp2
    go_ret
    exact ⟨_, rfl, World.ownsRow_nil _ _ _ _, Below.refl _ _⟩
  | some ad =>
    have h2 := h.2 ad rfl
    have hcl := coCells_len l
    have hO := World.ownsRow_lit (base := w.heap.size) (e := 26) (size := 4) w #[] 0 (Nat.le_refl _) (by unfold maxLen; omega) rfl
    have h3 : ∀ j u, (coCells l)[j]? = some u → (w.alloc (.cells #[] 26)).cell? (ad.add j) = some u := fun j u hu => by
      have h4 := h2 j u hu
      have h5 := World.block_lt_of_cell? w _ h4
      rw [World.cell?_of_block (Below.heap_alloc w _ _ h5)]; exact h4
    have H3 := Lib.hid h3
    have hb : Below w.heap.size w (w.alloc (.cells #[] 26)) := (Below.refl _ _).alloc (Nat.le_refl _) _
    clear h2 h3 h
    have hnl := fun w : World => Lib.run_eql_slice_nil (P := Tryd.prog) w 22 26 (some ad) l.length c 0 0 Tryd.underlying22
    go_enter Tryd.func8, Tryd.ntmps8
    go_wp2_with (at_builtin; refine wpList_append_own _ rfl _ _ 22 rfl w.heap.size 26 i0 _ 4 32 Tryd.underlying22 ji jz0 jz1 jz2 rfl (by omega) _ 0 _ rfl hO ad l.length c (coCells l) rfl hcl H3.out (coCells_one l) (by unfold maxLen; omega) (by omega) (by simp) ?_; intro v' w4 hown4 hgrow _)
    go_ret
    exact ⟨v', rfl, by simpa using hown4, hb.grown hgrow hb.size fun g hg => (hO.lt g hg).1⟩
end Go.Proofs.YtnigmmnhpmdbbaaDoor
