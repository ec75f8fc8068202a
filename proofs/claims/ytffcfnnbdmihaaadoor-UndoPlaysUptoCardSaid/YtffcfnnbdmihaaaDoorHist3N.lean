/-
  HISTORIES: At, Len, Redo, Next; slices.Clip, Clone at []int; Ints of package amanuensissame.
-/
import Derived.Test.YtffcfnnbdmihaaaDoorDoN
import Derived.Laws.AppendOwnNone
namespace Go.Proofs.YtffcfnnbdmihaaaDoor.hn
open Go.RowKit
variable {N : Nat → Prop}

set_option maxRecDepth 100000 in
theorem at_walk (base h : Nat) (l : List HV) (a : Nat) (w : World) (H : HistAt N w base h l a) :
    Calls Tryd.prog 46 #[.pointer (some ⟨h, 0, none⟩)] w fun e w' => e = .returned (.int .i64 a) ∧ w = w' := by
  obtain ⟨g, cap, hb, hB, ho, hn, hp, ha, hN⟩ := H
  have c1 := hb.cell 1
  simp at c1
  clear hN hn hp
  go_enter Tryd.func46, Tryd.ntmps46
  go_wp2
  go_ret
  exact ⟨rfl, rfl⟩
set_option maxRecDepth 100000 in
theorem len_walk (base h : Nat) (l : List HV) (a : Nat) (w : World) (H : HistAt N w base h l a) :
    Calls Tryd.prog 47 #[.pointer (some ⟨h, 0, none⟩)] w fun e w' => e = .returned (.int .i64 l.length) ∧ w = w' := by
  obtain ⟨g, cap, hb, hB, ho, hn, hp, ha, hN⟩ := H
  have c0 := hb.cell 0
  simp at c0
  clear hN hn hp
  go_enter Tryd.func47, Tryd.ntmps47
  go_wp2
  go_ret
  exact ⟨rfl, rfl⟩

/-- the slice value (A, n, _) reads as the numbers l -/
def InAt (w : World) (A : Option Addr) (l : List Nat) : Prop :=
  (A = none → l = []) ∧ ∀ ad, A = some ad → ∀ j u, (ints l)[j]? = some u → w.cell? (ad.add j) = some u
theorem InAt.below {w w' : World} {A : Option Addr} {l : List Nat} (h : InAt w A l) (hb : Below w.heap.size w w') : InAt w' A l :=
  ⟨h.1, fun ad ha j u hu => by
    have h1 := h.2 ad ha j u hu
    have := World.block_lt_of_cell? w _ h1
    exact (hb.cell this).trans h1⟩
theorem ints_len (l : List Nat) : (ints l).length = l.length := by simp [ints]
theorem ints_one (l : List Nat) : ∀ u ∈ ints l, u.oneCell' = true := by
  intro u hu
  simp only [ints, List.mem_map] at hu
  obtain ⟨n, _, rfl⟩ := hu
  rfl
theorem own_inAt {w : World} {base : Nat} {A : Option Addr} {c : Nat} {l : List Nat} (h : w.ownsRow base 3 1 (.slice A l.length c) l.length (ints l)) : InAt w A l ∧ l.length ≤ c ∧ (A = none → c = 0) := by
  rcases h.2 with ⟨hv, hn⟩ | ⟨g, cap, cur, hv, _, _, hle, _⟩
  · injection hv with h1 h2 h3
    subst h1 h3
    exact ⟨⟨fun _ => List.eq_nil_of_length_eq_zero hn, (fun ad h => by cases h)⟩, by omega, fun _ => rfl⟩
  · injection hv with h1 h2 h3
    subst h1 h3
    refine ⟨⟨(fun h => by cases h), fun ad had j u hu => ?_⟩, hle, (fun h => by cases h)⟩
    injection had with had
    subst had
    exact h.cells rfl j u hu

set_option maxRecDepth 100000 in
theorem iclip_walk (A : Option Addr) (n c : Nat) (w : World) (h : n ≤ c) (hn : A = none → c = 0) :
    Calls Tryd.prog 64 #[.slice A n c] w fun e w' => e = .returned (.slice A n n) ∧ w = w' := by
  cases A with
  | none =>
    have := hn rfl
    subst this
    obtain rfl : n = 0 := by omega
    go_enter Tryd.func64, Tryd.ntmps64
    go_wp2
    go_ret
    exact ⟨rfl, rfl⟩
  | some a =>
    go_enter Tryd.func64, Tryd.ntmps64
    go_wp2
    go_ret
    exact ⟨rfl, rfl⟩

set_option maxHeartbeats 1000000 in
set_option maxRecDepth 100000 in
theorem iclone_walk (A : Option Addr) (c : Nat) (l : List Nat) (w : World) (h : InAt w A l) (hc : A = none → c = 0) (hl : l.length ≤ 4194304) :
    Calls Tryd.prog 65 #[.slice A l.length c] w fun e w' => ∃ v, e = .returned v ∧ w'.ownsRow w.heap.size 3 1 v l.length (ints l) ∧ Below w.heap.size w w' := by
  obtain ⟨i0, ji, jz0, jz1, jz2⟩ := info_parts infoInt
  cases A with
  | none =>
    have h1 := h.1 rfl
    have h2 := hc rfl
    subst h1 h2
    have hnl := fun w : World => Lib.run_eql_slice_nil (P := Tryd.prog) w 76 3 none 0 0 0 0 Tryd.underlying76
    go_enter Tryd.func65, Tryd.ntmps65
    go_wp2
    go_ret
    exact ⟨_, rfl, World.ownsRow_nil _ _ _ _, Below.refl _ _⟩
  | some ad =>
    have h2 := h.2 ad rfl
    have hcl := ints_len l
    have hO := World.ownsRow_lit (base := w.heap.size) (e := 3) (size := 1) w #[] 0 (Nat.le_refl _) (by unfold maxLen; omega) rfl
    have h3 : ∀ j u, (ints l)[j]? = some u → (w.alloc (.cells #[] 3)).cell? (ad.add j) = some u := fun j u hu => by
      have h4 := h2 j u hu
      have h5 := World.block_lt_of_cell? w _ h4
      rw [World.cell?_of_block (Below.heap_alloc w _ _ h5)]; exact h4
    have H3 := Lib.hid h3
    have hb : Below w.heap.size w (w.alloc (.cells #[] 3)) := (Below.refl _ _).alloc (Nat.le_refl _) _
    clear h2 h3 h
    have hnl := fun w : World => Lib.run_eql_slice_nil (P := Tryd.prog) w 76 3 (some ad) l.length c 0 0 Tryd.underlying76
    go_enter Tryd.func65, Tryd.ntmps65
    go_wp2_with (at_builtin; refine wpList_append_own _ rfl _ _ 76 rfl w.heap.size 3 i0 _ 1 8 Tryd.underlying76 ji jz0 jz1 jz2 rfl (by omega) _ 0 _ rfl hO ad l.length c (ints l) rfl (by rw [hcl]; omega) H3.out (ints_one l) (by unfold maxLen; omega) (by omega) (by simp) ?_; intro v' w4 hown4 hgrow _)
    go_ret
    exact ⟨v', rfl, by simpa using hown4, hb.grown hgrow hb.size fun g hg => (hO.lt g hg).1⟩

set_option maxHeartbeats 1000000 in
set_option maxRecDepth 100000 in
theorem next_walk (base h : Nat) (l : List HV) (a : Nat) (w : World) (H : HistAt N w base h l a) (x : HV) (hx : l[a]? = some x) (hnl : x.nx.length ≤ 1048576) :
    Calls Tryd.prog 48 #[.pointer (some ⟨h, 0, none⟩)] w fun e w' => ∃ Av cv, e = .returned (.slice Av x.nx.length x.nx.length) ∧ w'.ownsRow w.heap.size 3 1 (.slice Av x.nx.length cv) x.nx.length (ints x.nx) ∧ Below w.heap.size w w' := by
  obtain ⟨g, cap, hb, hB, ho, hn, hp, ha, hN⟩ := H
  have c0 := hb.cell 0
  have c1 := hb.cell 1
  obtain rfl : l[a] = x := by rw [List.getElem?_eq_getElem ha] at hx; exact Option.some.inj hx
  have c2 : w.cell? ⟨g, a * 3 + 2, none⟩ = some l[a].v := own_cell ho (a * 3 + 2) _ (hvCells_get l a 2 (by omega) ha)
  have hown := hn _ (List.getElem_mem ha)
  clear hx hN hn hp
  simp at c0 c1
  have i1 : (0 : Int) ≤ (a : Int) := by omega
  have i2 : (a : Int) < (l.length : Int) := by omega
  generalize l[a] = y at *
  obtain ⟨Ay, cy, hy⟩ := own_form hown
  rw [hy] at hown c2
  clear hy
  obtain ⟨hin, hle, hnc⟩ := own_inAt hown
  have Hin := Lib.hid hin
  clear hin hown
  go_enter Tryd.func48, Tryd.ntmps48
  go_wp2_with fail
  go_still_tail 11, (by kernel_rfl)
  change wpList _ _ _ _ _ w.drew
  go_wp2_with fail
  refine (iclone_walk Ay cy y.nx w.drew (show InAt w.drew Ay y.nx from Hin.out) hnc (by omega)).mono ?_
  rintro e w2 ⟨v, rfl, hown2, hb2⟩
  have hmc : ∃ Av cv, v = .slice Av y.nx.length cv ∧ y.nx.length ≤ cv ∧ (Av = none → cv = 0) := by
    rcases hown2.2 with ⟨rfl, hP0⟩ | ⟨g, cap, cur, rfl, _, _, hle, _⟩
    · exact ⟨none, 0, by rw [hP0], by omega, fun _ => rfl⟩
    · exact ⟨_, cap, rfl, hle, fun h => by cases h⟩
  obtain ⟨Av, cv, rfl, hle2, hvn⟩ := hmc
  go_wp2_with fail
  refine (iclip_walk Av y.nx.length cv _ hle2 hvn).mono ?_
  rintro e w' ⟨rfl, rfl⟩
  go_wp2_with fail
  go_ret
  exact ⟨Av, cv, rfl, hown2, (Below.refl _ _).drew.trans hb2⟩

set_option maxRecDepth 100000 in
theorem redo_no (base h : Nat) (l : List HV) (a : Nat) (w : World) (H : HistAt N w base h l a) (x : HV) (hx : l[a]? = some x) (k : Int) (hk : k < 0 ∨ (x.nx.length : Int) ≤ k) (hnl : x.nx.length ≤ 1048576) :
    Calls Tryd.prog 43 #[.pointer (some ⟨h, 0, none⟩), .int .i64 k] w fun e w' => e = .returned (.bool false) ∧ Below w.heap.size w w' := by
  obtain ⟨g, cap, hb, hB, ho, hn, hp, ha, hN⟩ := H
  have c0 := hb.cell 0
  have c1 := hb.cell 1
  obtain rfl : l[a] = x := by rw [List.getElem?_eq_getElem ha] at hx; exact Option.some.inj hx
  have c2 : w.cell? ⟨g, a * 3 + 2, none⟩ = some l[a].v := own_cell ho (a * 3 + 2) _ (hvCells_get l a 2 (by omega) ha)
  have hown := hn _ (List.getElem_mem ha)
  clear hx hN hn hp
  simp at c0 c1
  have i1 : (0 : Int) ≤ (a : Int) := by omega
  have i2 : (a : Int) < (l.length : Int) := by omega
  generalize l[a] = y at *
  obtain ⟨Ay, cy, hy⟩ := own_form hown
  rw [hy] at c2
  clear hy hown
  rcases hk with hk | hk
  · have d1 : decide (0 ≤ k) = false := by simp; omega
    go_enter Tryd.func43, Tryd.ntmps43
    go_wp2_with fail
    go_quiet (fail)
    go_wp2_with fail
    go_ret
    exact ⟨rfl, below_drewN (Below.refl _ _) _⟩
  · have d1 : decide (0 ≤ k) = true := by simp; omega
    have d2 : decide (k < (y.nx.length : Int)) = false := by simp; omega
    go_enter Tryd.func43, Tryd.ntmps43
    go_wp2_with fail
    go_quiet (fail)
    go_wp2_with fail
    go_ret
    exact ⟨rfl, below_drewN (Below.refl _ _) _⟩
set_option maxRecDepth 100000 in
theorem redo_yes (base h : Nat) (l : List HV) (a : Nat) (w : World) (H : HistAt N w base h l a) (x : HV) (hx : l[a]? = some x) (k : Nat) (hk : k < x.nx.length) (hnl : x.nx.length ≤ 1048576) (n : Nat) (hnk : x.nx[k]? = some n) (hnl' : n < l.length) :
    Calls Tryd.prog 43 #[.pointer (some ⟨h, 0, none⟩), .int .i64 k] w fun e w' => e = .returned (.bool true) ∧ HistAt N w' base h l n ∧ Below base w w' ∧ KeepN N w w' := by
  have H0 := H
  obtain ⟨g, cap, hb, hB, ho, hn, hp, ha, hN⟩ := H
  have c0 := hb.cell 0
  have c1 := hb.cell 1
  obtain rfl : l[a] = x := by rw [List.getElem?_eq_getElem ha] at hx; exact Option.some.inj hx
  have c2 : w.cell? ⟨g, a * 3 + 2, none⟩ = some l[a].v := own_cell ho (a * 3 + 2) _ (hvCells_get l a 2 (by omega) ha)
  have hown := hn _ (List.getElem_mem ha)
  clear hx hN hn hp
  simp at c0 c1
  have i1 : (0 : Int) ≤ (a : Int) := by omega
  have i2 : (a : Int) < (l.length : Int) := by omega
  generalize l[a] = y at *
  obtain ⟨gy, capy, hy, _, _⟩ := hown.form (by omega)
  rw [hy] at c2 hown
  have c3 : w.cell? ⟨gy, k, none⟩ = some (.int .i64 n) := own_cell hown k _ (by simp [ints, hnk])
  clear hy hown hnk
  have d1 : decide ((0 : Int) ≤ (k : Int)) = true := by simp
  have d2 : decide (k < y.nx.length) = true := by simp [hk]
  have i3 : (k : Int) < (y.nx.length : Int) := by omega
  go_enter Tryd.func43, Tryd.ntmps43
  go_wp2_with fail
  go_quiet (fail)
  go_wp2_with fail
  refine (go_yes base h l a _ n (H0.drewN _) hnl').mono ?_
  rintro e w2 ⟨rfl, H2, hb2, hk2⟩
  go_wp2_with fail
  go_ret
  exact ⟨rfl, H2, (below_drewN (Below.refl _ _) _).trans hb2, hk2⟩
end Go.Proofs.YtffcfnnbdmihaaaDoor.hn
