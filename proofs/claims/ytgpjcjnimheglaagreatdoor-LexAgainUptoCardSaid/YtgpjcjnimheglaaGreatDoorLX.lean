/-
  WALKS of package lex's Doc: slices.Clone at []api.Token, New, Text, Tokens.
-/
import Derived.Test.YtgpjcjnimheglaaGreatDoorLK
import Derived.Test.YtgpjcjnimheglaaGreatDoorLT
import Derived.Laws.AppendOwnNone
namespace Go.Proofs.YtgpjcjnimheglaaGreatDoor
open Go.RowKit

theorem tkC_one (x : Tk) : ∀ u ∈ tkC x, u.oneCell' = true := by
  intro u hu
  simp [tkC] at hu
  rcases hu with rfl | rfl | rfl <;> rfl
theorem tksC_one (l : List Tk) : ∀ u ∈ tksC l, u.oneCell' = true := by
  intro u hu
  simp only [tksC, List.mem_flatMap] at hu
  obtain ⟨x, _, hx⟩ := hu
  exact tkC_one x u hx
theorem tksC_app (l m : List Tk) : tksC (l ++ m) = tksC l ++ tksC m := by simp [tksC]
theorem tksC_take (l : List Tk) (k : Nat) : tksC (l.take k) = (tksC l).take (k * 3) := by
  induction l generalizing k with
  | nil => simp [tksC]
  | cons a l ih =>
    cases k with
    | zero => simp [tksC]
    | succ k =>
      have h3 : (tkC a).length = 3 := rfl
      simp only [tksC, List.take_succ_cons, List.flatMap_cons] at *
      rw [ih, show (k + 1) * 3 = (tkC a).length + k * 3 by rw [h3]; omega, List.take_length_add_append]
theorem tksC_drop (l : List Tk) (k : Nat) : tksC (l.drop k) = (tksC l).drop (k * 3) := by
  induction l generalizing k with
  | nil => simp [tksC]
  | cons a l ih =>
    cases k with
    | zero => simp [tksC]
    | succ k =>
      have h3 : (tkC a).length = 3 := rfl
      simp only [tksC, List.drop_succ_cons, List.flatMap_cons] at *
      rw [ih, show (k + 1) * 3 = (tkC a).length + k * 3 by rw [h3]; omega, List.drop_length_add_append]

/-- the slice value (A, n, c) reads as the tokens l -/
def TkAt (w : World) (A : Option Addr) (l : List Tk) : Prop :=
  (A = none → l = []) ∧ ∀ ad, A = some ad → ∀ j u, (tksC l)[j]? = some u → w.cell? (ad.add j) = some u
theorem TkAt.keep {w w' : World} {A : Option Addr} {l : List Tk} (h : TkAt w A l) (hk : ∀ p : Addr, ∀ u, w.cell? p = some u → w'.cell? p = some u) : TkAt w' A l :=
  ⟨h.1, fun ad ha j u hu => hk _ _ (h.2 ad ha j u hu)⟩
theorem TkAt.below {w w' : World} {A : Option Addr} {l : List Tk} (h : TkAt w A l) (hb : Below w.heap.size w w') : TkAt w' A l :=
  h.keep fun p u hp => by
    have := World.block_lt_of_cell? w p hp
    exact (hb.cell this).trans hp
theorem Rd.tkAt {w : World} {B : Nat} {A : Option Addr} {l : List Tk} (h : Rd w B 3 A l.length (tksC l)) : TkAt w A l := by
  constructor
  · intro hA
    rcases Nat.eq_zero_or_pos l.length with h0 | h0
    · exact List.eq_nil_of_length_eq_zero h0
    · obtain ⟨b, o, e, _⟩ := h.2 h0
      rw [hA] at e; cases e
  · intro ad hA j u hu
    have hj : j < l.length * 3 := by
      have := (List.getElem?_eq_some_iff.1 hu).1
      rwa [tksC_len] at this
    obtain ⟨b, o, e, _, hc⟩ := h.2 (by omega)
    rw [hA] at e
    injection e with e
    subst e
    have := hc j u hu
    unfold Addr.add
    split
    · rename_i h0; subst h0; simpa using this
    · exact this

set_option maxHeartbeats 1000000 in
set_option maxRecDepth 100000 in
theorem tclone_walk (A : Option Addr) (c : Nat) (l : List Tk) (w : World) (h : TkAt w A l) (hc : A = none → c = 0) (hl : l.length ≤ 16777216) :
    Calls Tryz.prog 37 #[.slice A l.length c] w fun e w' => ∃ v, e = .returned v ∧ w'.ownsRow w.heap.size 42 3 v l.length (tksC l) ∧ Below w.heap.size w w' := by
  obtain ⟨i0, ji, jz0, jz1, jz2⟩ := info_parts infoTk
  cases A with
  | none =>
    have h1 := h.1 rfl
    have h2 := hc rfl
    subst h1 h2
    have hnl := fun w : World => Lib.run_eql_slice_nil (P := Tryz.prog) w 34 42 none 0 0 0 0 Tryz.underlying34
    go_enter Tryz.func37, Tryz.ntmps37
    go_wp2
    go_ret
    exact ⟨_, rfl, World.ownsRow_nil _ _ _ _, Below.refl _ _⟩
  | some ad =>
    have h2 := h.2 ad rfl
    have hcl := tksC_len l
    have hO := World.ownsRow_lit (base := w.heap.size) (e := 42) (size := 3) w #[] 0 (Nat.le_refl _) (by unfold maxLen; omega) rfl
    have h3 : ∀ j u, (tksC l)[j]? = some u → (w.alloc (.cells #[] 42)).cell? (ad.add j) = some u := fun j u hu => by
      have h4 := h2 j u hu
      have h5 := World.block_lt_of_cell? w _ h4
      rw [World.cell?_of_block (Below.heap_alloc w _ _ h5)]; exact h4
    have H3 := Lib.hid h3
    have hb : Below w.heap.size w (w.alloc (.cells #[] 42)) := (Below.refl _ _).alloc (Nat.le_refl _) _
    clear h2 h3 h
    have hnl := fun w : World => Lib.run_eql_slice_nil (P := Tryz.prog) w 34 42 (some ad) l.length c 0 0 Tryz.underlying34
    go_enter Tryz.func37, Tryz.ntmps37
    go_wp2_with (at_builtin; refine wpList_append_own _ rfl _ _ 34 rfl w.heap.size 42 i0 _ 3 24 Tryz.underlying34 ji jz0 jz1 jz2 rfl (by omega) _ 0 _ rfl hO ad l.length c (tksC l) rfl hcl H3.out (tksC_one l) (by unfold maxLen; omega) (by omega) (by simp) ?_; intro v' w4 hown4 hgrow _)
    go_ret
    exact ⟨v', rfl, by simpa using hown4, hb.grown hgrow hb.size fun g hg => (hO.lt g hg).1⟩

theorem own_clip {w : World} {base : Nat} {e : TypeId} {n c : Nat} {A : Option Addr} {xs : List Value} (h : w.ownsRow base e 3 (.slice A n c) n xs) : (A = none → n = 0) ∧ Rd w w.heap.size 3 A n xs := by
  refine ⟨fun hA => ?_, Rd.of_own h⟩
  rcases Nat.eq_zero_or_pos n with h0 | h0
  · exact h0
  · obtain ⟨b, o, e, _⟩ := (Rd.of_own h).2 h0
    rw [hA] at e; cases e

/-- a Doc in memory: its text and its tokens -/
def DocAt (w : World) (g : Nat) (s : Bs) (T : List Tk) : Prop :=
  ∃ A c, Blk w g 81 #[.string ⟨s.toArray⟩, .slice A T.length c] ∧ (A = none → c = 0) ∧ T.length ≤ c ∧ Rd w w.heap.size 3 A T.length (tksC T)
theorem DocAt.below {w w' : World} {g : Nat} {s : Bs} {T : List Tk} (h : DocAt w g s T) (hb : Below w.heap.size w w') : DocAt w' g s T := by
  obtain ⟨A, c, h1, h2, h3, h4⟩ := h
  exact ⟨A, c, h1.below hb h1.lt, h2, h3, (h4.below hb).more hb.size⟩

set_option maxHeartbeats 1000000 in
set_option maxRecDepth 100000 in
theorem ltext_walk (g : Nat) (s : Bs) (T : List Tk) (w : World) (h : DocAt w g s T) :
    Calls Tryz.prog 16 #[.pointer (some ⟨g, 0, none⟩)] w fun e w' => e = .returned (.string ⟨s.toArray⟩) ∧ w' = w := by
  obtain ⟨A, c, h1, h2, h3, h4⟩ := h
  have c0 := h1.cell 0
  simp at c0
  go_enter Tryz.func16, Tryz.ntmps16
  go_wp2
  go_ret
  exact ⟨rfl, rfl⟩

set_option maxHeartbeats 1000000 in
set_option maxRecDepth 100000 in
theorem ltokens_walk (g : Nat) (s : Bs) (T : List Tk) (w : World) (h : DocAt w g s T) (hl : T.length ≤ 16777216) :
    Calls Tryz.prog 13 #[.pointer (some ⟨g, 0, none⟩)] w fun e w' => ∃ A, e = .returned (.slice A T.length T.length) ∧ (∃ c, w'.ownsRow w.heap.size 42 3 (.slice A T.length c) T.length (tksC T)) ∧ Below w.heap.size w w' := by
  obtain ⟨A, c, h1, h2, h3, h4⟩ := h
  have c1 := h1.cell 1
  simp at c1
  have hcl := tclone_walk A c T w h4.tkAt h2 hl
  go_enter Tryz.func13, Tryz.ntmps13
  go_wp2_with fail
  refine hcl.mono ?_
  rintro e w1 ⟨v, rfl, hown, hb1⟩
  obtain ⟨Av, cv, rfl, hle, hvn⟩ := own_cap hown
  go_wp2_with fail
  refine (tclip_walk Av T.length cv _ hle hvn).mono ?_
  rintro e w' ⟨rfl, rfl⟩
  go_wp2_with fail
  go_ret
  exact ⟨Av, rfl, ⟨cv, hown⟩, hb1⟩

set_option maxHeartbeats 1000000 in
set_option maxRecDepth 100000 in
theorem lnew_walk (s : Bs) (m : Int) (w : World) (hM : MaxL w m) (hT : T8 w) (hW : WordsIs w) (hl : s.length ≤ 8388608) :
    Calls Tryz.prog 9 #[.string ⟨s.toArray⟩] w fun e w' => ∃ g, e = .returned (.pointer (some ⟨g, 0, none⟩)) ∧ w.heap.size ≤ g ∧ DocAt w' g s (Lx.tokR 0 s) ∧ Below w.heap.size w w' := by
  have hk := tokens_walkO s m w hM hT hW hl
  generalize Lx.tokR 0 s = T at *
  go_enter Tryz.func9, Tryz.ntmps9
  go_wp2_with fail
  refine hk.mono ?_
  clear hk
  rintro e w1 ⟨A, rfl, ⟨cv, hown⟩, hb1⟩
  obtain ⟨hc, hrd⟩ := own_clip hown
  go_wp2_with fail
  go_ret
  have hbA : Below w.heap.size w (w1.alloc (.cells #[.string ⟨s.toArray⟩, .slice A T.length T.length] 81)) := hb1.alloc hb1.size _
  exact ⟨_, rfl, hb1.size, ⟨A, T.length, Blk.new _ _ _, hc, Nat.le_refl _, (hrd.below ((Below.refl _ _).alloc (Nat.le_refl _) _)).more (by simp)⟩, hbA⟩
end Go.Proofs.YtgpjcjnimheglaaGreatDoor
