/-
  THE PLAIN LAW of QueryCancels: two sheets that are alike, but for what was listed, answer alike.
-/
import Derived.Test.YtnadldoebfmgmaaDoorQP
namespace Go.Proofs.YtnadldoebfmgmaaDoor.q

/-- alike, but for what was listed -/
structure Eqv (s t : Sh) : Prop where
  len : t.cs.length = s.cs.length
  sets : t.sets = s.sets
  most : t.most = s.most
  cel : ∀ j, ∃ o, t.at j = { s.at j with once := o }
theorem upd_at (s : Sh) (k : Nat) (f : Cel → Cel) (j : Nat) : (s.upd k f).at j = if k = j ∧ k < s.cs.length then f (s.at j) else s.at j := by
  by_cases hj : k = j
  · subst hj
    by_cases hk : k < s.cs.length
    · rw [if_pos ⟨rfl, hk⟩]; exact upd_at_same hk
    · rw [if_neg fun h => hk h.2]
      have e1 : (s.upd k f).at k = Cel.dflt := by unfold Sh.at; rw [List.getD_eq_getElem?_getD, List.getElem?_eq_none (by show (s.cs.modify k f).length ≤ k; rw [List.length_modify]; omega)]; rfl
      have e2 : s.at k = Cel.dflt := by unfold Sh.at; rw [List.getD_eq_getElem?_getD, List.getElem?_eq_none (by omega)]; rfl
      rw [e1, e2]
  · rw [if_neg fun h => hj h.1]; exact upd_at_ne hj
section
variable {s t : Sh} {k : Nat}
theorem Eqv.refl (s : Sh) : Eqv s s := ⟨rfl, rfl, rfl, fun j => ⟨(s.at j).once, rfl⟩⟩
theorem Eqv.upd (h : Eqv s t) {f g : Cel → Cel} (hfg : ∀ o, ∃ o', g { s.at k with once := o } = { f (s.at k) with once := o' }) : Eqv (s.upd k f) (t.upd k g) := by
  refine ⟨by rw [upd_len, upd_len]; exact h.len, h.sets, h.most, fun j => ?_⟩
  rw [upd_at, upd_at, h.len]
  obtain ⟨o, e⟩ := h.cel j
  by_cases hj : k = j ∧ k < s.cs.length
  · rw [if_pos hj, if_pos hj, e]
    obtain ⟨rfl, _⟩ := hj
    exact hfg o
  · rw [if_neg hj, if_neg hj]; exact ⟨o, e⟩
/-- a bringing does not hang on what was listed -/
def BrE (br : Sh → Nat → Sh × (Int × Int)) : Prop := ∀ s t k, Eqv s t → Eqv (br s k).1 (br t k).1 ∧ (br s k).2 = (br t k).2
theorem check_eqv {br : Sh → Nat → Sh × (Int × Int)} (hb : BrE br) : ∀ (l : List Dep) (s t : Sh) (b : Bool), Eqv s t → Eqv (checkM br s l b).1 (checkM br t l b).1 ∧ (checkM br s l b).2 = (checkM br t l b).2 := by
  intro l
  induction l with
  | nil => intro s t b h; exact ⟨h, rfl⟩
  | cons d r ih =>
    intro s t b h
    obtain ⟨h1, h2⟩ := hb s t d.c h
    unfold checkM
    simp only
    rw [← h2]
    by_cases hd : (br s d.c).2.1 = d.n ∧ (br s d.c).2.2 = d.e
    · rw [if_pos hd, if_pos hd]; exact ih _ _ _ h1
    · rw [if_neg hd, if_neg hd]; exact ⟨h1, rfl⟩
theorem beg_eqv (h : Eqv s t) : Eqv (begM s k) (begM t k) := by
  have h1 := h.upd (k := k) (f := fun c => { c with runs := c.runs + 1, once := true }) (g := fun c => { c with runs := c.runs + 1, once := true }) fun o => ⟨true, rfl⟩
  exact ⟨h1.len, h1.sets, by show t.most - 1 = s.most - 1; rw [h.most], h1.cel⟩
theorem end_eqv (h : Eqv s t) (d : List Dep) (o : Int × Int) : Eqv (endM s k d o) (endM t k d o) := h.upd fun o => ⟨o, rfl⟩
theorem run_eqv {br : Sh → Nat → Sh × (Int × Int)} (hb : BrE br) (h : Eqv s t) : Eqv (runM br s k) (runM br t k) := by
  obtain ⟨o, e⟩ := h.cel k
  unfold runM
  simp only
  rw [e]
  obtain ⟨h1, h2⟩ := hb _ _ (s.at k).a.toNat (beg_eqv (k := k) h)
  simp only
  rw [← h2]
  generalize br (begM s k) (s.at k).a.toNat = x at *
  generalize br (begM t k) (s.at k).a.toNat = x' at *
  by_cases c1 : x.2.2 ≠ 0
  · rw [if_pos c1, if_pos c1]; exact end_eqv h1 _ _
  · rw [if_neg c1, if_neg c1]
    by_cases c2 : (s.at k).op = 5
    · rw [if_pos c2, if_pos c2]; exact end_eqv h1 _ _
    · rw [if_neg c2, if_neg c2]
      generalize (if (s.at k).op = 4 ∧ x.2.1 = 0 then (s.at k).c else (s.at k).b) = nx at *
      obtain ⟨h3, h4⟩ := hb _ _ nx.toNat h1
      rw [← h4]
      by_cases c3 : (br x.1 nx.toNat).2.2 ≠ 0
      · rw [if_pos c3, if_pos c3]; exact end_eqv h3 _ _
      · rw [if_neg c3, if_neg c3]; exact end_eqv h3 _ _
theorem bring_eqv : ∀ f, BrE (bringM f) := by
  intro f
  induction f with
  | zero =>
    intro s t k h
    obtain ⟨o, e⟩ := h.cel k
    exact ⟨h, by show ((s.at k).n, (s.at k).e) = ((t.at k).n, (t.at k).e); rw [e]⟩
  | succ f ih =>
    intro s t k h
    obtain ⟨o, e⟩ := h.cel k
    unfold bringM
    simp only
    rw [e, h.sets]
    simp only
    by_cases c1 : (s.at k).op = 0 ∨ ((s.at k).since = s.sets ∧ (s.at k).busy = false)
    · rw [if_pos c1, if_pos c1]; exact ⟨h, rfl⟩
    · rw [if_neg c1, if_neg c1]
      by_cases c2 : (s.at k).busy = true
      · rw [if_pos c2, if_pos c2]; exact ⟨h, rfl⟩
      · rw [if_neg c2, if_neg c2]
        obtain ⟨h1, h2⟩ := check_eqv ih (s.at k).deps _ _ (!(s.at k).ran) (h.upd (k := k) (f := fun c => { c with busy := true }) (g := fun c => { c with busy := true }) fun o => ⟨o, rfl⟩)
        rw [← h2]
        generalize checkM (bringM f) (s.upd k fun c => { c with busy := true }) (s.at k).deps (!(s.at k).ran) = x at *
        generalize checkM (bringM f) (t.upd k fun c => { c with busy := true }) (s.at k).deps (!(s.at k).ran) = x' at *
        have h3 : Eqv (if x.2 = true then runM (bringM f) x.1 k else x.1) (if x.2 = true then runM (bringM f) x'.1 k else x'.1) := by
          split
          · exact run_eqv ih h1
          · exact h1
        generalize (if x.2 = true then runM (bringM f) x.1 k else x.1) = y at *
        generalize (if x.2 = true then runM (bringM f) x'.1 k else x'.1) = y' at *
        have h4 := h3.upd (k := k) (f := fun c => { c with since := s.sets, busy := false }) (g := fun c => { c with since := s.sets, busy := false }) fun o => ⟨o, rfl⟩
        refine ⟨h4, ?_⟩
        obtain ⟨o', e'⟩ := h4.cel k
        rw [e']
theorem get_eqv (h : Eqv s t) (k : Int) : Eqv (getM s k).1 (getM t k).1 ∧ (getM s k).2 = (getM t k).2 := by
  unfold getM
  rw [h.len]
  obtain ⟨h1, h2⟩ := bring_eqv 65 s t k.toNat h
  by_cases hk : 0 ≤ k ∧ k < s.cs.length
  · rw [if_pos hk, if_pos hk]
    exact ⟨h1, by rw [← h2]⟩
  · rw [if_neg hk, if_neg hk]; exact ⟨h, rfl⟩
theorem Eqv.runs (h : Eqv s t) (j : Nat) : (t.at j).runs = (s.at j).runs := by obtain ⟨o, e⟩ := h.cel j; rw [e]
end
end Go.Proofs.YtnadldoebfmgmaaDoor.q
