/-
  COLOURS: as cells; what two lists have in common (plain functions).
-/
import Derived.Test.YtnigmmnhpmdbbaaDoorBase
namespace Go.Proofs.YtnigmmnhpmdbbaaDoor
open Go.RowKit

structure Co where
  l : Int
  u : Int
  n : Int
  k : Int
deriving DecidableEq

def Co.cells (p : Co) : List Value := [.int .i64 p.l, .int .i64 p.u, .int .i64 p.n, .int .i64 p.k]
def coCells (l : List Co) : List Value := l.flatMap Co.cells
theorem coCells_len (l : List Co) : (coCells l).length = l.length * 4 := by
  induction l with
  | nil => rfl
  | cons a l ih => simp only [coCells, List.flatMap_cons, List.length_append, List.length_cons] at *; rw [ih]; simp [Co.cells]; omega
theorem coCells_app (a b : List Co) : coCells (a ++ b) = coCells a ++ coCells b := by simp [coCells]
theorem coCells_one (l : List Co) : ∀ u ∈ coCells l, u.oneCell' = true := by
  induction l with
  | nil => intro u hu; simp [coCells] at hu
  | cons s r ih =>
    intro u hu
    simp only [coCells, List.flatMap_cons, List.mem_append] at hu
    rcases hu with hu | hu
    · simp only [Co.cells, List.mem_cons, List.mem_nil_iff, or_false] at hu
      rcases hu with rfl | rfl | rfl | rfl <;> rfl
    · exact ih u hu
theorem coCells_get (l : List Co) (k j : Nat) (hj : j < 4) (hk : k < l.length) : (coCells l)[k * 4 + j]? = (l[k].cells)[j]? := by
  induction l generalizing k with
  | nil => simp at hk
  | cons a l ih =>
    cases k with
    | zero => simp only [coCells, List.flatMap_cons]; rw [List.getElem?_append_left (by simp [Co.cells]; omega)]; simp
    | succ k =>
      have h3 : a.cells.length = 4 := rfl
      simp only [coCells, List.flatMap_cons]
      rw [List.getElem?_append_right (by omega), h3]
      have e : (k + 1) * 4 + j - 4 = k * 4 + j := by omega
      rw [e]
      have := ih k (by simpa using hk)
      simpa [coCells] using this
theorem coCells_drop (l : List Co) (k : Nat) : (coCells l).drop (k * 4) = coCells (l.drop k) := by
  induction l generalizing k with
  | nil => simp [coCells]
  | cons a l ih =>
    cases k with
    | zero => simp
    | succ k =>
      have h3 : a.cells.length = 4 := rfl
      have := ih k
      simp only [coCells, List.flatMap_cons, List.drop_succ_cons] at this ⊢
      rw [show (k + 1) * 4 = a.cells.length + k * 4 from by omega, List.drop_append, Nat.add_sub_cancel_left, this, List.drop_of_length_le (by omega), List.nil_append]
theorem coCells_take (l : List Co) (k : Nat) : (coCells l).take (k * 4) = coCells (l.take k) := by
  induction l generalizing k with
  | nil => simp [coCells]
  | cons a l ih =>
    cases k with
    | zero => simp [coCells]
    | succ k =>
      have h3 : a.cells.length = 4 := rfl
      have := ih k
      simp only [coCells, List.flatMap_cons, List.take_succ_cons] at this ⊢
      rw [show (k + 1) * 4 = a.cells.length + k * 4 from by omega, List.take_append, Nat.add_sub_cancel_left, this, List.take_of_length_le (by omega)]

/-- the facts that a round wants of the colours -/
theorem Rd.co {w : World} {B : Nat} {A : Option Addr} {l : List Co} {k : Nat} (h : Rd w B 4 A l.length (coCells l)) (hk : k < l.length) :
    ∃ b o, A = some ⟨b, o, none⟩ ∧ b < B ∧ ∀ (j : Nat) (hj : j < l.length), w.cell? ⟨b, o + j * 4, none⟩ = some (.int .i64 l[j].l) ∧ w.cell? ⟨b, o + j * 4 + 1, none⟩ = some (.int .i64 l[j].u) ∧ w.cell? ⟨b, o + j * 4 + 2, none⟩ = some (.int .i64 l[j].n) ∧ w.cell? ⟨b, o + j * 4 + 3, none⟩ = some (.int .i64 l[j].k) := by
  obtain ⟨b, o, e, hb, hc⟩ := h.2 (by omega)
  refine ⟨b, o, e, hb, fun j hj => ⟨?_, ?_, ?_, ?_⟩⟩
  · have := hc (j * 4 + 0) _ (coCells_get l j 0 (by omega) hj); simpa [Nat.add_assoc] using this
  · have := hc (j * 4 + 1) _ (coCells_get l j 1 (by omega) hj); simpa [Nat.add_assoc] using this
  · have := hc (j * 4 + 2) _ (coCells_get l j 2 (by omega) hj); simpa [Nat.add_assoc] using this
  · have := hc (j * 4 + 3) _ (coCells_get l j 3 (by omega) hj); simpa [Nat.add_assoc] using this

theorem Co.ne_ways {x y : Co} (h : x ≠ y) : x.l ≠ y.l ∨ (x.l = y.l ∧ x.u ≠ y.u) ∨ (x.l = y.l ∧ x.u = y.u ∧ x.n ≠ y.n) ∨ (x.l = y.l ∧ x.u = y.u ∧ x.n = y.n ∧ x.k ≠ y.k) := by
  by_cases h1 : x.l = y.l
  · by_cases h2 : x.u = y.u
    · by_cases h3 : x.n = y.n
      · by_cases h4 : x.k = y.k
        · cases x; cases y; simp_all
        · exact .inr (.inr (.inr ⟨h1, h2, h3, h4⟩))
      · exact .inr (.inr (.inl ⟨h1, h2, h3⟩))
    · exact .inr (.inl ⟨h1, h2⟩)
  · exact .inl h1
/-- how many the two begin with that are the same -/
def pre : List Co → List Co → Nat
  | x :: a, y :: b => if x = y then pre a b + 1 else 0
  | _, _ => 0
theorem pre_le (a b : List Co) : pre a b ≤ a.length ∧ pre a b ≤ b.length := by
  induction a generalizing b with
  | nil => simp [pre]
  | cons x a ih =>
    cases b with
    | nil => simp [pre]
    | cons y b =>
      have := ih b
      simp only [pre, List.length_cons]
      split <;> omega
theorem pre_next {a b : List Co} {k : Nat} (h : k ≤ pre a b) (ha : k < a.length) (hb : k < b.length) (he : a[k] = b[k]) : k + 1 ≤ pre a b := by
  induction a generalizing b k with
  | nil => simp at ha
  | cons x a ih =>
    cases b with
    | nil => simp at hb
    | cons y b =>
      cases k with
      | zero =>
        simp only [List.getElem_cons_zero] at he
        simp only [pre, if_pos he]; omega
      | succ k =>
        simp only [pre] at h ⊢
        split at h
        · rename_i hxy
          rw [if_pos hxy]
          have := ih (b := b) (k := k) (by omega) (by simpa using ha) (by simpa using hb) (by simpa using he)
          omega
        · omega
theorem pre_stop {a b : List Co} {k : Nat} (h : k ≤ pre a b) (hs : ∀ (ha : k < a.length) (hb : k < b.length), a[k] ≠ b[k]) : pre a b = k := by
  induction a generalizing b k with
  | nil => simp [pre] at h ⊢; omega
  | cons x a ih =>
    cases b with
    | nil => simp [pre] at h ⊢; omega
    | cons y b =>
      cases k with
      | zero =>
        have := hs (by simp) (by simp)
        simp only [List.getElem_cons_zero] at this
        simp only [pre, if_neg this]
      | succ k =>
        simp only [pre] at h ⊢
        split at h
        · rename_i hxy
          rw [if_pos hxy]
          have := ih (b := b) (k := k) (by omega) (fun h1 h2 => by have := hs (by simpa using h1) (by simpa using h2); simpa using this)
          omega
        · omega
/-- how many the two end with that are the same, behind so many -/
def suf (a b : List Co) (at_ : Nat) : Nat := pre (a.drop at_).reverse (b.drop at_).reverse
theorem suf_le (a b : List Co) (at_ : Nat) : suf a b at_ ≤ a.length - at_ ∧ suf a b at_ ≤ b.length - at_ := by
  have := pre_le (a.drop at_).reverse (b.drop at_).reverse
  simpa [suf] using this
theorem rev_get {a : List Co} {at_ k : Nat} (h : k < a.length - at_) : ((a.drop at_).reverse)[k]'(by simpa using h) = a[a.length - 1 - k]'(by omega) := by
  rw [List.getElem_reverse, List.getElem_drop]
  congr 1
  simp; omega
theorem suf_next {a b : List Co} {at_ k : Nat} (h : k ≤ suf a b at_) (ha : k < a.length - at_) (hb : k < b.length - at_) (he : a[a.length - 1 - k]'(by omega) = b[b.length - 1 - k]'(by omega)) : k + 1 ≤ suf a b at_ :=
  pre_next h (by simpa using ha) (by simpa using hb) (by rw [rev_get ha, rev_get hb]; exact he)
theorem suf_stop {a b : List Co} {at_ k : Nat} (h : k ≤ suf a b at_) (hs : ∀ (ha : k < a.length - at_) (hb : k < b.length - at_), a[a.length - 1 - k]'(by omega) ≠ b[b.length - 1 - k]'(by omega)) : suf a b at_ = k :=
  pre_stop h fun h1 h2 => by
    have h1' : k < a.length - at_ := by simpa using h1
    have h2' : k < b.length - at_ := by simpa using h2
    have := hs h1' h2'
    rw [rev_get h1', rev_get h2']; exact this
end Go.Proofs.YtnigmmnhpmdbbaaDoor
