/-
  SPANS: as cells; what is wrong with them (plain functions).
-/
import Derived.Test.YtffcfnnbdmihaaaDoorBase
namespace Go.Proofs.YtffcfnnbdmihaaaDoor
open Go.RowKit

structure Sp where
  f : Int
  t : Int
  s : ByteArray

def Sp.cells (p : Sp) : List Value := [.int .i64 p.f, .int .i64 p.t, .string p.s]
def spCells (l : List Sp) : List Value := l.flatMap Sp.cells

theorem spCells_len (l : List Sp) : (spCells l).length = l.length * 3 := by
  induction l with
  | nil => rfl
  | cons a l ih => simp only [spCells, List.flatMap_cons, List.length_append, List.length_cons] at *; rw [ih]; simp [Sp.cells]; omega
theorem spCells_snoc (l : List Sp) (p : Sp) : spCells (l ++ [p]) = spCells l ++ [.int .i64 p.f, .int .i64 p.t, .string p.s] := by simp [spCells, Sp.cells]
theorem spCells_get (l : List Sp) (k j : Nat) (hj : j < 3) (hk : k < l.length) : (spCells l)[k * 3 + j]? = (l[k].cells)[j]? := by
  induction l generalizing k with
  | nil => simp at hk
  | cons a l ih =>
    cases k with
    | zero => simp only [spCells, List.flatMap_cons]; rw [List.getElem?_append_left (by simp [Sp.cells]; omega)]; simp
    | succ k =>
      have h3 : a.cells.length = 3 := rfl
      simp only [spCells, List.flatMap_cons]
      rw [List.getElem?_append_right (by omega), h3]
      have e : (k + 1) * 3 + j - 3 = k * 3 + j := by omega
      rw [e]
      have := ih k (by simpa using hk)
      simpa [spCells] using this

/-- the facts that a round wants of the k-th span -/
theorem Rd.sp {w : World} {B : Nat} {A : Option Addr} {l : List Sp} {k : Nat} (h : Rd w B 3 A l.length (spCells l)) (hk : k < l.length) :
    ∃ b o, A = some ⟨b, o, none⟩ ∧ b < B ∧ ∀ (j : Nat) (hj : j < l.length), w.cell? ⟨b, o + j * 3, none⟩ = some (.int .i64 l[j].f) ∧ w.cell? ⟨b, o + j * 3 + 1, none⟩ = some (.int .i64 l[j].t) ∧ w.cell? ⟨b, o + j * 3 + 2, none⟩ = some (.string l[j].s) := by
  obtain ⟨b, o, e, hb, hc⟩ := h.2 (by omega)
  refine ⟨b, o, e, hb, fun j hj => ⟨?_, ?_, ?_⟩⟩
  · have := hc (j * 3 + 0) _ (spCells_get l j 0 (by omega) hj); simpa [Nat.add_assoc] using this
  · have := hc (j * 3 + 1) _ (spCells_get l j 1 (by omega) hj); simpa [Nat.add_assoc] using this
  · have := hc (j * 3 + 2) _ (spCells_get l j 2 (by omega) hj); simpa [Nat.add_assoc] using this

def Sp.bad (n : Int) (p : Sp) : Bool := decide (p.f < 0) || decide (p.f > p.t) || decide (p.t > n)
def ordBad : List Sp → Bool
  | a :: b :: r => decide (b.f < a.t) || ordBad (b :: r)
  | _ => false
def fault (n : Int) (l : List Sp) : Nat := if n < 0 then 1 else if l.any (Sp.bad n) then 1 else if ordBad l then 2 else 0

/-- an error as package api has them -/
def errV : Nat → Value
  | 0 => .nilIface
  | k => .iface 97 (.int .i64 k)


theorem fault_neg {n : Int} {l : List Sp} (h : n < 0) : fault n l = 1 := by simp [fault, h]
theorem fault_bad {n : Int} {l : List Sp} {k : Nat} (hk : k < l.length) (h : l[k].bad n = true) : fault n l = 1 := by
  have : l.any (Sp.bad n) = true := List.any_eq_true.2 ⟨l[k], List.getElem_mem hk, h⟩
  simp [fault, this]
theorem take_any_snoc {n : Int} {l : List Sp} {k : Nat} (hk : k < l.length) (h : (l.take k).any (Sp.bad n) = false) (h2 : l[k].bad n = false) : (l.take (k + 1)).any (Sp.bad n) = false := by
  rw [List.take_succ_eq_append_getElem hk, List.any_append, h]; simp [h2]

theorem ordBad_take {l : List Sp} {k : Nat} (hk : k + 1 < l.length) : ordBad (l.take (k + 2)) = (ordBad (l.take (k + 1)) || decide (l[k + 1].f < l[k].t)) := by
  induction l generalizing k with
  | nil => simp at hk
  | cons a l ih =>
    cases k with
    | zero =>
      match l, hk with
      | b :: r, _ => simp [ordBad]
    | succ k =>
      match l, hk with
      | b :: r, hk =>
        have := ih (k := k) (by simpa using hk)
        simp only [List.take_succ_cons, ordBad] at this ⊢
        rw [this, Bool.or_assoc]; rfl
theorem ordBad_mono {l : List Sp} {k : Nat} (h : ordBad (l.take k) = true) : ordBad l = true := by
  induction l generalizing k with
  | nil => simp [ordBad] at h
  | cons a l ih =>
    match k with
    | 0 => simp [ordBad] at h
    | 1 => simp [ordBad] at h
    | k + 2 =>
      match l with
      | [] => simp [ordBad] at h
      | b :: r =>
        simp only [List.take_succ_cons, ordBad, Bool.or_eq_true] at h ⊢
        rcases h with h | h
        · exact .inl h
        · exact .inr (ih (k := k + 1) (by simpa using h))
theorem fault_ord {n : Int} {l : List Sp} {k : Nat} (h0 : 0 ≤ n) (hno : l.any (Sp.bad n) = false) (hk : k + 1 < l.length) (h : l[k + 1].f < l[k].t) : fault n l = 2 := by
  have : ordBad l = true := ordBad_mono (k := k + 2) (by rw [ordBad_take hk]; simp [h])
  unfold fault
  rw [if_neg (by omega), hno, if_neg (by simp), if_pos this]
theorem fault_none {n : Int} {l : List Sp} (h0 : 0 ≤ n) (hno : l.any (Sp.bad n) = false) (h : ordBad l = false) : fault n l = 0 := by
  unfold fault
  rw [if_neg (by omega), hno, if_neg (by simp), h]; rfl

/-- spans in order, from a place on, up to n -/
def Chain (n : Int) : Int → List Sp → Prop
  | a, [] => a ≤ n
  | a, s :: r => a ≤ s.f ∧ s.f ≤ s.t ∧ s.t ≤ n ∧ Chain n s.t r

theorem chain_of {n : Int} {l : List Sp} : ∀ {a : Int}, a ≤ n → (∀ s r, l = s :: r → a ≤ s.f) → l.any (Sp.bad n) = false → ordBad l = false → Chain n a l := by
  induction l with
  | nil => intro a ha _ _ _; exact ha
  | cons s r ih =>
    intro a ha h1 h2 h3
    simp only [List.any_cons, Bool.or_eq_false_iff] at h2
    have hb := h2.1
    unfold Sp.bad at hb
    simp only [Bool.or_eq_false_iff, decide_eq_false_iff_not] at hb
    refine ⟨h1 s r rfl, by omega, by omega, ih (by omega) ?_ h2.2 ?_⟩
    · intro s' r' e
      subst e
      simp only [ordBad, Bool.or_eq_false_iff, decide_eq_false_iff_not] at h3
      omega
    · cases r with
      | nil => rfl
      | cons s' r' => simp only [ordBad, Bool.or_eq_false_iff] at h3; exact h3.2
theorem fault_zero {n : Int} {l : List Sp} (h : fault n l = 0) : 0 ≤ n ∧ Chain n 0 l := by
  unfold fault at h
  by_cases h0 : n < 0
  · simp [h0] at h
  rw [if_neg h0] at h
  by_cases h1 : l.any (Sp.bad n) = true
  · simp [h1] at h
  rw [if_neg h1] at h
  by_cases h2 : ordBad l = true
  · simp [h2] at h
  refine ⟨by omega, chain_of (by omega) ?_ (by simpa using h1) (by simpa using h2)⟩
  rintro s r rfl
  have h1' : (s :: r).any (Sp.bad n) = false := by simpa using h1
  simp only [List.any_cons, Bool.or_eq_false_iff] at h1'
  have hb := h1'.1
  unfold Sp.bad at hb
  simp only [Bool.or_eq_false_iff, decide_eq_false_iff_not] at hb
  omega
theorem chain_fault {n : Int} {l : List Sp} : ∀ {a : Int}, 0 ≤ a → Chain n a l → l.any (Sp.bad n) = false ∧ ordBad l = false := by
  induction l with
  | nil => intros; exact ⟨rfl, rfl⟩
  | cons s r ih =>
    intro a ha h
    obtain ⟨h1, h2, h3, h4⟩ := h
    obtain ⟨i1, i2⟩ := ih (a := s.t) (by omega) h4
    refine ⟨?_, ?_⟩
    · simp only [List.any_cons, i1, Bool.or_false]; unfold Sp.bad; simp; omega
    · cases r with
      | nil => rfl
      | cons s' r' => simp only [ordBad, i2, Bool.or_false]; have := h4.1; simp; omega
theorem fault_of_chain {n : Int} {l : List Sp} (h0 : 0 ≤ n) (h : Chain n 0 l) : fault n l = 0 := by
  obtain ⟨h1, h2⟩ := chain_fault (Int.le_refl 0) h
  exact fault_none h0 h1 h2

/-- where the last span ends -/
def lastT : Int → List Sp → Int
  | a, [] => a
  | _, s :: r => lastT s.t r
theorem lastT_snoc (a : Int) (l : List Sp) (s : Sp) : lastT a (l ++ [s]) = s.t := by
  induction l generalizing a with
  | nil => rfl
  | cons x l ih => exact ih _
theorem Chain.at_ {n : Int} {l : List Sp} {k : Nat} (hk : k < l.length) : ∀ {a : Int}, Chain n a l → lastT a (l.take k) ≤ l[k].f ∧ l[k].f ≤ l[k].t ∧ l[k].t ≤ n ∧ a ≤ lastT a (l.take k) := by
  induction l generalizing k with
  | nil => simp at hk
  | cons s r ih =>
    intro a h
    obtain ⟨h1, h2, h3, h4⟩ := h
    cases k with
    | zero => simp [lastT]; omega
    | succ k =>
      have := ih (k := k) (by simpa using hk) h4
      simp only [List.take_succ_cons, lastT, List.getElem_cons_succ]
      omega
theorem Chain.last {n : Int} {l : List Sp} : ∀ {a : Int}, Chain n a l → a ≤ lastT a l ∧ lastT a l ≤ n := by
  induction l with
  | nil => intro a h; exact ⟨Int.le_refl _, h⟩
  | cons s r ih =>
    intro a h
    obtain ⟨h1, h2, h3, h4⟩ := h
    have := ih h4
    simp only [lastT]; omega

/-- what spans make of a text, up to where the last one ends -/
def preGo (text : List UInt8) : Int → List Sp → List UInt8
  | _, [] => []
  | a, s :: r => (text.drop a.toNat).take (s.f.toNat - a.toNat) ++ s.s.data.toList ++ preGo text s.t r
theorem preGo_snoc (text : List UInt8) (a : Int) (l : List Sp) (s : Sp) :
    preGo text a (l ++ [s]) = preGo text a l ++ ((text.drop (lastT a l).toNat).take (s.f.toNat - (lastT a l).toNat) ++ s.s.data.toList) := by
  induction l generalizing a with
  | nil => simp [preGo, lastT]
  | cons x l ih => simp only [List.cons_append, preGo, lastT, ih, List.append_assoc]
/-- what right spans make of a text -/
def applyL (text : List UInt8) (l : List Sp) : List UInt8 := preGo text 0 l ++ text.drop (lastT 0 l).toNat

/-- all bytes that spans bring -/
def spBytes (l : List Sp) : Nat := (l.map fun s => s.s.size).sum
theorem spBytes_take_le (l : List Sp) (k : Nat) : spBytes (l.take k) ≤ spBytes l := by
  unfold spBytes
  induction l generalizing k with
  | nil => simp
  | cons s r ih =>
    cases k with
    | zero => simp
    | succ k => have := ih k; simp only [List.take_succ_cons, List.map_cons, List.sum_cons]; omega
theorem spBytes_snoc (l : List Sp) (s : Sp) : spBytes (l ++ [s]) = spBytes l + s.s.size := by simp [spBytes]
theorem preGo_len (text : List UInt8) {n : Int} {l : List Sp} : ∀ {a : Int}, Chain n a l → 0 ≤ a → (preGo text a l).length + a.toNat ≤ (lastT a l).toNat + spBytes l := by
  induction l with
  | nil => intro a h _; simp [preGo, lastT]
  | cons s r ih =>
    intro a h h0
    obtain ⟨h1, h2, h3, h4⟩ := h
    have := ih h4 (by omega)
    simp only [preGo, lastT, List.length_append, List.length_take, List.length_drop, spBytes, List.map_cons, List.sum_cons] at *
    have e : s.s.data.toList.length = s.s.size := by rw [Array.length_toList]; rfl
    omega
theorem Chain.take {n : Int} {l : List Sp} (k : Nat) : ∀ {a : Int}, Chain n a l → Chain n a (l.take k) := by
  induction l generalizing k with
  | nil => intro a h; simpa using h
  | cons s r ih =>
    intro a h
    obtain ⟨h1, h2, h3, h4⟩ := h
    cases k with
    | zero => exact Int.le_trans h1 (Int.le_trans h2 h3)
    | succ k => exact ⟨h1, h2, h3, ih k h4⟩

theorem fault_cases (n : Int) (l : List Sp) : (fault n l = 1 ∨ fault n l = 2) ∨ fault n l = 0 := by
  unfold fault
  split
  · exact .inl (.inl rfl)
  · split
    · exact .inl (.inl rfl)
    · split
      · exact .inl (.inr rfl)
      · exact .inr rfl
theorem applyL_len {text : List UInt8} {l : List Sp} (h : fault text.length l = 0) : (applyL text l).length ≤ text.length + spBytes l := by
  have hc := (fault_zero h).2
  have h1 := preGo_len text hc (Int.le_refl 0)
  have h2 := hc.last
  unfold applyL
  rw [List.length_append, List.length_drop]
  omega
end Go.Proofs.YtffcfnnbdmihaaaDoor
