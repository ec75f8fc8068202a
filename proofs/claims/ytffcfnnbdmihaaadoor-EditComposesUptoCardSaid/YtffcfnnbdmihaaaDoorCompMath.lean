/-
  THE PLAIN LAW of one edit for two: pieces.
-/
import Derived.Test.YtffcfnnbdmihaaaDoorInvMath
namespace Go.Proofs.YtffcfnnbdmihaaaDoor

/-- a piece of what an edit makes -/
structure Pc where
  f : Int
  t : Int
  s : ByteArray
  put : Bool

def Pc.size (p : Pc) : Int := if p.put then p.s.size else p.t - p.f
def Pc.cut (p : Pc) (a b : Nat) : Pc := if p.put then ⟨0, 0, p.s.extract a b, true⟩ else ⟨p.f + a, p.f + b, ⟨#[]⟩, false⟩
def Pc.mean (text : List UInt8) (p : Pc) : List UInt8 := if p.put then p.s.data.toList else (text.drop p.f.toNat).take (p.t.toNat - p.f.toNat)
def meanL (text : List UInt8) (l : List Pc) : List UInt8 := l.flatMap (Pc.mean text)
/-- all bytes that pieces bring -/
def pcBytes (l : List Pc) : Nat := (l.map fun p => p.s.size).sum
theorem pcBytes_append (l m : List Pc) : pcBytes (l ++ m) = pcBytes l + pcBytes m := by simp [pcBytes]
theorem meanL_append (text : List UInt8) (l m : List Pc) : meanL text (l ++ m) = meanL text l ++ meanL text m := by simp [meanL]
theorem meanL_one (text : List UInt8) (p : Pc) : meanL text [p] = p.mean text := by simp [meanL]
theorem meanL_cons (text : List UInt8) (p : Pc) (l : List Pc) : meanL text (p :: l) = p.mean text ++ meanL text l := by simp [meanL]

/-- pieces in order: what stays, from a place on, up to n; none is empty -/
def PSort (n : Int) : Int → List Pc → Prop
  | a, [] => a ≤ n
  | a, p :: r => if p.put then 0 < p.s.size ∧ PSort n a r else a ≤ p.f ∧ p.f < p.t ∧ p.t ≤ n ∧ PSort n p.t r
theorem PSort.put {n a : Int} {p : Pc} {r : List Pc} (hp : p.put = true) : PSort n a (p :: r) ↔ 0 < p.s.size ∧ PSort n a r := by simp [PSort, hp]
theorem PSort.keep {n a : Int} {p : Pc} {r : List Pc} (hp : p.put = false) : PSort n a (p :: r) ↔ a ≤ p.f ∧ p.f < p.t ∧ p.t ≤ n ∧ PSort n p.t r := by simp [PSort, hp]
theorem PSort.le {n : Int} {l : List Pc} : ∀ {a : Int}, PSort n a l → a ≤ n := by
  induction l with
  | nil => intro a h; exact h
  | cons p r ih =>
    intro a h
    cases hp : p.put with
    | true => exact ih ((PSort.put hp).1 h).2
    | false => have := (PSort.keep hp).1 h; omega
theorem PSort.lower {n : Int} {l : List Pc} : ∀ {a b : Int}, b ≤ a → PSort n a l → PSort n b l := by
  induction l with
  | nil => intro a b hb h; exact Int.le_trans hb h
  | cons p r ih =>
    intro a b hb h
    cases hp : p.put with
    | true => exact (PSort.put hp).2 ⟨((PSort.put hp).1 h).1, ih hb ((PSort.put hp).1 h).2⟩
    | false =>
      obtain ⟨h1, h2, h3, h4⟩ := (PSort.keep hp).1 h
      exact (PSort.keep hp).2 ⟨by omega, h2, h3, h4⟩
/-- where what stays ends -/
def lastP : Int → List Pc → Int
  | a, [] => a
  | a, p :: r => lastP (if p.put then a else p.t) r
theorem psort_append {n : Int} {l m : List Pc} : ∀ {a : Int}, PSort n a (l ++ m) ↔ PSort n a l ∧ PSort n (lastP a l) m := by
  induction l with
  | nil => intro a; simp only [List.nil_append, lastP, PSort]; exact ⟨fun h => ⟨h.le, h⟩, fun h => h.2⟩
  | cons p r ih =>
    intro a
    cases hp : p.put with
    | true =>
      rw [List.cons_append, PSort.put hp, PSort.put hp, ih]
      simp [lastP, hp, and_assoc]
    | false =>
      rw [List.cons_append, PSort.keep hp, PSort.keep hp, ih]
      simp [lastP, hp, and_assoc]
theorem lastP_append (a : Int) (l m : List Pc) : lastP a (l ++ m) = lastP (lastP a l) m := by
  induction l generalizing a with
  | nil => rfl
  | cons p r ih => simp only [List.cons_append, lastP, ih]
theorem lastP_le {n : Int} {l : List Pc} : ∀ {a : Int}, PSort n a l → a ≤ lastP a l := by
  induction l with
  | nil => intro a _; exact Int.le_refl _
  | cons p r ih =>
    intro a h
    cases hp : p.put with
    | true => have := ih ((PSort.put hp).1 h).2; simpa [lastP, hp] using this
    | false =>
      obtain ⟨h1, h2, h3, h4⟩ := (PSort.keep hp).1 h
      have := ih h4
      simp [lastP, hp]; omega

/-- a piece of nothing falls -/
def addP (p : Pc) : List Pc := if 0 < p.size then [p] else []
theorem addP_k (a b : Int) : addP ⟨a, b, ⟨#[]⟩, false⟩ = if a < b then [⟨a, b, ⟨#[]⟩, false⟩] else [] := by
  have h : Pc.size ⟨a, b, ⟨#[]⟩, false⟩ = b - a := rfl
  unfold addP
  rw [h]
  by_cases h0 : a < b
  · rw [if_pos h0, if_pos (by omega)]
  · rw [if_neg h0, if_neg (by omega)]
theorem addP_p (s : ByteArray) : addP ⟨0, 0, s, true⟩ = if 0 < s.size then [⟨0, 0, s, true⟩] else [] := by
  have h : Pc.size ⟨0, 0, s, true⟩ = s.size := rfl
  unfold addP
  rw [h]
  by_cases h0 : 0 < s.size
  · rw [if_pos h0, if_pos (by omega)]
  · rw [if_neg h0, if_neg (by omega)]
theorem addP_keep (text : List UInt8) {a b : Int} (h : a ≤ b) : meanL text (addP ⟨a, b, ⟨#[]⟩, false⟩) = (text.drop a.toNat).take (b.toNat - a.toNat) := by
  rw [addP_k]
  by_cases h0 : a < b
  · rw [if_pos h0, meanL_one]; rfl
  · have : b = a := by omega
    subst this
    rw [if_neg h0]
    simp [meanL]
theorem addP_put (text : List UInt8) (s : ByteArray) : meanL text (addP ⟨0, 0, s, true⟩) = s.data.toList := by
  rw [addP_p]
  by_cases h0 : 0 < s.size
  · rw [if_pos h0, meanL_one]; rfl
  · have h1 : s.data.toList.length = 0 := by rw [dlen]; omega
    have h2 := List.eq_nil_of_length_eq_zero h1
    rw [if_neg h0, h2]; rfl
theorem psort_addP_keep {n a b c : Int} (h1 : c ≤ a) (h : a ≤ b) (hb : b ≤ n) : PSort n c (addP ⟨a, b, ⟨#[]⟩, false⟩) ∧ lastP c (addP ⟨a, b, ⟨#[]⟩, false⟩) ≤ b := by
  rw [addP_k]
  by_cases h0 : a < b
  · rw [if_pos h0]
    exact ⟨(PSort.keep rfl).2 ⟨h1, h0, hb, hb⟩, Int.le_refl _⟩
  · rw [if_neg h0]
    exact ⟨by show c ≤ n; omega, by show c ≤ b; omega⟩
theorem psort_addP_put {n c : Int} (s : ByteArray) (hc : c ≤ n) : PSort n c (addP ⟨0, 0, s, true⟩) ∧ lastP c (addP ⟨0, 0, s, true⟩) = c := by
  rw [addP_p]
  by_cases h0 : 0 < s.size
  · rw [if_pos h0]
    exact ⟨(PSort.put rfl).2 ⟨h0, hc⟩, rfl⟩
  · rw [if_neg h0]
    exact ⟨hc, rfl⟩
theorem addP_len (p : Pc) : (addP p).length ≤ 1 := by unfold addP; split <;> simp
theorem addP_bytes (p : Pc) : pcBytes (addP p) ≤ p.s.size := by unfold addP; split <;> simp [pcBytes]

/-- what spans make, as pieces, up to where the last one ends -/
def pcs : Int → List Sp → List Pc
  | _, [] => []
  | a, s :: r => addP ⟨a, s.f, ⟨#[]⟩, false⟩ ++ addP ⟨0, 0, s.s, true⟩ ++ pcs s.t r
theorem pcs_snoc (a : Int) (l : List Sp) (s : Sp) : pcs a (l ++ [s]) = pcs a l ++ (addP ⟨lastT a l, s.f, ⟨#[]⟩, false⟩ ++ addP ⟨0, 0, s.s, true⟩) := by
  induction l generalizing a with
  | nil => simp [pcs, lastT]
  | cons x l ih => simp only [List.cons_append, pcs, lastT, ih, List.append_assoc]
theorem pcs_len (a : Int) (l : List Sp) : (pcs a l).length ≤ 2 * l.length := by
  induction l generalizing a with
  | nil => simp [pcs]
  | cons s r ih =>
    have h1 := addP_len ⟨a, s.f, ⟨#[]⟩, false⟩
    have h2 := addP_len ⟨0, 0, s.s, true⟩
    have := ih s.t
    simp only [pcs, List.length_append, List.length_cons]; omega
theorem pcs_bytes (a : Int) (l : List Sp) : pcBytes (pcs a l) ≤ spBytes l := by
  induction l generalizing a with
  | nil => simp [pcs, pcBytes]
  | cons s r ih =>
    have h1 := addP_bytes ⟨a, s.f, ⟨#[]⟩, false⟩
    have h2 := addP_bytes ⟨0, 0, s.s, true⟩
    have h3 := ih s.t
    have h4 : (⟨#[]⟩ : ByteArray).size = 0 := rfl
    simp only [pcs, pcBytes_append, spBytes, List.map_cons, List.sum_cons] at *
    omega
theorem pcs_thm (text : List UInt8) {l : List Sp} {n : Int} : ∀ {a c : Int}, c ≤ a → Chain n a l → meanL text (pcs a l) = preGo text a l ∧ PSort n c (pcs a l) ∧ lastP c (pcs a l) ≤ lastT a l := by
  induction l with
  | nil => intro a c hc h; exact ⟨rfl, Int.le_trans hc h, hc⟩
  | cons s r ih =>
    intro a c hc h
    obtain ⟨h1, h2, h3, h4⟩ := h
    obtain ⟨k1, k2⟩ := psort_addP_keep (n := n) (c := c) hc h1 (by omega)
    obtain ⟨p1, p2⟩ := psort_addP_put (n := n) (c := lastP c (addP ⟨a, s.f, ⟨#[]⟩, false⟩)) s.s (by omega)
    obtain ⟨i1, i2, i3⟩ := ih (c := lastP c (addP ⟨a, s.f, ⟨#[]⟩, false⟩ ++ addP ⟨0, 0, s.s, true⟩)) (by rw [lastP_append, p2]; omega) h4
    refine ⟨?_, ?_, ?_⟩
    · simp only [pcs, meanL_append, preGo, addP_keep text h1, addP_put, i1]
    · simp only [pcs]
      rw [psort_append, psort_append]
      exact ⟨⟨k1, p1⟩, i2⟩
    · simp only [pcs, lastT]
      rw [lastP_append]
      exact i3
/-- what spans make of n bytes, as pieces -/
def allP (n : Int) (l : List Sp) : List Pc := pcs 0 l ++ addP ⟨lastT 0 l, n, ⟨#[]⟩, false⟩
theorem allP_thm {text : List UInt8} {l : List Sp} (h : Chain text.length 0 l) : meanL text (allP text.length l) = applyL text l ∧ PSort text.length 0 (allP text.length l) := by
  obtain ⟨h1, h2, h3⟩ := pcs_thm text (Int.le_refl 0) h
  have hl := h.last
  obtain ⟨k1, k2⟩ := psort_addP_keep (n := text.length) h3 hl.2 (Int.le_refl _)
  refine ⟨?_, ?_⟩
  · simp only [allP, meanL_append, h1, addP_keep text hl.2, applyL]
    rw [List.take_of_length_le (by simp)]
  · unfold allP
    rw [psort_append]
    exact ⟨h2, k1⟩
theorem allP_len (n : Int) (l : List Sp) : (allP n l).length ≤ 2 * l.length + 1 := by
  have h1 := addP_len ⟨lastT 0 l, n, ⟨#[]⟩, false⟩
  have := pcs_len 0 l
  simp only [allP, List.length_append]; omega
theorem allP_bytes (n : Int) (l : List Sp) : pcBytes (allP n l) ≤ spBytes l := by
  have h1 := addP_bytes ⟨lastT 0 l, n, ⟨#[]⟩, false⟩
  have h2 := pcs_bytes 0 l
  have h4 : (⟨#[]⟩ : ByteArray).size = 0 := rfl
  simp only [allP, pcBytes_append] at *
  omega

theorem appA_long (text : List UInt8) {l : List Sp} : ∀ {a : Int}, 0 ≤ a → Chain text.length a l → ((appA text a l).length : Int) = text.length - a + grow l := by
  induction l with
  | nil => intro a h0 h; have h' : a ≤ text.length := h; rw [appA_nil]; simp [grow]; omega
  | cons s r ih =>
    intro a h0 h
    obtain ⟨h1, h2, h3, h4⟩ := h
    have := ih (by omega) h4
    have hs := dlen s.s
    rw [appA_cons]
    simp only [List.length_append, List.length_take, List.length_drop, hs, grow, List.map_cons, List.sum_cons] at *
    omega
theorem applyL_long {text : List UInt8} {l : List Sp} (h : Chain text.length 0 l) : ((applyL text l).length : Int) = text.length + grow l := by
  rw [applyL_appA, appA_long text (Int.le_refl 0) h]; omega

/-- one step of a taking: the first piece, or a part of it -/
def rest1 (p : Pc) (r : List Pc) (k : Nat) : List Pc := if (k : Int) = p.size then r else p.cut k p.size.toNat :: r
theorem pc_size_pos {n a : Int} {p : Pc} {r : List Pc} (h : PSort n a (p :: r)) : 0 < p.size := by
  unfold Pc.size
  cases hp : p.put with
  | true => have := ((PSort.put hp).1 h).1; simp; omega
  | false => have := (PSort.keep hp).1 h; simp; omega
theorem mean_len {text : List UInt8} {a : Int} {p : Pc} {r : List Pc} (h0 : 0 ≤ a) (h : PSort text.length a (p :: r)) : ((p.mean text).length : Int) = p.size := by
  unfold Pc.size Pc.mean
  cases hp : p.put with
  | true => have := dlen p.s; simp [this]
  | false =>
    obtain ⟨h1, h2, h3, h4⟩ := (PSort.keep hp).1 h
    simp only [Bool.false_eq_true, if_false, List.length_take, List.length_drop]; omega
theorem cut_mean {text : List UInt8} {a : Int} {p : Pc} {r : List Pc} (h0 : 0 ≤ a) (h : PSort text.length a (p :: r)) {k m : Nat} (_hk : k ≤ m) (hm : (m : Int) ≤ p.size) :
    (p.cut k m).mean text = ((p.mean text).take m).drop k := by
  unfold Pc.size at hm
  unfold Pc.cut Pc.mean
  cases hp : p.put with
  | true =>
    simp only [if_true]
    rw [ext_data, List.drop_take]
  | false =>
    obtain ⟨h1, h2, h3, h4⟩ := (PSort.keep hp).1 h
    simp only [hp, Bool.false_eq_true, if_false] at hm ⊢
    have e1 : (p.f + k).toNat = p.f.toNat + k := by omega
    have e2 : (p.f + m).toNat = p.f.toNat + m := by omega
    rw [e1, e2, List.take_take, List.drop_take, List.drop_drop]
    congr 1
    omega
theorem step_keep {text : List UInt8} {a : Int} {p : Pc} {r : List Pc} (h0 : 0 ≤ a) (h : PSort text.length a (p :: r)) {k : Nat} (hk0 : 0 < k) (hk : (k : Int) ≤ p.size) :
    PSort text.length a (p.cut 0 k :: rest1 p r k) ∧ PSort text.length a (rest1 p r k) ∧ (p.cut 0 k).mean text = (meanL text (p :: r)).take k ∧ meanL text (rest1 p r k) = (meanL text (p :: r)).drop k := by
  have hl := mean_len h0 h
  have hc0 := cut_mean h0 h (Nat.zero_le k) hk
  have hm0 : (p.cut 0 k).mean text = (meanL text (p :: r)).take k := by
    rw [hc0, List.drop_zero, meanL_cons, List.take_append_of_le_length (by omega)]
  have hrest : meanL text (rest1 p r k) = (meanL text (p :: r)).drop k := by
    rw [meanL_cons, List.drop_append_of_le_length (by omega)]
    unfold rest1
    by_cases e : (k : Int) = p.size
    · rw [if_pos e, List.drop_eq_nil_of_le (by omega)]; rfl
    · rw [if_neg e, meanL_cons, cut_mean h0 h (by omega) (by omega), List.take_of_length_le (by omega)]
  refine ⟨?_, ?_, hm0, hrest⟩
  · cases hp : p.put with
    | true =>
      obtain ⟨h1, h2⟩ := (PSort.put hp).1 h
      have hsz : p.size = p.s.size := by simp [Pc.size, hp]
      have ec : ∀ x y : Nat, (p.cut x y) = ⟨0, 0, p.s.extract x y, true⟩ := fun x y => by simp [Pc.cut, hp]
      rw [ec, PSort.put rfl]
      refine ⟨by simp [ByteArray.size_extract]; omega, ?_⟩
      unfold rest1
      split
      · exact h2
      · rw [ec, PSort.put rfl]
        exact ⟨by simp [ByteArray.size_extract]; omega, h2⟩
    | false =>
      obtain ⟨h1, h2, h3, h4⟩ := (PSort.keep hp).1 h
      have hsz : p.size = p.t - p.f := by simp [Pc.size, hp]
      have ec : ∀ x y : Nat, (p.cut x y) = ⟨p.f + x, p.f + y, ⟨#[]⟩, false⟩ := fun x y => by simp [Pc.cut, hp]
      rw [ec, PSort.keep rfl]
      refine ⟨by show a ≤ p.f + ((0 : Nat) : Int); omega, by show p.f + ((0 : Nat) : Int) < p.f + (k : Int); omega, by show p.f + (k : Int) ≤ _; omega, ?_⟩
      unfold rest1
      split
      · exact h4.lower (by show p.f + (k : Int) ≤ p.t; omega)
      · rw [ec, PSort.keep rfl]
        exact ⟨by show p.f + (k : Int) ≤ p.f + (k : Int); omega, by show p.f + (k : Int) < p.f + (p.size.toNat : Int); omega, by show p.f + (p.size.toNat : Int) ≤ _; omega, h4.lower (by show p.f + (p.size.toNat : Int) ≤ p.t; omega)⟩
  · cases hp : p.put with
    | true =>
      obtain ⟨h1, h2⟩ := (PSort.put hp).1 h
      have hsz : p.size = p.s.size := by simp [Pc.size, hp]
      have ec : ∀ x y : Nat, (p.cut x y) = ⟨0, 0, p.s.extract x y, true⟩ := fun x y => by simp [Pc.cut, hp]
      unfold rest1
      split
      · exact h2
      · rw [ec, PSort.put rfl]
        exact ⟨by simp [ByteArray.size_extract]; omega, h2⟩
    | false =>
      obtain ⟨h1, h2, h3, h4⟩ := (PSort.keep hp).1 h
      have hsz : p.size = p.t - p.f := by simp [Pc.size, hp]
      have ec : ∀ x y : Nat, (p.cut x y) = ⟨p.f + x, p.f + y, ⟨#[]⟩, false⟩ := fun x y => by simp [Pc.cut, hp]
      unfold rest1
      split
      · exact h4.lower (by omega)
      · rw [ec, PSort.keep rfl]
        exact ⟨by show a ≤ p.f + (k : Int); omega, by show p.f + (k : Int) < p.f + (p.size.toNat : Int); omega, by show p.f + (p.size.toNat : Int) ≤ _; omega, h4.lower (by show p.f + (p.size.toNat : Int) ≤ p.t; omega)⟩
theorem rest1_len (p : Pc) (r : List Pc) (k : Nat) : (rest1 p r k).length ≤ r.length + 1 := by unfold rest1; split <;> simp
theorem rest1_bytes {p : Pc} {r : List Pc} {k : Nat} (hk : (k : Int) ≤ p.size) : (p.cut 0 k).s.size + pcBytes (rest1 p r k) ≤ pcBytes (p :: r) := by
  have e : pcBytes (p :: r) = p.s.size + pcBytes r := by simp [pcBytes]
  have e2 : pcBytes (p.cut k p.size.toNat :: r) = (p.cut k p.size.toNat).s.size + pcBytes r := by simp [pcBytes]
  have h4 : (⟨#[]⟩ : ByteArray).size = 0 := rfl
  unfold rest1
  cases hp : p.put with
  | true =>
    have hsz : p.size = p.s.size := by simp [Pc.size, hp]
    have ec : ∀ x y : Nat, (p.cut x y).s.size = min y p.s.size - x := fun x y => by simp [Pc.cut, hp, ByteArray.size_extract]
    rw [ec] at *
    split <;> omega
  | false =>
    have ec : ∀ x y : Nat, (p.cut x y).s.size = 0 := fun x y => by simp [Pc.cut, hp, h4]
    rw [ec] at *
    split <;> omega

/-- what spans have been made of pieces so far, and the text that waits -/
def SpI (text : List UInt8) (out : List Sp) (a : Int) (tx : ByteArray) (X : List UInt8) : Prop :=
  Chain text.length 0 out ∧ lastT 0 out ≤ a ∧ a ≤ text.length ∧ preGo text 0 out ++ (text.drop (lastT 0 out).toNat).take (a.toNat - (lastT 0 out).toNat) ++ tx.data.toList = X
def outF (out : List Sp) (a b : Int) (tx : ByteArray) : List Sp := if a = b ∧ tx.size = 0 then out else out ++ [⟨a, b, tx⟩]
theorem outF_len (out : List Sp) (a b : Int) (tx : ByteArray) : (outF out a b tx).length ≤ out.length + 1 := by unfold outF; split <;> simp
theorem outF_bytes (out : List Sp) (a b : Int) (tx : ByteArray) : spBytes (outF out a b tx) ≤ spBytes out + tx.size := by
  unfold outF
  split
  · omega
  · rw [spBytes_snoc]; exact Nat.le_refl _
theorem spI_start (text : List UInt8) : SpI text [] 0 ⟨#[]⟩ [] := ⟨by show (0 : Int) ≤ _; omega, Int.le_refl _, by omega, by simp [preGo, lastT]⟩
theorem SpI.put {text : List UInt8} {out : List Sp} {a : Int} {tx s : ByteArray} {X : List UInt8} (h : SpI text out a tx X) : SpI text out a (tx ++ s) (X ++ s.data.toList) := by
  obtain ⟨h1, h2, h3, h4⟩ := h
  refine ⟨h1, h2, h3, ?_⟩
  rw [← h4]
  simp [ByteArray.data_append]
theorem chain_snoc {n : Int} {l : List Sp} {s : Sp} : ∀ {a : Int}, Chain n a l → lastT a l ≤ s.f → s.f ≤ s.t → s.t ≤ n → Chain n a (l ++ [s]) := by
  induction l with
  | nil => intro a _ h1 h2 h3; exact ⟨h1, h2, h3, h3⟩
  | cons x r ih =>
    intro a h h1 h2 h3
    obtain ⟨k1, k2, k3, k4⟩ := h
    exact ⟨k1, k2, k3, ih k4 h1 h2 h3⟩
theorem SpI.flush {text : List UInt8} {out : List Sp} {a b : Int} {tx : ByteArray} {X : List UInt8} (h : SpI text out a tx X) (hab : a ≤ b) (hb : b ≤ text.length) :
    Chain text.length 0 (outF out a b tx) ∧ lastT 0 (outF out a b tx) ≤ b ∧ preGo text 0 (outF out a b tx) ++ (text.drop (lastT 0 (outF out a b tx)).toNat).take (b.toNat - (lastT 0 (outF out a b tx)).toNat) = X := by
  obtain ⟨h1, h2, h3, h4⟩ := h
  unfold outF
  by_cases hc : a = b ∧ tx.size = 0
  · rw [if_pos hc]
    obtain ⟨rfl, hz⟩ := hc
    have hx : tx.data.toList = [] := List.eq_nil_of_length_eq_zero (by rw [dlen]; exact hz)
    rw [hx, List.append_nil] at h4
    exact ⟨h1, h2, h4⟩
  · rw [if_neg hc]
    refine ⟨chain_snoc h1 h2 hab hb, ?_, ?_⟩
    · rw [lastT_snoc]; exact Int.le_refl _
    · rw [lastT_snoc, preGo_snoc, Nat.sub_self, List.take_zero, List.append_nil, ← h4, List.append_assoc]
theorem SpI.keep {text : List UInt8} {out : List Sp} {a b c : Int} {tx : ByteArray} {X : List UInt8} (h : SpI text out a tx X) (hab : a ≤ b) (hbc : b ≤ c) (hc : c ≤ text.length) :
    SpI text (outF out a b tx) c ⟨#[]⟩ (X ++ (text.drop b.toNat).take (c.toNat - b.toNat)) := by
  obtain ⟨k1, k2, k3⟩ := h.flush hab (Int.le_trans hbc hc)
  have k4 := k1.last.1
  refine ⟨k1, by omega, hc, ?_⟩
  rw [← k3]
  show _ ++ [] = _
  rw [List.append_nil, List.append_assoc]
  congr 1
  generalize (lastT 0 (outF out a b tx)) = q at *
  have e : text.drop b.toNat = (text.drop q.toNat).drop (b.toNat - q.toNat) := by rw [List.drop_drop]; congr 1; omega
  rw [e]
  have hx : c.toNat - q.toNat = (b.toNat - q.toNat) + (c.toNat - b.toNat) := by omega
  rw [hx, List.take_add]
theorem SpI.done {text : List UInt8} {out : List Sp} {a : Int} {tx : ByteArray} {X : List UInt8} (h : SpI text out a tx X) :
    fault text.length (outF out a text.length tx) = 0 ∧ applyL text (outF out a text.length tx) = X := by
  obtain ⟨k1, k2, k3⟩ := h.flush h.2.2.1 (Int.le_refl _)
  refine ⟨fault_of_chain (by omega) k1, ?_⟩
  unfold applyL
  rw [← k3]
  congr 1
  rw [List.take_of_length_le]
  rw [List.length_drop]; omega
end Go.Proofs.YtffcfnnbdmihaaaDoor
