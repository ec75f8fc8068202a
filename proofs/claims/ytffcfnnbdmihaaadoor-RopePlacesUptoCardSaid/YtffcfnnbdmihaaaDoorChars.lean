/-
  THE PLAIN LAW of characters: what decoding finds at a place of a text; walks from character to character.
-/
import Derived.Test.YtffcfnnbdmihaaaDoorRope
namespace Go.Proofs.YtffcfnnbdmihaaaDoor

def byteAt (l : List UInt8) (k : Nat) : Nat := (l[k]?.getD 0).toNat
def contAt (l : List UInt8) (k : Nat) : Bool := decide (k < l.length) && byteAt l k / 64 == 2
/-- the character that a text begins with, and how many bytes it has -/
def dec (l : List UInt8) : Nat × Nat :=
  if byteAt l 0 < 0x80 then (byteAt l 0, 1)
  else if byteAt l 0 / 32 == 6 && contAt l 1 then
    if (byteAt l 0 % 32) * 64 + byteAt l 1 % 64 ≥ 0x80 then ((byteAt l 0 % 32) * 64 + byteAt l 1 % 64, 2) else (Utf8.runeError, 1)
  else if byteAt l 0 / 16 == 14 && contAt l 1 && contAt l 2 then
    if (byteAt l 0 % 16) * 4096 + (byteAt l 1 % 64) * 64 + byteAt l 2 % 64 ≥ 0x800 && Utf8.valid (((byteAt l 0 % 16) * 4096 + (byteAt l 1 % 64) * 64 + byteAt l 2 % 64 : Nat) : Int) then ((byteAt l 0 % 16) * 4096 + (byteAt l 1 % 64) * 64 + byteAt l 2 % 64, 3) else (Utf8.runeError, 1)
  else if byteAt l 0 / 8 == 30 && contAt l 1 && contAt l 2 && contAt l 3 then
    if (byteAt l 0 % 8) * 262144 + (byteAt l 1 % 64) * 4096 + (byteAt l 2 % 64) * 64 + byteAt l 3 % 64 ≥ 0x10000 && Utf8.valid (((byteAt l 0 % 8) * 262144 + (byteAt l 1 % 64) * 4096 + (byteAt l 2 % 64) * 64 + byteAt l 3 % 64 : Nat) : Int) then ((byteAt l 0 % 8) * 262144 + (byteAt l 1 % 64) * 4096 + (byteAt l 2 % 64) * 64 + byteAt l 3 % 64, 4) else (Utf8.runeError, 1)
  else (Utf8.runeError, 1)

theorem byte_get (s : ByteArray) (pos k : Nat) : (s.get! (pos + k)).toNat = byteAt (s.data.toList.drop pos) k := by
  unfold byteAt
  rw [List.getElem?_drop]
  show (s.data[pos + k]!).toNat = _
  rw [Array.getElem!_eq_getD, Array.getD_eq_getD_getElem?, Array.getElem?_toList]
  rfl
theorem cont_get (s : ByteArray) (pos k : Nat) : (decide (pos + k < s.size) && (s.get! (pos + k)).toNat / 64 == 2) = contAt (s.data.toList.drop pos) k := by
  unfold contAt
  rw [byte_get, List.length_drop, dlen]
  congr 1
  simp; omega
theorem decode_eq (s : ByteArray) (pos : Nat) : Utf8.decode s pos = dec (s.data.toList.drop pos) := by
  unfold Utf8.decode dec
  simp only [cont_get]
  simp only [byte_get]

theorem cont_lt {l : List UInt8} {k : Nat} (h : contAt l k = true) : k < l.length ∧ byteAt l k / 64 = 2 := by
  unfold contAt at h
  simpa using h
/-- how many bytes: at least one; all but the first go on -/
theorem dec_size (l : List UInt8) : 1 ≤ (dec l).2 ∧ (dec l).2 ≤ 4 ∧ ∀ j, 1 ≤ j → j < (dec l).2 → j < l.length ∧ byteAt l j / 64 = 2 := by
  unfold dec
  split
  · exact ⟨by simp, by simp, fun j h1 h2 => by simp at h2; omega⟩
  split
  · rename_i h
    simp only [Bool.and_eq_true] at h
    have h1 := cont_lt h.2
    split
    · exact ⟨by simp, by simp, fun j h2 h3 => by obtain rfl : j = 1 := by simp at h3; omega
                                                 exact h1⟩
    · exact ⟨by simp, by simp, fun j h1 h2 => by simp at h2; omega⟩
  split
  · rename_i h
    simp only [Bool.and_eq_true] at h
    have h1 := cont_lt h.1.2
    have h2 := cont_lt h.2
    split
    · refine ⟨by simp, by simp, fun j h3 h4 => ?_⟩
      have h5 : j = 1 ∨ j = 2 := by simp at h4; omega
      rcases h5 with rfl | rfl <;> assumption
    · exact ⟨by simp, by simp, fun j h1 h2 => by simp at h2; omega⟩
  split
  · rename_i h
    simp only [Bool.and_eq_true] at h
    have h1 := cont_lt h.1.1.2
    have h2 := cont_lt h.1.2
    have h3 := cont_lt h.2
    split
    · refine ⟨by simp, by simp, fun j h3 h4 => ?_⟩
      have h5 : j = 1 ∨ j = 2 ∨ j = 3 := by simp at h4; omega
      rcases h5 with rfl | rfl | rfl <;> assumption
    · exact ⟨by simp, by simp, fun j h1 h2 => by simp at h2; omega⟩
  · exact ⟨by simp, by simp, fun j h1 h2 => by simp at h2; omega⟩
theorem dec_le (l : List UInt8) (h : l ≠ []) : (dec l).2 ≤ l.length := by
  obtain ⟨h1, h2, h3⟩ := dec_size l
  rcases Nat.lt_or_ge 1 (dec l).2 with h4 | h4
  · have := h3 ((dec l).2 - 1) (by omega) (by omega)
    omega
  · have : 0 < l.length := List.length_pos_iff.2 h
    omega
theorem dec_ten {l : List UInt8} (h : byteAt l 0 = 10) : dec l = (10, 1) := by
  unfold dec
  rw [h]
  simp

theorem byteAt_take {l : List UInt8} {m k : Nat} (h : k < m) : byteAt (l.take m) k = byteAt l k := by
  unfold byteAt
  rw [List.getElem?_take, if_pos h]
theorem contAt_take {l : List UInt8} {m k : Nat} (h : k < m) : contAt (l.take m) k = contAt l k := by
  unfold contAt
  rw [byteAt_take h, List.length_take]
  congr 1
  simp; omega
theorem contAt_over {l : List UInt8} {m : Nat} (h : l.length ≤ m ∨ byteAt l m = 10) : contAt (l.take m) m = false ∧ contAt l m = false := by
  constructor
  · unfold contAt
    rw [List.length_take]
    have : ¬ m < min m l.length := by omega
    simp [this]
  · unfold contAt
    rcases h with h | h
    · have : ¬ m < l.length := by omega
      simp [this]
    · simp [h]
/-- what stands ahead of an end of a line is decoded as if nothing came behind -/
theorem dec_take {l : List UInt8} {m : Nat} (hm : 0 < m) (h : l.length ≤ m ∨ byteAt l m = 10) : dec (l.take m) = dec l := by
  obtain ⟨o1, o2⟩ := contAt_over h
  have b0 := byteAt_take (l := l) hm
  rcases Nat.lt_or_ge 1 m with h1 | h1
  · have b1 := byteAt_take (l := l) h1
    have c1 := contAt_take (l := l) h1
    rcases Nat.lt_or_ge 2 m with h2 | h2
    · have b2 := byteAt_take (l := l) h2
      have c2 := contAt_take (l := l) h2
      rcases Nat.lt_or_ge 3 m with h3 | h3
      · have b3 := byteAt_take (l := l) h3
        have c3 := contAt_take (l := l) h3
        unfold dec
        rw [b0, b1, b2, b3, c1, c2, c3]
      · obtain rfl : m = 3 := by omega
        unfold dec
        rw [b0, b1, b2, c1, c2, o1, o2]
        simp
    · obtain rfl : m = 2 := by omega
      unfold dec
      rw [b0, b1, c1, o1, o2]
      simp
  · obtain rfl : m = 1 := by omega
    unfold dec
    rw [b0, o1, o2]
    simp

def unitsOf (c : Nat) : Nat := if c > 0xFFFF then 2 else 1
theorem unitsOf_pos (c : Nat) : 1 ≤ unitsOf c ∧ unitsOf c ≤ 2 := by unfold unitsOf; split <;> omega
def cAt (T : List UInt8) (i : Nat) : Nat := (dec (T.drop i)).1
def sAt (T : List UInt8) (i : Nat) : Nat := (dec (T.drop i)).2
theorem sAt_pos (T : List UInt8) (i : Nat) : 1 ≤ sAt T i := (dec_size _).1
theorem sAt_le {T : List UInt8} {i : Nat} (h : i < T.length) : i + sAt T i ≤ T.length := by
  have := dec_le (T.drop i) (by intro e; have := congrArg List.length e; simp at this; omega)
  rw [List.length_drop] at this
  unfold sAt
  omega

/-- from i on k characters of u units lead to j -/
inductive Goes (T : List UInt8) : Nat → Nat → Nat → Nat → Prop
  | zero (i : Nat) : Goes T i 0 0 i
  | step {i k u j : Nat} : i < T.length → Goes T (i + sAt T i) k u j → Goes T i (k + 1) (u + unitsOf (cAt T i)) j
theorem Goes.snoc {T : List UInt8} {i k u j : Nat} (h : Goes T i k u j) (hj : j < T.length) : Goes T i (k + 1) (u + unitsOf (cAt T j)) (j + sAt T j) := by
  induction h with
  | zero i =>
    have := Goes.step hj (Goes.zero (T := T) (i + sAt T i))
    exact this
  | @step i k u j hi _ ih =>
    have := Goes.step hi (ih hj)
    rw [show u + unitsOf (cAt T i) + unitsOf (cAt T j) = u + unitsOf (cAt T j) + unitsOf (cAt T i) from by omega]
    exact this
theorem Goes.bounds {T : List UInt8} {i k u j : Nat} (h : Goes T i k u j) : i + k ≤ j ∧ k ≤ u ∧ u ≤ 2 * k ∧ (i ≤ T.length → j ≤ T.length) := by
  induction h with
  | zero i => exact ⟨by omega, by omega, by omega, id⟩
  | @step i k u j hi _ ih =>
    have h1 := sAt_pos T i
    have h2 := unitsOf_pos (cAt T i)
    have h3 := sAt_le hi
    obtain ⟨a, b, c, d⟩ := ih
    exact ⟨by omega, by omega, by omega, fun _ => d h3⟩

/- lines -/
theorem starts_bd (l : List UInt8) : ∀ i x, x ∈ starts i l → i < x ∧ x ≤ i + l.length := by
  induction l with
  | nil => intro i x h; simp [starts] at h
  | cons c r ih =>
    intro i x h
    rw [starts, List.mem_append] at h
    rcases h with h | h
    · split at h
      · simp at h; subst h; simp
      · simp at h
    · have := ih _ _ h
      simp at this ⊢; omega
theorem starts_sorted (l : List UInt8) : ∀ i, (starts i l).Pairwise (· < ·) := by
  induction l with
  | nil => intro i; exact List.Pairwise.nil
  | cons c r ih =>
    intro i
    rw [starts]
    split
    · refine List.pairwise_cons.2 ⟨fun x hx => (starts_bd r _ _ hx).1, ih _⟩
    · exact ih _
theorem linesOf_sorted (l : List UInt8) : (linesOf l).Pairwise (· < ·) := List.pairwise_cons.2 ⟨fun x hx => (starts_bd l 0 x hx).1, starts_sorted l 0⟩
theorem linesOf_le (l : List UInt8) : ∀ x ∈ linesOf l, x ≤ l.length := fun x hx => by
  rcases List.mem_cons.1 hx with rfl | h
  · omega
  · have := (starts_bd l 0 x h).2; omega
theorem starts_ten (l : List UInt8) : ∀ i x, x ∈ starts i l → byteAt l (x - 1 - i) = 10 := by
  induction l with
  | nil => intro i x h; simp [starts] at h
  | cons c r ih =>
    intro i x h
    rw [starts, List.mem_append] at h
    rcases h with h | h
    · split at h
      · rename_i hc
        simp at h; subst h
        simp [byteAt, hc]
      · simp at h
    · have h1 := ih _ _ h
      have h2 := (starts_bd r _ _ h).1
      rw [show x - 1 - i = (x - 1 - (i + 1)) + 1 from by omega]
      simpa [byteAt] using h1
theorem starts_mem (l : List UInt8) : ∀ i j, j < l.length → byteAt l j = 10 → i + j + 1 ∈ starts i l := by
  induction l with
  | nil => intro i j h; simp at h
  | cons c r ih =>
    intro i j h hb
    rw [starts, List.mem_append]
    cases j with
    | zero => left; simp [byteAt] at hb; simp [hb]
    | succ j => right; have := ih (i + 1) j (by simpa using h) (by simpa [byteAt] using hb); rwa [show i + (j + 1) + 1 = i + 1 + j + 1 from by omega]

/-- how many elements are below a bound, of a list that ascends -/
theorem below_count {l : List Nat} (h : l.Pairwise (· < ·)) (b : Nat) : l.countP (fun y => decide (y < b)) ≤ l.length ∧ ∀ k (hk : k < l.length), (k < l.countP (fun y => decide (y < b)) ↔ l[k] < b) := by
  induction l with
  | nil => exact ⟨by simp, fun k hk => by simp at hk⟩
  | cons x r ih =>
    obtain ⟨h1, h2⟩ := List.pairwise_cons.1 h
    obtain ⟨i1, i2⟩ := ih h2
    rw [List.countP_cons]
    have hl : (x :: r).length = r.length + 1 := rfl
    by_cases hx : x < b
    · rw [if_pos (by simpa using hx)]
      refine ⟨by omega, fun k hk => ?_⟩
      cases k with
      | zero => simp [hx]
      | succ k => simpa using i2 k (by simpa using hk)
    · rw [if_neg (by simpa using hx)]
      have h0 : r.countP (fun y => decide (y < b)) = 0 := by
        rw [List.countP_eq_zero]
        intro y hy
        have := h1 y hy
        simp; omega
      rw [h0]
      refine ⟨by omega, fun k hk => ?_⟩
      cases k with
      | zero => simp; omega
      | succ k =>
        have := h1 (r[k]'(by simpa using hk)) (List.getElem_mem _)
        simp; omega
end Go.Proofs.YtffcfnnbdmihaaaDoor
