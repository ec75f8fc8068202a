/-
  THE PLAIN LAW of characters: what decoding finds at the begin of a text.
-/
import Derived.Lib.RuneBytes
import Derived.Lib.Strings
namespace Go.Proofs.YtgpjcjnimheglaaGreatDoor

def byteAt (l : List UInt8) (k : Nat) : Nat := (l[k]?.getD 0).toNat
def contAt (l : List UInt8) (k : Nat) : Bool := decide (k < l.length) && byteAt l k / 64 == 2
/-- the character that a text begins with, and how many bytes it has -/
def dec (l : List UInt8) : Nat × Nat :=
  if byteAt l 0 < 0x80 then (byteAt l 0, 1)
  else if byteAt l 0 / 32 == 6 && contAt l 1 then
    if (byteAt l 0 % 32) * 64 + byteAt l 1 % 64 ≥ 0x80 then ((byteAt l 0 % 32) * 64 + byteAt l 1 % 64, 2) else (Utf8.runeError, 1)
  else if byteAt l 0 / 16 == 14 && contAt l 1 && contAt l 2 then
    if (byteAt l 0 % 16) * 4096 + (byteAt l 1 % 64) * 64 + byteAt l 2 % 64 ≥ 0x800 && Utf8.valid (((byteAt l 0 % 16) * 4096 + (byteAt l 1 % 64) * 64 + byteAt l 2 % 64 : Nat) : Int) then ((byteAt l 0 % 16) * 4096 + (byteAt l 1 % 64) * 64 + byteAt l 2 % 64, 3) else (Utf8.runeError, 1)
  else if byteAt l 0 / 8 == 30 && contAt l 1 && contAt l 2 && contAt l 3 then
    if (byteAt l 0 % 8) * 262144 + (byteAt l 1 % 64) * 4096 + (byteAt l 2 % 64) * 64 + byteAt l 3 % 64 ≥ 0x10000 && Utf8.valid (((byteAt l 0 % 8) * 262144 + (byteAt l 1 % 64) * 4096 + (byteAt l 2 % 64) * 64 + byteAt l 3 % 64 : Nat) : Int) then ((byteAt l 0 % 8) * 262144 + (byteAt l 1 % 64) * 4096 + (byteAt l 2 % 64) * 64 + byteAt l 3 % 64, 4) else (Utf8.runeError, 1)
  else (Utf8.runeError, 1)

theorem byte_get (s : ByteArray) (pos k : Nat) : (s.get! (pos + k)).toNat = byteAt (s.data.toList.drop pos) k := by
  unfold byteAt
  rw [List.getElem?_drop]
  show (s.data[pos + k]!).toNat = _
  rw [Array.getElem!_eq_getD, Array.getD_eq_getD_getElem?, Array.getElem?_toList]
  rfl
theorem cont_get (s : ByteArray) (pos k : Nat) : (decide (pos + k < s.size) && (s.get! (pos + k)).toNat / 64 == 2) = contAt (s.data.toList.drop pos) k := by
  unfold contAt
  rw [byte_get, List.length_drop, ← Go.Lib.size_eq]
  congr 1
  simp; omega
theorem decode_eq (s : ByteArray) (pos : Nat) : Utf8.decode s pos = dec (s.data.toList.drop pos) := by
  unfold Utf8.decode dec
  simp only [cont_get]
  simp only [byte_get]

theorem cont_lt {l : List UInt8} {k : Nat} (h : contAt l k = true) : k < l.length ∧ byteAt l k / 64 = 2 := by
  unfold contAt at h
  simpa using h
/-- how many bytes: at least one; all but the first go on -/
theorem dec_size (l : List UInt8) : 1 ≤ (dec l).2 ∧ (dec l).2 ≤ 4 ∧ ∀ j, 1 ≤ j → j < (dec l).2 → j < l.length ∧ byteAt l j / 64 = 2 := by
  unfold dec
  split
  · exact ⟨by simp, by simp, fun j h1 h2 => by simp at h2; omega⟩
  split
  · rename_i h
    simp only [Bool.and_eq_true] at h
    have h1 := cont_lt h.2
    split
    · exact ⟨by simp, by simp, fun j h2 h3 => by obtain rfl : j = 1 := by simp at h3; omega
                                                 exact h1⟩
    · exact ⟨by simp, by simp, fun j h1 h2 => by simp at h2; omega⟩
  split
  · rename_i h
    simp only [Bool.and_eq_true] at h
    have h1 := cont_lt h.1.2
    have h2 := cont_lt h.2
    split
    · refine ⟨by simp, by simp, fun j h3 h4 => ?_⟩
      have h5 : j = 1 ∨ j = 2 := by simp at h4; omega
      rcases h5 with rfl | rfl <;> assumption
    · exact ⟨by simp, by simp, fun j h1 h2 => by simp at h2; omega⟩
  split
  · rename_i h
    simp only [Bool.and_eq_true] at h
    have h1 := cont_lt h.1.1.2
    have h2 := cont_lt h.1.2
    have h3 := cont_lt h.2
    split
    · refine ⟨by simp, by simp, fun j h3 h4 => ?_⟩
      have h5 : j = 1 ∨ j = 2 ∨ j = 3 := by simp at h4; omega
      rcases h5 with rfl | rfl | rfl <;> assumption
    · exact ⟨by simp, by simp, fun j h1 h2 => by simp at h2; omega⟩
  · exact ⟨by simp, by simp, fun j h1 h2 => by simp at h2; omega⟩
theorem dec_le (l : List UInt8) (h : l ≠ []) : (dec l).2 ≤ l.length := by
  obtain ⟨h1, h2, h3⟩ := dec_size l
  rcases Nat.lt_or_ge 1 (dec l).2 with h4 | h4
  · have := h3 ((dec l).2 - 1) (by omega) (by omega)
    omega
  · have : 0 < l.length := List.length_pos_iff.2 h
    omega
theorem dec_ten {l : List UInt8} (h : byteAt l 0 = 10) : dec l = (10, 1) := by
  unfold dec
  rw [h]
  simp

theorem byteAt_take {l : List UInt8} {m k : Nat} (h : k < m) : byteAt (l.take m) k = byteAt l k := by
  unfold byteAt
  rw [List.getElem?_take, if_pos h]
theorem contAt_take {l : List UInt8} {m k : Nat} (h : k < m) : contAt (l.take m) k = contAt l k := by
  unfold contAt
  rw [byteAt_take h, List.length_take]
  congr 1
  simp; omega
theorem contAt_over {l : List UInt8} {m : Nat} (h : l.length ≤ m ∨ byteAt l m = 10) : contAt (l.take m) m = false ∧ contAt l m = false := by
  constructor
  · unfold contAt
    rw [List.length_take]
    have : ¬ m < min m l.length := by omega
    simp [this]
  · unfold contAt
    rcases h with h | h
    · have : ¬ m < l.length := by omega
      simp [this]
    · simp [h]
/-- what stands ahead of an end of a line is decoded as if nothing came behind -/
theorem dec_take {l : List UInt8} {m : Nat} (hm : 0 < m) (h : l.length ≤ m ∨ byteAt l m = 10) : dec (l.take m) = dec l := by
  obtain ⟨o1, o2⟩ := contAt_over h
  have b0 := byteAt_take (l := l) hm
  rcases Nat.lt_or_ge 1 m with h1 | h1
  · have b1 := byteAt_take (l := l) h1
    have c1 := contAt_take (l := l) h1
    rcases Nat.lt_or_ge 2 m with h2 | h2
    · have b2 := byteAt_take (l := l) h2
      have c2 := contAt_take (l := l) h2
      rcases Nat.lt_or_ge 3 m with h3 | h3
      · have b3 := byteAt_take (l := l) h3
        have c3 := contAt_take (l := l) h3
        unfold dec
        rw [b0, b1, b2, b3, c1, c2, c3]
      · obtain rfl : m = 3 := by omega
        unfold dec
        rw [b0, b1, b2, c1, c2, o1, o2]
        simp
    · obtain rfl : m = 2 := by omega
      unfold dec
      rw [b0, b1, c1, o1, o2]
      simp
  · obtain rfl : m = 1 := by omega
    unfold dec
    rw [b0, o1, o2]
    simp

/-- a character that is not of one byte is none of the first 128 -/
theorem dec_big {l : List UInt8} (h : 128 ≤ byteAt l 0) : 128 ≤ (dec l).1 := by
  unfold dec
  rw [if_neg (by omega)]
  split
  · split
    · rename_i h; exact h
    · show 128 ≤ Utf8.runeError; decide
  split
  · split
    · rename_i h
      simp only [Bool.and_eq_true, decide_eq_true_eq] at h
      show 128 ≤ _ ; omega
    · show 128 ≤ Utf8.runeError; decide
  split
  · split
    · rename_i h
      simp only [Bool.and_eq_true, decide_eq_true_eq] at h
      show 128 ≤ _ ; omega
    · show 128 ≤ Utf8.runeError; decide
  · show 128 ≤ Utf8.runeError; decide
theorem dec_small {l : List UInt8} (h : byteAt l 0 < 128) : dec l = (byteAt l 0, 1) := by unfold dec; rw [if_pos (by omega)]
end Go.Proofs.YtgpjcjnimheglaaGreatDoor
