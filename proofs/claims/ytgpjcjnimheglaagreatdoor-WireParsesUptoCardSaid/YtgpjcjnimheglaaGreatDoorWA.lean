/-
  THE PLAIN LAW of a length: digits, read as a number.
-/
import Derived.Test.YtgpjcjnimheglaaGreatDoorWP
import Derived.Lib.AtoiAll
namespace Go.Proofs.YtgpjcjnimheglaaGreatDoor.Wire
open Go.Lib

theorem drop_nil (l cs : List UInt8) (h : l.dropWhile (cs.contains ·) = []) : ∀ b ∈ l, cs.contains b = true := by
  induction l with
  | nil => intro b hb; simp at hb
  | cons a t ih =>
    rw [List.dropWhile_cons] at h
    split at h
    · rename_i ha
      intro b hb
      rcases List.mem_cons.1 hb with rfl | hb
      · exact ha
      · exact ih h b hb
    · cases h
theorem drop_head (l cs : List UInt8) : ∀ a t, l.dropWhile (cs.contains ·) = a :: t → cs.contains a = false := by
  induction l with
  | nil => intro a t h; simp at h
  | cons x l ih =>
    intro a t h
    rw [List.dropWhile_cons] at h
    split at h
    · exact ih a t h
    · rename_i hx
      injection h with h1 _
      subst h1
      simpa using hx
theorem trim_nil (l cs : List UInt8) (h : trimS l cs = []) : ∀ b ∈ l, cs.contains b = true := by
  unfold trimS trimLeftS at h
  have h1 := drop_nil _ _ h
  unfold trimRightS at h1
  cases hd : l.reverse.dropWhile (cs.contains ·) with
  | nil =>
    intro b hb
    exact drop_nil _ _ hd b (List.mem_reverse.2 hb)
  | cons a t =>
    have h2 := drop_head _ _ a t hd
    rw [hd] at h1
    have h3 := h1 a (List.mem_reverse.2 (by simp))
    rw [h2] at h3; cases h3

theorem dg_val (b : UInt8) (h : dgs.contains b = true) : ∃ d, digitVal b = some d ∧ 48 ≤ b.toNat ∧ b.toNat ≤ 57 := by
  have hm : b ∈ dgs := by simpa using h
  simp only [dgs, List.mem_cons, List.mem_nil_iff, or_false] at hm
  rcases hm with rfl | rfl | rfl | rfl | rfl | rfl | rfl | rfl | rfl | rfl <;> exact ⟨_, rfl, by decide, by decide⟩
theorem decFrom_all : ∀ (l : List UInt8) (acc : Nat), (∀ b ∈ l, dgs.contains b = true) → ∃ n, decFrom acc l = some n ∧ acc ≤ n
  | [], acc, _ => ⟨acc, rfl, Nat.le_refl _⟩
  | b :: t, acc, h => by
    obtain ⟨d, hd, _⟩ := dg_val b (h b (by simp))
    obtain ⟨n, hn, hle⟩ := decFrom_all t (acc * 10 + d) fun x hx => h x (by simp [hx])
    exact ⟨n, by simp only [decFrom, hd]; exact hn, by omega⟩
theorem parse_dec : ∀ (l : List UInt8) (acc n : Nat), (∀ b ∈ l, dgs.contains b = true) → decFrom acc l = some n → n < 1000000000000000000 → parseUint10 acc l = .ok n
  | [], acc, n, _, h, _ => by simp only [decFrom] at h; injection h with h; subst h; rfl
  | b :: t, acc, n, hb, h, hn => by
    obtain ⟨d, hd, h1, h2⟩ := dg_val b (hb b (by simp))
    obtain ⟨_, _, hd2⟩ := digitVal_eq hd
    simp only [decFrom, hd] at h
    obtain ⟨m, hm, hle⟩ := decFrom_all t (acc * 10 + d) fun x hx => hb x (by simp [hx])
    rw [h] at hm; injection hm with hm; subst hm
    unfold parseUint10
    rw [if_pos ⟨h1, h2⟩, if_neg (by omega), if_neg (by omega), ← hd2]
    exact parse_dec t _ n (fun x hx => hb x (by simp [hx])) h hn

theorem atoi_digits (l : List UInt8) (h1 : 1 ≤ l.length) (h2 : l.length ≤ 10) (h3 : trimS l dgs = []) : atoiAll l = .ok (valD l) := by
  have hall := trim_nil l dgs h3
  obtain ⟨n, hn, _⟩ := decFrom_all l 0 hall
  have hlt := decFrom_lt l 0 n hn
  have h4 : 10 ^ l.length ≤ 10 ^ 10 := Nat.pow_le_pow_right (by omega) h2
  have hp := parse_dec l 0 n hall hn (by omega)
  cases l with
  | nil => simp at h1
  | cons c r =>
    obtain ⟨_, _, k1, k2⟩ := dg_val c (hall c (by simp))
    unfold atoiAll
    simp only
    rw [if_neg (by omega)]
    unfold parseMag
    rw [if_neg (by simp), hp]
    simp only
    rw [if_neg (by omega), if_neg (by omega), if_neg (by omega)]
    unfold valD
    rw [hn]; rfl
end Go.Proofs.YtgpjcjnimheglaaGreatDoor.Wire
