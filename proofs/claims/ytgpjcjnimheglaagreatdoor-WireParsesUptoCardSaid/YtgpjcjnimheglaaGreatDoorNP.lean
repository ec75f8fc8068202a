/-
  THE PLAIN LAW of a number of a message: digits, read by strconv.Atoi.
-/
import Derived.Test.YtgpjcjnimheglaaGreatDoorNA
import Derived.Test.YtgpjcjnimheglaaGreatDoorWA
namespace Go.Proofs.YtgpjcjnimheglaaGreatDoor.Jp
open Go.Lib

theorem dig_dgs (b : UInt8) (h : digB b = true) : Wire.dgs.contains b = true := by
  have hh : ∀ i : Fin 256, digB (UInt8.ofNat i.val) = true → Wire.dgs.contains (UInt8.ofNat i.val) = true := by decide +kernel
  have := hh ⟨b.toNat, b.toNat_lt⟩
  simp only [UInt8.ofNat_toNat] at this
  exact this h
theorem dec_val : ∀ (l : List UInt8) (a : Nat), (∀ b ∈ l, digB b = true) → decFrom a l = some (l.foldl (fun n b => n * 10 + (b.toNat - 48)) a)
  | [], a, _ => rfl
  | b :: t, a, h => by
    obtain ⟨d, hd, h1, h2⟩ := Wire.dg_val b (dig_dgs b (h b (by simp)))
    obtain ⟨_, _, hd2⟩ := digitVal_eq hd
    have e : a * 10 + (b.toNat - 48) = a * 10 + d := by omega
    simp only [decFrom, hd, List.foldl_cons, e]
    exact dec_val t _ fun x hx => h x (by simp [hx])
theorem valN_lt (l : List UInt8) (h : ∀ b ∈ l, digB b = true) : valN l < 10 ^ l.length := by
  have := decFrom_lt l 0 _ (dec_val l 0 h)
  simpa [valN] using this
theorem pow18 {n : Nat} (h : n ≤ 18) : 10 ^ n ≤ 1000000000000000000 := by
  have := Nat.pow_le_pow_right (show 0 < 10 by omega) h
  have e : (10 : Nat) ^ 18 = 1000000000000000000 := by decide
  omega
theorem mag_digits (l : List UInt8) (h0 : l ≠ []) (h : ∀ b ∈ l, digB b = true) (hl : l.length ≤ 18) : parseMag l = .ok (valN l) := by
  have hp := Wire.parse_dec l 0 (valN l) (fun b hb => dig_dgs b (h b hb)) (dec_val l 0 h) (by have := valN_lt l h; have := pow18 hl; omega)
  unfold parseMag
  cases l with
  | nil => exact absurd rfl h0
  | cons a t => exact hp
theorem atoi_pos (l : List UInt8) (h0 : l ≠ []) (h : ∀ b ∈ l, digB b = true) (hl : l.length ≤ 18) : atoiAll l = .ok (valN l) := by
  have hm := mag_digits l h0 h hl
  have hv := valN_lt l h
  have h10 := pow18 hl
  cases l with
  | nil => exact absurd rfl h0
  | cons a t =>
    obtain ⟨_, _, k1, k2⟩ := Wire.dg_val a (dig_dgs a (h a (by simp)))
    unfold atoiAll
    simp only
    rw [if_neg (by omega), hm]
    simp only
    rw [if_neg (by omega), if_neg (by omega), if_neg (by omega)]
theorem atoi_neg (l : List UInt8) (h0 : l ≠ []) (h : ∀ b ∈ l, digB b = true) (hl : l.length ≤ 18) : atoiAll (45 :: l) = .ok (-(valN l : Int)) := by
  have hm := mag_digits l h0 h hl
  have hv := valN_lt l h
  have h10 := pow18 hl
  have e : (if (45 : UInt8).toNat = 43 ∨ (45 : UInt8).toNat = 45 then l else 45 :: l) = l := if_pos (Or.inr rfl)
  unfold atoiAll
  simp only [e, hm]
  rw [if_neg (fun h => h.1 rfl), if_neg (fun h => by have := h.2; omega)]
  rfl
theorem dig_all (s : List UInt8) (i : Nat) : ∀ b ∈ (s.drop i).takeWhile digB, digB b = true := fun b hb => List.all_eq_true.1 List.all_takeWhile b hb
theorem dig_take (s : List UInt8) (i : Nat) : (s.take (digP s i)).drop i = (s.drop i).takeWhile digB := by
  unfold digP
  rw [List.drop_take, Nat.add_sub_cancel_left]
  have hp : (s.drop i).takeWhile digB <+: s.drop i := List.takeWhile_prefix _
  exact (List.prefix_iff_eq_take.1 hp).symm
theorem dig_take_neg (s : List UInt8) (i : Nat) (h : s[i]? = some 45) : (s.take (digP s (i + 1))).drop i = 45 :: (s.drop (i + 1)).takeWhile digB := by
  have hd := dig_take s (i + 1)
  have hge := dig_ge s (i + 1)
  obtain ⟨hi, he⟩ := List.getElem?_eq_some_iff.1 h
  have hl : i < (s.take (digP s (i + 1))).length := by rw [List.length_take]; omega
  rw [List.drop_eq_getElem_cons hl, hd]
  congr 1
  rw [List.getElem_take]; exact he
theorem dig_len (s : List UInt8) (i : Nat) : ((s.drop i).takeWhile digB).length = digP s i - i := by unfold digP; omega
theorem dig_go (s : List UInt8) (i : Nat) (h : i < s.length) (hb : digB s[i] = true) : digP s i = digP s (i + 1) := by
  unfold digP
  rw [List.drop_eq_getElem_cons h, List.takeWhile_cons, if_pos hb, List.length_cons]
  omega
theorem dig_stop (s : List UInt8) (i : Nat) (h : i < s.length) (hb : digB s[i] = false) : digP s i = i := by
  unfold digP
  rw [List.drop_eq_getElem_cons h, List.takeWhile_cons, if_neg (by simp [hb])]
  simp
theorem dig_end (s : List UInt8) (i : Nat) (h : s.length ≤ i) : digP s i = i := by
  unfold digP
  rw [List.drop_of_length_le h]
  simp
/-- what Atoi makes of a number -/
theorem num_atoi (s : List UInt8) (i : Nat) (h1 : digP s (firstP s i) ≠ firstP s i) (h2 : ¬ 18 < digP s (firstP s i) - firstP s i) : atoiAll ((s.take (digP s (firstP s i))).drop i) = .ok (numV s i) := by
  unfold numV
  by_cases hc : s[i]? = some 45
  · have hf : firstP s i = i + 1 := if_pos hc
    rw [hf] at h1 h2 ⊢
    rw [if_pos hc, dig_take_neg s i hc]
    have hl := dig_len s (i + 1)
    have hge := dig_ge s (i + 1)
    refine atoi_neg _ ?_ (dig_all s (i + 1)) (by omega)
    intro e
    rw [e] at hl
    simp at hl
    omega
  · have hf : firstP s i = i := if_neg hc
    rw [hf] at h1 h2 ⊢
    rw [if_neg hc, dig_take s i]
    have hl := dig_len s i
    have hge := dig_ge s i
    refine atoi_pos _ ?_ (dig_all s i) (by omega)
    intro e
    rw [e] at hl
    simp at hl
    omega
theorem numV_bound (s : List UInt8) (i : Nat) (h2 : ¬ 18 < digP s (firstP s i) - firstP s i) : -1000000000000000000 < numV s i ∧ numV s i < 1000000000000000000 := by
  unfold numV
  by_cases hc : s[i]? = some 45
  · have hf : firstP s i = i + 1 := if_pos hc
    rw [hf] at h2
    rw [if_pos hc]
    have hl := dig_len s (i + 1)
    have hv := valN_lt _ (dig_all s (i + 1))
    have h10 := pow18 (n := ((s.drop (i + 1)).takeWhile digB).length) (by omega)
    omega
  · have hf : firstP s i = i := if_neg hc
    rw [hf] at h2
    rw [if_neg hc]
    have hl := dig_len s i
    have hv := valN_lt _ (dig_all s i)
    have h10 := pow18 (n := ((s.drop i).takeWhile digB).length) (by omega)
    omega
end Go.Proofs.YtgpjcjnimheglaaGreatDoor.Jp
