/-
  THE PLAIN LAW of tokens, the program's way: cutting at a byte, digits of sixteen, signs, words.
-/
import Derived.Test.YtgpjcjnimheglaaGreatDoorLR
import Derived.Lib.IndexMore
import Derived.Lib.IndexLaws
import Derived.Lib.Strings
import Derived.Lib.SlTrimSet
namespace Go.Proofs.YtgpjcjnimheglaaGreatDoor.Lx
open Go.Lib

theorem occ1 (c : UInt8) (s : List UInt8) (i : Nat) : occAt s [c] i = true ↔ s[i]? = some c := by
  unfold occAt
  have h0 : (s.drop i)[0]? = s[i]? := by rw [List.getElem?_drop]; rfl
  rcases h : s.drop i with _ | ⟨a, t⟩
  · rw [h] at h0; simp only [List.getElem?_nil] at h0; rw [← h0]; simp [List.isPrefixOf]
  · rw [h] at h0
    simp only [List.getElem?_cons_zero] at h0
    rw [← h0]
    simp [List.isPrefixOf]
    exact ⟨fun h => h.symm, fun h => h.symm⟩
theorem tw_before (c : UInt8) : ∀ (l : List UInt8) (k : Nat), k < (l.takeWhile (· != c)).length → ∃ b, l[k]? = some b ∧ b ≠ c
  | [], k, h => by simp at h
  | a :: t, k, h => by
    by_cases ha : a = c
    · subst ha; simp at h
    · have h1 : (a != c) = true := by simp [ha]
      rw [List.takeWhile_cons, if_pos h1, List.length_cons] at h
      cases k with
      | zero => exact ⟨a, rfl, ha⟩
      | succ k =>
        obtain ⟨b, hb, hn⟩ := tw_before c t k (by omega)
        exact ⟨b, by simpa using hb, hn⟩
theorem tw_at (c : UInt8) : ∀ (l : List UInt8), c ∈ l → l[(l.takeWhile (· != c)).length]? = some c
  | [], h => by simp at h
  | a :: t, h => by
    by_cases ha : a = c
    · subst ha; simp
    · have h1 : (a != c) = true := by simp [ha]
      rw [List.takeWhile_cons, if_pos h1, List.length_cons]
      have := tw_at c t ((List.mem_cons.1 h).resolve_left fun e => ha e.symm)
      simpa using this
theorem tw_take (c : UInt8) (l : List UInt8) : l.take (l.takeWhile (· != c)).length = l.takeWhile (· != c) := by
  conv => lhs; rw [← List.takeWhile_append_dropWhile (p := (· != c)) (l := l)]
  rw [List.take_append_of_le_length (by simp), List.take_of_length_le (by simp)]
theorem tw_all (c : UInt8) : ∀ (l : List UInt8), c ∉ l → l.takeWhile (· != c) = l
  | [], _ => rfl
  | a :: t, h => by
    rw [List.mem_cons, not_or] at h
    have h1 : (a != c) = true := by simp; exact fun e => h.1 e.symm
    rw [List.takeWhile_cons, if_pos h1, tw_all c t h.2]
/-- cut at a byte -/
theorem cut_byte (c : UInt8) (l : List UInt8) : (cut l [c]).1 = l.takeWhile (· != c) ∧ (cut l [c]).2.2 = decide (c ∈ l) := by
  by_cases h : c ∈ l
  · have hlen : (l.takeWhile (· != c)).length ≤ l.length := (List.takeWhile_sublist _).length_le
    have hi : index l [c] = ((l.takeWhile (· != c)).length : Nat) := index_first hlen ((occ1 c _ _).2 (tw_at c l h)) fun j hj => by
      cases ho : occAt l [c] j with
      | false => rfl
      | true =>
        obtain ⟨b, hb, hn⟩ := tw_before c l j hj
        rw [(occ1 c _ _).1 ho] at hb
        injection hb with hb
        exact absurd hb.symm hn
    unfold cut
    rw [hi, if_pos (by omega), decide_eq_true h]
    exact ⟨tw_take c l, rfl⟩
  · have hi : index l [c] = -1 := index_none fun j _ => by
      cases ho : occAt l [c] j with
      | false => rfl
      | true => exact absurd (List.mem_of_getElem? ((occ1 c _ _).1 ho)) h
    have hw : l.takeWhile (· != c) = l := tw_all c l h
    unfold cut
    rw [hi, hw, decide_eq_false h]
    exact ⟨rfl, rfl⟩

def hexs : List UInt8 := [48, 49, 50, 51, 52, 53, 54, 55, 56, 57, 97, 98, 99, 100, 101, 102, 65, 66, 67, 68, 69, 70]
theorem hexs_fin : ∀ i : Fin 256, hexs.contains (UInt8.ofNat i.val) = (hexV (UInt8.ofNat i.val)).isSome := by decide +kernel
theorem hexs_iff (b : UInt8) : hexs.contains b = (hexV b).isSome := by
  have := hexs_fin ⟨b.toNat, b.toNat_lt⟩
  simpa using this
theorem drop_nil (l cs : List UInt8) (h : l.dropWhile (cs.contains ·) = []) : ∀ b ∈ l, cs.contains b = true := by
  induction l with
  | nil => intro b hb; simp at hb
  | cons a t ih =>
    rw [List.dropWhile_cons] at h
    split at h
    · rename_i ha
      intro b hb
      rcases List.mem_cons.1 hb with rfl | hb
      · exact ha
      · exact ih h b hb
    · cases h
theorem drop_head (l cs : List UInt8) : ∀ a t, l.dropWhile (cs.contains ·) = a :: t → cs.contains a = false := by
  induction l with
  | nil => intro a t h; simp at h
  | cons x l ih =>
    intro a t h
    rw [List.dropWhile_cons] at h
    split at h
    · exact ih a t h
    · rename_i hx
      injection h with h1 _
      subst h1
      simpa using hx
theorem trim_nil (l cs : List UInt8) (h : trimS l cs = []) : ∀ b ∈ l, cs.contains b = true := by
  unfold trimS trimLeftS at h
  have h1 := drop_nil _ _ h
  unfold trimRightS at h1
  cases hd : l.reverse.dropWhile (cs.contains ·) with
  | nil =>
    intro b hb
    exact drop_nil _ _ hd b (List.mem_reverse.2 hb)
  | cons a t =>
    have h2 := drop_head _ _ a t hd
    rw [hd] at h1
    have h3 := h1 a (List.mem_reverse.2 (by simp))
    rw [h2] at h3; cases h3
theorem trim_all (l cs : List UInt8) (h : ∀ b ∈ l, cs.contains b = true) : trimS l cs = [] := by
  have h1 : trimRightS l cs = l.take 0 := trimRightS_take _ _ 0 (Nat.zero_le _) (fun j b _ hb => h b (List.mem_of_getElem? hb)) (fun b h => by omega)
  unfold trimS
  rw [h1]; rfl
theorem hexN_of_all : ∀ (l : List UInt8) (a : Nat), (∀ b ∈ l, ∃ d, hexV b = some d) → ∃ n, hexN a l = some n
  | [], a, _ => ⟨a, rfl⟩
  | b :: t, a, h => by
    obtain ⟨d, hd⟩ := h b (by simp)
    obtain ⟨n, hn⟩ := hexN_of_all t (a * 16 + d) fun x hx => h x (by simp [hx])
    exact ⟨n, by simp only [hexN, hd]; exact hn⟩
theorem hexN_lt : ∀ (t : List UInt8) (a m : Nat), hexN a t = some m → m < (a + 1) * 16 ^ t.length := by
  intro t
  induction t with
  | nil => intro a m h; simp only [hexN] at h; injection h with h; subst h; simp
  | cons b t ih =>
    intro a m h
    simp only [hexN] at h
    cases hb : hexV b with
    | none => rw [hb] at h; simp at h
    | some x =>
      rw [hb] at h
      have h3 := ih _ _ h
      have h4 := (hex_no b x hb).2.2.2.2
      have h5 : (a * 16 + x + 1) * 16 ^ t.length ≤ (a + 1) * 16 * 16 ^ t.length := Nat.mul_le_mul_right _ (by omega)
      rw [List.length_cons, Nat.pow_succ, Nat.mul_comm (16 ^ t.length) 16, ← Nat.mul_assoc]
      omega
theorem hex_way (D : List UInt8) : (trimS D hexs = [] ∧ (∀ b ∈ D, ∃ d, hexV b = some d) ∧ ∃ n, hexN 0 D = some n) ∨ (trimS D hexs ≠ [] ∧ hexN 0 D = none) := by
  by_cases h : trimS D hexs = []
  · have h1 : ∀ b ∈ D, ∃ d, hexV b = some d := fun b hb => by
      have := trim_nil D hexs h b hb
      rw [hexs_iff] at this
      exact Option.isSome_iff_exists.1 this
    exact .inl ⟨h, h1, hexN_of_all D 0 h1⟩
  · refine .inr ⟨h, ?_⟩
    cases hn : hexN 0 D with
    | none => rfl
    | some n =>
      exfalso
      apply h
      refine trim_all D hexs fun b hb => ?_
      obtain ⟨d, hd⟩ := hexN_all D 0 n hn b hb
      rw [hexs_iff, hd]; rfl

/-- the first line -/
theorem line_cut (l : List UInt8) : (cut l [10]).1.length = (l.takeWhile (· != 10)).length := by rw [(cut_byte 10 l).1]
theorem ix_sign (b : UInt8) : (decide (0 ≤ indexByte signs b)) = signs.contains b := by
  have h : ∀ i : Fin 256, (decide (0 ≤ indexByte signs (UInt8.ofNat i.val))) = signs.contains (UInt8.ofNat i.val) := by decide +kernel
  have := h ⟨b.toNat, b.toNat_lt⟩
  simpa using this
end Go.Proofs.YtgpjcjnimheglaaGreatDoor.Lx
