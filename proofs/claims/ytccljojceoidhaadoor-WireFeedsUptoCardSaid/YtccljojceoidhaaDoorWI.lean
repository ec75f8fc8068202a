/-
  THE PLAIN LAW of a line that tells a length.
-/
import Derived.Test.YtccljojceoidhaaDoorWE
namespace Go.Proofs.YtccljojceoidhaaDoor.Wire
open Go.Lib

/-- where the first colon stands -/
def cN (l : List UInt8) : Nat := (l.takeWhile (· != 58)).length
theorem cN_le (l : List UInt8) : cN l ≤ l.length := (List.takeWhile_sublist _).length_le
theorem cN_at : ∀ (l : List UInt8), cN l < l.length → l[cN l]? = some 58
  | [], h => by simp at h
  | a :: t, h => by
    unfold cN at h ⊢
    by_cases ha : a = 58
    · subst ha; simp
    · have h1 : (a != 58) = true := by simp [ha]
      rw [List.takeWhile_cons, if_pos h1, List.length_cons] at h ⊢
      have := cN_at t (by unfold cN; simpa using h)
      simpa [cN] using this
theorem cN_before : ∀ (l : List UInt8) (k : Nat), k < cN l → ∃ b, l[k]? = some b ∧ b ≠ 58
  | [], k, h => by simp [cN] at h
  | a :: t, k, h => by
    unfold cN at h
    by_cases ha : a = 58
    · subst ha; simp at h
    · have h1 : (a != 58) = true := by simp [ha]
      rw [List.takeWhile_cons, if_pos h1, List.length_cons] at h
      cases k with
      | zero => exact ⟨a, rfl, ha⟩
      | succ k =>
        obtain ⟨b, hb, hn⟩ := cN_before t k (by unfold cN; omega)
        exact ⟨b, by simpa using hb, hn⟩
theorem cN_take (l : List UInt8) : l.take (cN l) = l.takeWhile (· != 58) := by
  conv => lhs; rw [← List.takeWhile_append_dropWhile (p := (· != 58)) (l := l)]
  unfold cN
  rw [List.take_append_of_le_length (by simp), List.take_of_length_le (by simp)]

theorem occ58 (s : List UInt8) (i : Nat) : occAt s [58] i = true ↔ s[i]? = some 58 := by
  unfold occAt
  have h0 : (s.drop i)[0]? = s[i]? := by rw [List.getElem?_drop]; rfl
  rcases h : s.drop i with _ | ⟨a, t⟩
  · rw [h] at h0; simp only [List.getElem?_nil] at h0; rw [← h0]; simp [List.isPrefixOf]
  · rw [h] at h0
    simp only [List.getElem?_cons_zero] at h0
    rw [← h0]
    simp [List.isPrefixOf]
    exact ⟨fun h => h.symm, fun h => h.symm⟩
theorem cut58_hit (l : List UInt8) (h : cN l < l.length) : (cut l [58]).1 = l.take (cN l) ∧ (cut l [58]).2.2 = true := by
  have hi : index l [58] = (cN l : Nat) := index_first (by omega) ((occ58 _ _).2 (cN_at l h)) fun j hj => by
    cases ho : occAt l [58] j with
    | false => rfl
    | true =>
      obtain ⟨b, hb, hn⟩ := cN_before l j hj
      rw [(occ58 _ _).1 ho] at hb
      injection hb with hb
      exact absurd hb.symm hn
  unfold cut
  rw [hi, if_pos (by omega)]
  exact ⟨rfl, rfl⟩
theorem cut58_miss (l : List UInt8) (h : cN l = l.length) : (cut l [58]).2.2 = false := by
  have hi : index l [58] = -1 := index_none fun j hj => by
    cases ho : occAt l [58] j with
    | false => rfl
    | true =>
      have h1 := (occ58 _ _).1 ho
      have hj2 : j < l.length := by
        rcases Nat.lt_or_ge j l.length with h2 | h2
        · exact h2
        · rw [List.getElem?_eq_none h2] at h1; cases h1
      obtain ⟨b, hb, hn⟩ := cN_before l j (by omega)
      rw [h1] at hb
      injection hb with hb
      exact absurd hb.symm hn
  unfold cut
  rw [hi]; rfl

theorem hdc_parts {l : List UInt8} (h : hasPrefix l hdc = true) : l = hdc ++ l.drop 16 := by
  unfold hasPrefix at h
  obtain ⟨t, rfl⟩ := List.isPrefixOf_iff_prefix.1 h
  rfl
theorem cN_hdc (t : List UInt8) : cN (hdc ++ t) = 14 := by
  unfold cN hdc; simp
/-- no colon: no line -/
theorem len_none (l : List UInt8) (h : cN l = l.length) : lengthM l = -2 := by
  have hB : lenB l = false := by
    cases hB : lenB l with
    | false => rfl
    | true =>
      have h1 := hdc_parts (lenB_parts hB).1
      rw [h1, cN_hdc, List.length_append] at h
      have : hdc.length = 16 := rfl
      omega
  unfold lengthM
  rw [if_neg (by simp [hB]), if_pos (.inl (cut58_miss l h))]
/-- another name -/
theorem len_other (l : List UInt8) (h : cN l < l.length) (hn : l.take (cN l) ≠ hd) : lengthM l = -1 := by
  have hB : lenB l = false := by
    cases hB : lenB l with
    | false => rfl
    | true =>
      exfalso
      have h1 := hdc_parts (lenB_parts hB).1
      apply hn
      rw [h1, cN_hdc]; rfl
  obtain ⟨c1, c2⟩ := cut58_hit l h
  unfold lengthM
  rw [if_neg (by simp [hB]), if_neg]
  rintro (h2 | h2)
  · rw [c2] at h2; cases h2
  · rw [c1] at h2; exact hn h2
/-- the name, and nothing right behind it -/
theorem len_wrong (l : List UInt8) (h : cN l < l.length) (hn : l.take (cN l) = hd) (hB : lenB l = false) : lengthM l = -2 := by
  obtain ⟨c1, c2⟩ := cut58_hit l h
  unfold lengthM
  rw [if_neg (by simp [hB]), if_pos (.inr (by rw [c1]; exact hn))]
theorem c14 {l : List UInt8} (hn : l.take (cN l) = hd) : cN l = 14 := by
  have := congrArg List.length hn
  rw [List.length_take, Nat.min_eq_left (cN_le l)] at this
  exact this
theorem pre16 {l : List UInt8} (h : cN l < l.length) (hn : l.take (cN l) = hd) (h32 : l[15]? = some 32) : hasPrefix l hdc = true := by
  have h14 := c14 hn
  have h58 := cN_at l h
  rw [h14] at h58 hn
  unfold hasPrefix
  rw [List.isPrefixOf_iff_prefix]
  refine ⟨l.drop 16, ?_⟩
  have h15 : 15 < l.length := (List.getElem?_eq_some_iff.1 h32).1
  have e1 : l.take 16 = hdc := by
    rw [List.take_add_one, List.take_add_one, hn, h58, h32]; rfl
  rw [← e1, List.take_append_drop]
theorem trim_all (l cs : List UInt8) (h : ∀ b ∈ l, cs.contains b = true) : trimS l cs = [] := by
  have h1 : trimRightS l cs = l.take 0 := trimRightS_take _ _ 0 (Nat.zero_le _) (fun j b _ hb => h b (List.mem_of_getElem? hb)) (fun b h => by omega)
  unfold trimS
  rw [h1]; rfl
theorem dg_iff (b : UInt8) : dgs.contains b = true ↔ 48 ≤ b.toNat ∧ b.toNat ≤ 57 := by
  constructor
  · intro h; obtain ⟨_, _, h1, h2⟩ := dg_val b h; exact ⟨h1, h2⟩
  · rintro ⟨h1, h2⟩
    have : b = UInt8.ofNat (48 + (b.toNat - 48)) := by
      apply UInt8.toNat_inj.1
      simp [UInt8.toNat_ofNat']
      omega
    rw [this]
    exact dgs_all (by omega)
theorem lenB_of {l : List UInt8} (h : cN l < l.length) (hn : l.take (cN l) = hd) (h32 : l[15]? = some 32) (h1 : 17 ≤ l.length) (h2 : l.length ≤ 26) (hd : ∀ b ∈ l.drop 16, 48 ≤ b.toNat ∧ b.toNat ≤ 57) : lenB l = true := by
  unfold lenB
  rw [pre16 h hn h32, trim_all _ _ fun b hb => (dg_iff b).2 (hd b hb)]
  simp
  omega
theorem lenB_need {l : List UInt8} (hB : lenB l = true) : l[15]? = some 32 ∧ 17 ≤ l.length ∧ l.length ≤ 26 ∧ ∀ b ∈ l.drop 16, 48 ≤ b.toNat ∧ b.toNat ≤ 57 := by
  obtain ⟨h1, h2, h3, h4⟩ := lenB_parts hB
  have h5 := hdc_parts h1
  rw [List.length_drop] at h2 h3
  refine ⟨?_, by omega, by omega, fun b hb => (dg_iff b).1 (trim_nil _ _ h4 b hb)⟩
  rw [h5, List.getElem?_append_left (by decide)]; rfl

/-- the number that the first digits spell -/
theorem dec_take (l : List UInt8) (hd : ∀ b ∈ l, 48 ≤ b.toNat ∧ b.toNat ≤ 57) (k : Nat) (hk : k ≤ l.length) : ∃ n : Nat, decFrom 0 (l.take k) = some n ∧ n < 10 ^ k := by
  obtain ⟨n, hn, _⟩ := decFrom_all (l.take k) 0 fun b hb => (dg_iff b).2 (hd b (List.mem_of_mem_take hb))
  have := decFrom_lt _ _ _ hn
  rw [List.length_take, Nat.min_eq_left hk] at this
  exact ⟨n, hn, by omega⟩
theorem dec_next (l : List UInt8) (k n : Nat) (b : UInt8) (hn : decFrom 0 (l.take k) = some n) (hb : l[k]? = some b) (h1 : 48 ≤ b.toNat ∧ b.toNat ≤ 57) : decFrom 0 (l.take (k + 1)) = some (n * 10 + (b.toNat - 48)) :=
  decFrom_take l k 0 n b (b.toNat - 48) hn hb (by unfold digitVal; rw [if_pos h1])

/-- outputs stay -/
theorem runM_pre : ∀ (n : Nat) (r : RS) (o : List (List UInt8)) (b : List UInt8) (m : Nat), r.good → phi (r.plus b) < m → (runM n r o).2.length ≤ (runM m (r.plus b) o).2.length
  | 0, r, o, b, m, _, _ => by
    rw [runM, runM_app m]
    simp
  | n + 1, r, o, b, m, hg, hm => by
    cases ht : (stepM r).2.2 with
    | false => rw [runM_stop _ _ _ ht, runM_app m]; simp
    | true =>
      have hp := step_plus r b hg ht
      have htp : (stepM (r.plus b)).2.2 = true := by rw [hp]
      have hphip := phi_step (r.plus b) hg htp
      obtain ⟨m, rfl⟩ : ∃ k, m = k + 1 := ⟨m - 1, by omega⟩
      rw [runM_go n r o ht, runM_go m _ o htp, hp]
      rw [hp] at hphip
      exact runM_pre n _ _ b m (good_step r hg ht) (by simp only at hphip; omega)
theorem all_pre (a b : List UInt8) : (allM a).2.length ≤ (allM (a ++ b)).2.length := by
  rw [all_run, all_run]
  have e : (RS.plus { r0 with rest := r0.rest ++ a } b) = { r0 with rest := r0.rest ++ (a ++ b) } := by unfold RS.plus; simp
  rw [← e]
  exact runM_pre _ _ _ b _ r0_good (Nat.lt_succ_self _)
end Go.Proofs.YtccljojceoidhaaDoor.Wire
