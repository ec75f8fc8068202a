/-
  THE PLAIN LAW of tokens, the document's way: escapes digit by digit.
-/
import Derived.Test.YtgpjcjnimheglaaGreatDoorLP
namespace Go.Proofs.YtgpjcjnimheglaaGreatDoor.Lx

/-- how many bytes, at most so many, are digits of sixteen -/
def hexC : Nat → List UInt8 → Nat
  | 0, _ => 0
  | _ + 1, [] => 0
  | f + 1, b :: t => if (hexV b).isSome then hexC f t + 1 else 0

theorem hexC_le : ∀ (f : Nat) (l : List UInt8), hexC f l ≤ f ∧ hexC f l ≤ l.length
  | 0, _ => by simp [hexC]
  | _ + 1, [] => by simp [hexC]
  | f + 1, b :: t => by
    have := hexC_le f t
    simp only [hexC]
    split
    · simp only [List.length_cons]; omega
    · simp
theorem hexC_at : ∀ (f : Nat) (l : List UInt8) (j : Nat), j < hexC f l → ∃ b d, l[j]? = some b ∧ hexV b = some d
  | 0, _, _, h => by simp [hexC] at h
  | _ + 1, [], _, h => by simp [hexC] at h
  | f + 1, b :: t, j, h => by
    simp only [hexC] at h
    split at h
    · rename_i hb
      cases j with
      | zero =>
        obtain ⟨d, hd⟩ := Option.isSome_iff_exists.1 hb
        exact ⟨b, d, rfl, hd⟩
      | succ j =>
        obtain ⟨b', d, h1, h2⟩ := hexC_at f t j (by omega)
        exact ⟨b', d, by simpa using h1, h2⟩
    · omega
theorem hexC_end : ∀ (f : Nat) (l : List UInt8), hexC f l < f → ∀ b, l[hexC f l]? = some b → hexV b = none
  | 0, _, h, _, _ => by omega
  | _ + 1, [], _, _, h => by simp [hexC] at h
  | f + 1, b :: t, h, c, hc => by
    simp only [hexC] at h hc
    split at h
    · rename_i hb
      rw [if_pos hb] at hc
      exact hexC_end f t (by omega) c (by simpa using hc)
    · rename_i hb
      rw [if_neg hb] at hc
      simp at hc
      subst hc
      simpa using hb

theorem hexN_snoc : ∀ (l : List UInt8) (a n : Nat) (b : UInt8) (d : Nat), hexN a l = some n → hexV b = some d → hexN a (l ++ [b]) = some (n * 16 + d)
  | [], a, n, b, d, h, hb => by simp only [hexN] at h; injection h with h; subst h; simp [hexN, hb]
  | c :: t, a, n, b, d, h, hb => by
    simp only [List.cons_append, hexN] at h ⊢
    cases hc : hexV c with
    | none => rw [hc] at h; simp at h
    | some x => rw [hc] at h; exact hexN_snoc t _ n b d h hb
theorem hexN_take (f : Nat) (l : List UInt8) : ∀ j, j ≤ hexC f l → ∃ n, hexN 0 (l.take j) = some n ∧ n < 16 ^ j
  | 0, _ => ⟨0, rfl, by simp⟩
  | j + 1, h => by
    obtain ⟨n, hn, hl⟩ := hexN_take f l j (by omega)
    obtain ⟨b, d, hb, hd⟩ := hexC_at f l j (by omega)
    refine ⟨n * 16 + d, ?_, ?_⟩
    · rw [List.take_add_one, hb]
      exact hexN_snoc _ _ _ _ _ hn hd
    · have := (hex_no b d hd).2.2.2.2
      rw [Nat.pow_succ]; omega

/-- the digits are all that stands ahead of the sign that closes -/
theorem hex_while (l : List UInt8) (h : l[hexC 6 l]? = some 125) : l.takeWhile (· != 125) = l.take (hexC 6 l) := by
  have key : ∀ (m : Nat) (l : List UInt8), (∀ j, j < m → ∃ b d, l[j]? = some b ∧ hexV b = some d) → l[m]? = some 125 → l.takeWhile (· != 125) = l.take m := by
    intro m
    induction m with
    | zero =>
      intro l _ h
      cases l with
      | nil => simp at h
      | cons a t => simp at h; subst h; simp
    | succ m ih =>
      intro l hj h
      cases l with
      | nil => simp at h
      | cons a t =>
        obtain ⟨b, d, hb, hd⟩ := hj 0 (by omega)
        simp at hb; subst hb
        have ha : (a != 125) = true := by simp; exact (hex_no a d hd).2.1
        rw [List.takeWhile_cons, if_pos ha, List.take_succ_cons]
        congr 1
        exact ih t (fun j hj' => by simpa using hj (j + 1) (by omega)) (by simpa using h)
  exact key _ l (hexC_at 6 l) h

theorem code_ref (r : List UInt8) (n : Nat) (hn : hexN 0 (r.take (hexC 6 r)) = some n) :
    codeM (123 :: r) = if hexC 6 r = 0 ∨ r[hexC 6 r]? ≠ some 125 ∨ n > 1114111 ∨ (55296 ≤ n ∧ n ≤ 57343) then none else some (n, hexC 6 r + 2) := by
  have hle := hexC_le 6 r
  by_cases hc : r[hexC 6 r]? = some 125
  · have hw := hex_while r hc
    have hm : (125 : UInt8) ∈ r := List.mem_of_getElem? hc
    have hlen : (r.take (hexC 6 r)).length = hexC 6 r := by rw [List.length_take]; omega
    unfold codeM
    simp only [ne_eq, not_true_eq_false, if_false, hm, hw, hlen, hn]
    by_cases h0 : hexC 6 r = 0
    · rw [if_pos (Or.inl (by omega)), if_pos (Or.inl h0)]
    · rw [if_neg (by omega)]
      by_cases h1 : n > 1114111 ∨ (55296 ≤ n ∧ n ≤ 57343)
      · rw [if_pos h1, if_pos (Or.inr (Or.inr h1))]
      · rw [if_neg h1, if_neg]
        rintro (h | h | h)
        · exact h0 h
        · exact h hc
        · exact h1 h
  · rw [if_pos (Or.inr (Or.inl hc))]
    cases hx : codeM (123 :: r) with
    | none => rfl
    | some x =>
      exfalso
      unfold codeM at hx
      simp only [ne_eq, not_true_eq_false, if_false] at hx
      split at hx
      · cases hx
      · rename_i hm
        split at hx
        · cases hx
        · rename_i hl
          split at hx
          · cases hx
          · rename_i m hh
            obtain ⟨t, ht⟩ := take_while_at r (by simpa using hm)
            have hall := hexN_all _ _ _ hh
            generalize hD : r.takeWhile (· != 125) = D at *
            have e : hexC 6 r = D.length := by
              have key : ∀ (f : Nat) (D t : List UInt8), (∀ b ∈ D, ∃ d, hexV b = some d) → D.length ≤ f → hexC f (D ++ 125 :: t) = D.length := by
                intro f
                induction f with
                | zero => intro D t _ hl; simp [hexC]; omega
                | succ f ih =>
                  intro D t hd hl
                  cases D with
                  | nil => simp only [List.nil_append, hexC]; rw [if_neg (by decide)]; rfl
                  | cons b D =>
                    obtain ⟨d, hd'⟩ := hd b (by simp)
                    simp only [List.cons_append, hexC]
                    rw [if_pos (by rw [hd']; rfl), ih D t (fun x hx => hd x (by simp [hx])) (by simpa using hl)]
                    rfl
              rw [ht]
              exact key 6 D t hall (by omega)
            apply hc
            rw [e, ht]
            simp
theorem code_no (l : List UInt8) (h : l.head? ≠ some 123) : codeM l = none := by
  unfold codeM
  cases l with
  | nil => rfl
  | cons a r =>
    simp only
    rw [if_pos]
    intro e; subst e; exact h rfl

end Go.Proofs.YtgpjcjnimheglaaGreatDoor.Lx
