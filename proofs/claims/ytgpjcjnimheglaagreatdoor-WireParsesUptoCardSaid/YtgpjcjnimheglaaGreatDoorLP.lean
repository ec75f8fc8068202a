/-
  THE PLAIN LAW of tokens: how long they are; a text that is not closed ends with its line; character for character or byte for byte.
-/
import Derived.Test.YtgpjcjnimheglaaGreatDoorLM
namespace Go.Proofs.YtgpjcjnimheglaaGreatDoor.Lx

theorem remM_le : ∀ (l : List UInt8) (d k : Nat), remM d l = some k → 2 ≤ k ∧ k ≤ l.length
  | [], _, _, h => by simp [remM] at h
  | [_], _, _, h => by simp [remM] at h
  | a :: b :: t, d, k, h => by
    simp only [remM] at h
    split at h
    · rw [Option.map_eq_some_iff] at h
      obtain ⟨j, hj, rfl⟩ := h
      have := remM_le t _ _ hj
      simp only [List.length_cons]; omega
    · split at h
      · split at h
        · injection h with h; subst h; simp
        · rw [Option.map_eq_some_iff] at h
          obtain ⟨j, hj, rfl⟩ := h
          have := remM_le t _ _ hj
          simp only [List.length_cons]; omega
      · rw [Option.map_eq_some_iff] at h
        obtain ⟨j, hj, rfl⟩ := h
        have := remM_le (b :: t) _ _ hj
        simp only [List.length_cons] at this ⊢; omega

theorem hex_no (b : UInt8) (d : Nat) (h : hexV b = some d) : b ≠ 10 ∧ b ≠ 125 ∧ b ≠ 34 ∧ b ≠ 92 ∧ d < 16 := by
  unfold hexV at h
  have hn : ∀ n : Nat, n < 256 → b.toNat ≠ n → b ≠ UInt8.ofNat n := fun n hn h1 e => h1 (by rw [e]; simp [UInt8.toNat_ofNat']; omega)
  split at h
  · injection h with h
    exact ⟨hn 10 (by omega) (by omega), hn 125 (by omega) (by omega), hn 34 (by omega) (by omega), hn 92 (by omega) (by omega), by omega⟩
  · split at h
    · injection h with h
      exact ⟨hn 10 (by omega) (by omega), hn 125 (by omega) (by omega), hn 34 (by omega) (by omega), hn 92 (by omega) (by omega), by omega⟩
    · split at h
      · injection h with h
        exact ⟨hn 10 (by omega) (by omega), hn 125 (by omega) (by omega), hn 34 (by omega) (by omega), hn 92 (by omega) (by omega), by omega⟩
      · cases h
theorem hexN_all : ∀ (l : List UInt8) (a n : Nat), hexN a l = some n → ∀ b ∈ l, ∃ d, hexV b = some d
  | [], _, _, _, b, hb => by simp at hb
  | c :: t, a, n, h, b, hb => by
    simp only [hexN] at h
    cases hc : hexV c with
    | none => rw [hc] at h; simp at h
    | some d =>
      rw [hc] at h
      rcases List.mem_cons.1 hb with rfl | hb
      · exact ⟨d, hc⟩
      · exact hexN_all t _ _ h b hb

theorem take_while_at (r : List UInt8) (h : (125 : UInt8) ∈ r) : ∃ t, r = r.takeWhile (· != 125) ++ 125 :: t := by
  induction r with
  | nil => simp at h
  | cons a r ih =>
    by_cases ha : a = 125
    · subst ha; exact ⟨r, by simp⟩
    · rcases List.mem_cons.1 h with h | h
      · exact absurd h.symm ha
      · obtain ⟨t, ht⟩ := ih h
        refine ⟨t, ?_⟩
        have : (a != 125) = true := by simp [ha]
        rw [List.takeWhile_cons, if_pos this, List.cons_append, ← ht]

/-- an escape lies within its text, and holds no line's end -/
theorem code_le (l : List UInt8) (c n : Nat) (h : codeM l = some (c, n)) : 3 ≤ n ∧ n ≤ l.length ∧ (10 : UInt8) ∉ l.take n := by
  unfold codeM at h
  split at h
  · cases h
  · rename_i a r
    split at h
    · cases h
    · rename_i ha
      split at h
      · cases h
      · rename_i hm
        simp only at h
        split at h
        · cases h
        · rename_i hl
          split at h
          · cases h
          · rename_i m hx
            split at h
            · cases h
            · injection h with h; injection h with h1 h2
              subst h2
              obtain ⟨t, ht⟩ := take_while_at r (by simpa using hm)
              have hlen : (r.takeWhile (· != 125)).length + 1 + t.length = r.length := by
                have := congrArg List.length ht
                simp only [List.length_append, List.length_cons] at this
                omega
              refine ⟨by omega, by simp only [List.length_cons]; omega, ?_⟩
              have e : (a :: r).take ((r.takeWhile (· != 125)).length + 2) = a :: (r.takeWhile (· != 125) ++ [125]) := by
                rw [List.take_succ_cons]
                have h3 : ∀ D t : List UInt8, (D ++ 125 :: t).take (D.length + 1) = D ++ [125] := fun D t => by rw [List.take_append, List.take_of_length_le (by omega)]; simp
                exact congrArg (List.cons a) ((congrArg (List.take _) ht).trans (h3 _ _))
              rw [e]
              have ha' : a = 123 := by simpa using ha
              subst ha'
              intro hmem
              rcases List.mem_cons.1 hmem with h | h
              · exact absurd h (by decide)
              · rcases List.mem_append.1 h with h | h
                · obtain ⟨d, hd⟩ := hexN_all _ _ _ hx _ h
                  exact (hex_no _ _ hd).1 rfl
                · simp at h
theorem esc_le (l : List UInt8) (c n : Nat) (h : escM l = some (c, n)) : 1 ≤ n ∧ n ≤ l.length ∧ (10 : UInt8) ∉ l.take n := by
  unfold escM at h
  split at h
  · cases h
  · rename_i a r
    have one : ∀ x : UInt8, x ≠ 10 → (10 : UInt8) ∉ (x :: r).take 1 := fun x hx hm => by
      simp at hm; exact hx hm.symm
    split at h
    · rename_i ha; injection h with h; injection h with h1 h2; subst h2 ha; exact ⟨by omega, by simp, one _ (by decide)⟩
    · split at h
      · rename_i ha; injection h with h; injection h with h1 h2; subst h2 ha; exact ⟨by omega, by simp, one _ (by decide)⟩
      · split at h
        · rename_i ha; injection h with h; injection h with h1 h2; subst h2
          exact ⟨by omega, by simp, one _ (by rcases ha with rfl | rfl <;> decide)⟩
        · split at h
          · rename_i ha
            subst ha
            rw [Option.map_eq_some_iff] at h
            obtain ⟨⟨c', n'⟩, hc, he⟩ := h
            injection he with h1 h2
            obtain ⟨k1, k2, k3⟩ := code_le r c' n' hc
            simp only at h2
            subst h2
            refine ⟨by omega, by simp only [List.length_cons]; omega, ?_⟩
            rw [List.take_succ_cons]
            intro hm
            rcases List.mem_cons.1 hm with h | h
            · exact absurd h (by decide)
            · exact k3 h
          · cases h

theorem textF_fuel : ∀ (f g : Nat) (r : Bool) (l : List UInt8), l.length ≤ f → l.length ≤ g → textF f r l = textF g r l
  | 0, 0, _, _, _, _ => rfl
  | 0, g + 1, r, l, h, _ => by
    have : l = [] := List.eq_nil_of_length_eq_zero (by omega)
    subst this; simp [textF]
  | f + 1, 0, r, l, _, h => by
    have : l = [] := List.eq_nil_of_length_eq_zero (by omega)
    subst this; simp [textF]
  | f + 1, g + 1, r, l, h1, h2 => by
    simp only [textF]
    split
    · rfl
    · rename_i a t
      simp only [List.length_cons] at h1 h2
      have hd : ∀ n (b : Bool), textF f b (t.drop n) = textF g b (t.drop n) := fun n b => textF_fuel f g b _ (by rw [List.length_drop]; omega) (by rw [List.length_drop]; omega)
      split
      · rfl
      · split
        · rfl
        · split
          · split
            · rw [hd]
            · simp only [hd]
          · have := hd 0 r
            rw [List.drop_zero] at this
            rw [this]

def textR (r : Bool) (l : List UInt8) : Nat × Bool × Bool := textF l.length r l
theorem textR_nil (r : Bool) : textR r [] = (0, false, r) := rfl
theorem textR_end (r : Bool) (t : List UInt8) : textR r (10 :: t) = (0, false, r) := by simp [textR, textF]
theorem textR_shut (r : Bool) (t : List UInt8) : textR r (34 :: t) = (1, true, r) := by simp [textR, textF]
theorem textR_plain (r : Bool) (a : UInt8) (t : List UInt8) (h1 : a ≠ 10) (h2 : a ≠ 34) (h3 : a ≠ 92) : textR r (a :: t) = ((textR r t).1 + 1, (textR r t).2) := by
  simp only [textR, List.length_cons, textF, if_neg h1, if_neg h2, if_neg h3]
theorem textR_esc (r : Bool) (t : List UInt8) (c n : Nat) (h : escM t = some (c, n)) : textR r (92 :: t) = ((textR r (t.drop n)).1 + (1 + n), (textR r (t.drop n)).2) := by
  have e : textF t.length r (t.drop n) = textF (t.drop n).length r (t.drop n) := textF_fuel _ _ _ _ (by rw [List.length_drop]; omega) (Nat.le_refl _)
  simp only [textR, List.length_cons, textF, if_neg (by decide : ¬ (92 : UInt8) = 10), if_neg (by decide : ¬ (92 : UInt8) = 34), if_true, h, e]
theorem textR_bad (r : Bool) (t : List UInt8) (h : escM t = none) (n : Nat) (hn : n = if t.isEmpty ∨ byteAt t 0 = 10 then 0 else (dec t).2) : textR r (92 :: t) = ((textR false (t.drop n)).1 + (1 + n), (textR false (t.drop n)).2) := by
  have e : textF t.length false (t.drop n) = textF (t.drop n).length false (t.drop n) := textF_fuel _ _ _ _ (by rw [List.length_drop]; omega) (Nat.le_refl _)
  simp only [textR, List.length_cons, textF, if_neg (by decide : ¬ (92 : UInt8) = 10), if_neg (by decide : ¬ (92 : UInt8) = 34), if_true, h, ← hn, e]

/-- the bytes of a character behind its first one -/
theorem dec_rest (l : List UInt8) (j : Nat) (h1 : 1 ≤ j) (h2 : j < (dec l).2) : ∃ b, l[j]? = some b ∧ b ≠ 10 ∧ b ≠ 34 ∧ b ≠ 92 := by
  obtain ⟨h3, h4⟩ := (dec_size l).2.2 j h1 h2
  have hb : l[j]? = some l[j] := List.getElem?_eq_getElem h3
  refine ⟨l[j], hb, ?_⟩
  have : byteAt l j = l[j].toNat := by unfold byteAt; rw [hb]; rfl
  rw [this] at h4
  refine ⟨?_, ?_, ?_⟩ <;> intro e <;> rw [e] at h4 <;> simp at h4

/-- a row of plain bytes -/
theorem textR_many (r : Bool) : ∀ (n : Nat) (l : List UInt8), (∀ j, j < n → ∃ b, l[j]? = some b ∧ b ≠ 10 ∧ b ≠ 34 ∧ b ≠ 92) → textR r l = ((textR r (l.drop n)).1 + n, (textR r (l.drop n)).2)
  | 0, l, _ => by simp
  | n + 1, l, h => by
    obtain ⟨b, hb, h1, h2, h3⟩ := h 0 (by omega)
    cases l with
    | nil => simp at hb
    | cons a t =>
      simp at hb; subst hb
      rw [textR_plain r a t h1 h2 h3, textR_many r n t (fun j hj => by simpa using h (j + 1) (by omega))]
      simp only [List.drop_succ_cons]
      rw [Nat.add_assoc]

theorem textR_char (r : Bool) (l : List UInt8) (h : ∃ b, l[0]? = some b ∧ b ≠ 10 ∧ b ≠ 34 ∧ b ≠ 92) : textR r l = ((textR r (l.drop (dec l).2)).1 + (dec l).2, (textR r (l.drop (dec l).2)).2) :=
  textR_many r _ l fun j hj => by
    rcases Nat.eq_zero_or_pos j with rfl | hj0
    · exact h
    · exact dec_rest l j hj0 hj

theorem tw_skip (n : Nat) (l : List UInt8) (hn : n ≤ l.length) (h : (10 : UInt8) ∉ l.take n) : (l.takeWhile (· != 10)).length = n + ((l.drop n).takeWhile (· != 10)).length := by
  induction n generalizing l with
  | zero => simp
  | succ n ih =>
    cases l with
    | nil => simp at hn
    | cons a t =>
      rw [List.take_succ_cons, List.mem_cons, not_or] at h
      have ha : (a != 10) = true := by simp; exact fun e => h.1 e.symm
      rw [List.takeWhile_cons, if_pos ha, List.length_cons, List.drop_succ_cons, ih t (by simpa using hn) h.2]
      omega

/-- a text that is not closed ends with its line; what is taken lies within -/
theorem textR_line : ∀ (n : Nat) (l : List UInt8) (r : Bool), l.length = n → (textR r l).1 ≤ l.length ∧ ((textR r l).2.1 = false → (textR r l).1 = (l.takeWhile (· != 10)).length) ∧ ((textR r l).2.1 = true → 1 ≤ (textR r l).1) := by
  intro n
  induction n using Nat.strongRecOn with
  | _ n ih =>
    intro l r hl
    cases l with
    | nil => simp [textR_nil]
    | cons a t =>
      simp only [List.length_cons] at hl
      by_cases h1 : a = 10
      · subst h1; rw [textR_end]; simp
      · by_cases h2 : a = 34
        · subst h2; rw [textR_shut]; simp
        · by_cases h3 : a = 92
          · subst h3
            have key : ∀ (k : Nat) (b : Bool), k ≤ t.length → (10 : UInt8) ∉ t.take k → textR r (92 :: t) = ((textR b (t.drop k)).1 + (1 + k), (textR b (t.drop k)).2) → _ := fun k b hk hno he => by
              obtain ⟨i1, i2, i3⟩ := ih (t.drop k).length (by rw [List.length_drop]; omega) (t.drop k) b rfl
              have hw := tw_skip k t hk hno
              show (textR r (92 :: t)).1 ≤ (92 :: t).length ∧ ((textR r (92 :: t)).2.1 = false → (textR r (92 :: t)).1 = ((92 :: t).takeWhile (· != 10)).length) ∧ ((textR r (92 :: t)).2.1 = true → 1 ≤ (textR r (92 :: t)).1)
              rw [he]
              rw [List.length_drop] at i1
              refine ⟨by simp only [List.length_cons]; omega, fun hf => ?_, fun _ => by simp only; omega⟩
              rw [List.takeWhile_cons, if_pos (by decide), List.length_cons, hw, ← i2 hf]
              simp only; omega
            cases he : escM t with
            | some x =>
              obtain ⟨c, k⟩ := x
              obtain ⟨k1, k2, k3⟩ := esc_le t c k he
              exact key k r k2 k3 (textR_esc r t c k he)
            | none =>
              refine key (if t.isEmpty ∨ byteAt t 0 = 10 then 0 else (dec t).2) false ?_ ?_ (textR_bad r t he _ rfl)
              · split
                · omega
                · rename_i h; exact dec_le t (by intro e; exact h (Or.inl (by rw [e]; rfl)))
              · split
                · simp
                · rename_i h
                  intro hm
                  obtain ⟨j, hj, hjb⟩ := List.getElem_of_mem hm
                  rw [List.length_take] at hj
                  rw [List.getElem_take] at hjb
                  rcases Nat.eq_zero_or_pos j with rfl | hj0
                  · refine h (Or.inr ?_)
                    unfold byteAt
                    rw [List.getElem?_eq_getElem (by omega), hjb]; rfl
                  · obtain ⟨b, hb, hb1, _⟩ := dec_rest t j hj0 (by omega)
                    rw [List.getElem?_eq_getElem (by omega), hjb] at hb
                    injection hb with hb
                    exact hb1 hb.symm
          · obtain ⟨i1, i2, i3⟩ := ih t.length (by omega) t r rfl
            rw [textR_plain r a t h1 h2 h3]
            refine ⟨by simp only [List.length_cons]; omega, fun hf => ?_, fun _ => by simp only; omega⟩
            have ha : (a != 10) = true := by simp [h1]
            rw [List.takeWhile_cons, if_pos ha, List.length_cons, ← i2 hf]

theorem prefix_two {a b : UInt8} {l : List UInt8} (h : [a, b].isPrefixOf l = true) : ∃ t, l = a :: b :: t := by
  rcases l with _ | ⟨x, _ | ⟨y, t⟩⟩
  · simp [List.isPrefixOf] at h
  · simp [List.isPrefixOf] at h
  · simp [List.isPrefixOf] at h
    exact ⟨t, by rw [h.1, h.2]⟩

theorem run_pos (p : Nat → Bool) {l : List UInt8} (hl : l ≠ []) (hp : p (dec l).1 = true) : 1 ≤ run p l := by
  rw [run_go p hl hp]
  have := (dec_size l).1
  omega

/-- a token has at least one byte, lies within its text, and is of a kind from 1 to 8 -/
theorem one_le (l : List UInt8) (hl : l ≠ []) : 1 ≤ (oneM l).2 ∧ (oneM l).2 ≤ l.length ∧ 1 ≤ (oneM l).1 ∧ (oneM l).1 ≤ 8 := by
  have h0 : 0 < l.length := List.length_pos_iff.2 hl
  unfold oneM
  split
  · rename_i h
    exact ⟨run_pos _ hl h, run_le _ _ l rfl, by simp, by simp⟩
  split
  · rename_i h
    obtain ⟨t, rfl⟩ := prefix_two h
    refine ⟨?_, ?_, by simp, by simp⟩
    · simp
    · exact (List.takeWhile_sublist _).length_le
  split
  · rename_i h
    obtain ⟨t, rfl⟩ := prefix_two h
    split
    · rename_i k hk
      have := remM_le _ _ _ hk
      simp only [List.drop_succ_cons, List.drop_zero, List.length_cons] at this ⊢
      omega
    · exact ⟨h0, Nat.le_refl _, by simp, by simp⟩
  split
  · rename_i h
    refine ⟨run_pos _ hl (by unfold bothB; rw [h]; rfl), run_le _ _ l rfl, ?_, ?_⟩ <;> simp only <;> split <;> omega
  split
  · rename_i h
    refine ⟨run_pos _ hl h, run_le _ _ l rfl, ?_, ?_⟩ <;> simp only <;> split <;> omega
  split
  · have h1 := (textR_line _ (l.drop 1) true rfl).1
    rw [List.length_drop] at h1
    have e : textM (l.drop 1) = textR true (l.drop 1) := rfl
    rw [e]
    refine ⟨by simp only; omega, by simp only; omega, ?_, ?_⟩ <;> simp only <;> split <;> omega
  split
  · rename_i h
    refine ⟨h, ?_, by simp, by simp⟩
    unfold signM
    split
    · rename_i h2
      have : ∃ a b t, l = a :: b :: t := by
        unfold twoM at h2
        simp only [Bool.or_eq_true] at h2
        rcases h2 with (h2 | h2) | h2 <;> (obtain ⟨t, rfl⟩ := prefix_two h2; exact ⟨_, _, t, rfl⟩)
      obtain ⟨a, b, t, rfl⟩ := this
      simp
    · split
      · simp
      · split <;> simp
  · exact ⟨(dec_size l).1, dec_le l hl, by simp, by simp⟩

theorem tokF_fuel : ∀ (f g at_ : Nat) (l : List UInt8), l.length ≤ f → l.length ≤ g → tokF f at_ l = tokF g at_ l
  | 0, 0, _, _, _, _ => rfl
  | 0, g + 1, _, l, h, _ => by
    have : l = [] := List.eq_nil_of_length_eq_zero (by omega)
    subst this; simp [tokF]
  | f + 1, 0, _, l, _, h => by
    have : l = [] := List.eq_nil_of_length_eq_zero (by omega)
    subst this; simp [tokF]
  | f + 1, g + 1, at_, l, h1, h2 => by
    simp only [tokF]
    cases hl : l.isEmpty with
    | true => rfl
    | false =>
      have := (one_le l (by intro e; rw [e] at hl; simp at hl)).1
      rw [tokF_fuel f g _ (l.drop (oneM l).2) (by rw [List.length_drop]; omega) (by rw [List.length_drop]; omega)]
/-- the tokens from a place on -/
def tokR (at_ : Nat) (l : List UInt8) : List (Nat × Nat × Nat) := tokF l.length at_ l
theorem tokR_nil (at_ : Nat) : tokR at_ [] = [] := rfl
theorem tokR_cons (at_ : Nat) {l : List UInt8} (hl : l ≠ []) : tokR at_ l = ((oneM l).1, at_, (oneM l).2) :: tokR (at_ + (oneM l).2) (l.drop (oneM l).2) := by
  have h0 : 0 < l.length := List.length_pos_iff.2 hl
  have h1 := (one_le l hl).1
  unfold tokR
  obtain ⟨f, hf⟩ : ∃ f, l.length = f + 1 := ⟨l.length - 1, by omega⟩
  rw [hf]
  simp only [tokF]
  rw [if_neg (by simpa using hl), tokF_fuel f (l.drop (oneM l).2).length _ _ (by rw [List.length_drop]; omega) (Nat.le_refl _)]

end Go.Proofs.YtgpjcjnimheglaaGreatDoor.Lx
