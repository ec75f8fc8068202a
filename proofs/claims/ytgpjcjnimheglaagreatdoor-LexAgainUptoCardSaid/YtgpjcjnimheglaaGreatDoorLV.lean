/-
  PLAIN LAW OF LexAgain: the loops of Kept and of Stay, and what they come to.
-/
import Derived.Test.YtgpjcjnimheglaaGreatDoorLO
namespace Go.Proofs.YtgpjcjnimheglaaGreatDoor.Lx

/-- how many of the old tokens stay ahead -/
def headM (T : List (Nat × Nat × Nat)) (frm : Nat) : Nat := (T.takeWhile fun t => decide (t.2.1 + t.2.2 + 4 ≤ frm)).length
/-- the number of the old token that begins where the new ones end -/
def tailM (T : List (Nat × Nat × Nat)) (lim til e : Nat) : Nat := (T.takeWhile fun t => t.2.1 + lim != e + til).length

theorem while_len {α : Type} (p : α → Bool) : ∀ (T : List α) (k : Nat), k ≤ T.length → (∀ j (h : j < T.length), j < k → p T[j] = true) → (∀ h : k < T.length, p T[k] = false) → (T.takeWhile p).length = k
  | [], k, hk, _, _ => by simp at hk; simp [hk]
  | a :: T, 0, _, _, hx => by
    have := hx (by simp)
    simp only [List.getElem_cons_zero] at this
    simp [this]
  | a :: T, k + 1, hk, hj, hx => by
    have := hj 0 (by simp) (by omega)
    simp only [List.getElem_cons_zero] at this
    rw [List.takeWhile_cons, if_pos this, List.length_cons]
    rw [while_len p T k (by simpa using hk) (fun j h hjk => by
      have := hj (j + 1) (by simp; omega) (by omega)
      simpa using this) (fun h => by
      have := hx (by simp; omega)
      simpa using this)]
theorem while_le {α : Type} (p : α → Bool) (T : List α) : (T.takeWhile p).length ≤ T.length := (List.takeWhile_prefix p).length_le
theorem while_at {α : Type} (p : α → Bool) (T : List α) (j : Nat) (hj : j < T.length) (h : j < (T.takeWhile p).length) : p T[j] = true := by
  have hp : T.takeWhile p <+: T := List.takeWhile_prefix _
  have : (T.takeWhile p)[j] = T[j] := hp.getElem h
  rw [← this]
  exact List.all_eq_true.1 List.all_takeWhile _ (List.getElem_mem _)
theorem headM_le (T : List (Nat × Nat × Nat)) (frm : Nat) : headM T frm ≤ T.length := while_le _ T
theorem headM_at (T : List (Nat × Nat × Nat)) (frm j : Nat) (hj : j < T.length) (h : j < headM T frm) : T[j].2.1 + T[j].2.2 + 4 ≤ frm :=
  of_decide_eq_true (while_at (fun t : Nat × Nat × Nat => decide (t.2.1 + t.2.2 + 4 ≤ frm)) T j hj h)
theorem headM_eq (T : List (Nat × Nat × Nat)) (frm k : Nat) (hk : k ≤ T.length) (h : ∀ j (hj : j < T.length), j < k → T[j].2.1 + T[j].2.2 + 4 ≤ frm) (hx : ∀ h : k < T.length, ¬ T[k].2.1 + T[k].2.2 + 4 ≤ frm) : headM T frm = k :=
  while_len _ T k hk (fun j hj hjk => decide_eq_true (h j hj hjk)) (fun hh => decide_eq_false (hx hh))
theorem tailM_le (T : List (Nat × Nat × Nat)) (lim til e : Nat) : tailM T lim til e ≤ T.length := while_le _ T
theorem tailM_eq (T : List (Nat × Nat × Nat)) (lim til e k : Nat) (hk : k ≤ T.length) (h : ∀ j (hj : j < T.length), j < k → T[j].2.1 + lim ≠ e + til) (hx : ∀ h : k < T.length, T[k].2.1 + lim = e + til) : tailM T lim til e = k :=
  while_len _ T k hk (fun j hj hjk => by simpa using h j hj hjk) (fun hh => by simpa using hx hh)

section
variable (s : List UInt8) (frm til : Nat) (ins : List UInt8)
/-- where the tokens end that stay ahead -/
def at0M : Nat := endM 0 ((tokR 0 s).take (headM (tokR 0 s) frm))
/-- what is looked at anew -/
def anewM : List (Nat × Nat × Nat) := newR (tokR 0 s) (frm + ins.length) til (at0M s frm) ((nowM s frm til ins).drop (at0M s frm))
/-- from which one of the old tokens on they stay behind -/
def behindM : Nat := tailM (tokR 0 s) (frm + ins.length) til (endM (at0M s frm) (anewM s frm til ins))

theorem now_len (h1 : frm ≤ til) (h2 : til ≤ s.length) : (nowM s frm til ins).length = frm + ins.length + (s.length - til) := by
  unfold nowM
  rw [List.length_append, List.length_append, List.length_take, List.length_drop]
  omega
theorem tok_lt (a j : Nat) (h : j < (tokR a s).length) : (tokR a s)[j].2.1 - a < s.length := (tokR_tail j s a h).2.1
theorem at0_le (hf : frm ≤ s.length) (til : Nat) (ins : List UInt8) : at0M s frm ≤ frm :=
  (now_head s frm til ins hf (headM (tokR 0 s) frm) (headM_le _ _) (fun j hj h => headM_at _ frm j hj h)).2

/-- what the loop over the new tokens keeps -/
structure Kp (at_ tail : Nat) (acc : List (Nat × Nat × Nat)) : Prop where
  le : at_ ≤ (nowM s frm til ins).length
  tl : tail ≤ (tokR 0 s).length
  tok : tokR (at0M s frm) ((nowM s frm til ins).drop (at0M s frm)) = acc ++ tokR at_ ((nowM s frm til ins).drop at_)
  new : anewM s frm til ins = acc ++ newR (tokR 0 s) (frm + ins.length) til at_ ((nowM s frm til ins).drop at_)
  fin : endM (at0M s frm) acc = at_
  lo : ∀ j (h : j < (tokR 0 s).length), j < tail → (tokR 0 s)[j].2.1 < til ∨ (tokR 0 s)[j].2.1 + (frm + ins.length) < at_ + til

variable {s frm til ins}
theorem endM_snoc (a : Nat) (T : List (Nat × Nat × Nat)) (t : Nat × Nat × Nat) : endM a (T ++ [t]) = t.2.1 + t.2.2 := by
  unfold endM; simp
theorem Kp.start (h1 : frm ≤ til) (h2 : til ≤ s.length) : Kp s frm til ins (at0M s frm) (headM (tokR 0 s) frm) [] := by
  have h3 := at0_le s frm (by omega) til ins
  have hl := now_len s frm til ins h1 h2
  refine ⟨by omega, headM_le _ _, rfl, rfl, rfl, fun j hj h => ?_⟩
  have := headM_at _ frm j hj h
  omega
theorem Kp.less {at_ tail : Nat} {acc : List (Nat × Nat × Nat)} (h : Kp s frm til ins at_ tail acc) (_hl : frm + ins.length ≤ at_) (ht : tail < (tokR 0 s).length) (hh : (tokR 0 s)[tail].2.1 < til ∨ (tokR 0 s)[tail].2.1 + (frm + ins.length) < at_ + til) : Kp s frm til ins at_ (tail + 1) acc :=
  ⟨h.le, ht, h.tok, h.new, h.fin, fun j hj hjt => by
    by_cases he : j = tail
    · subst he; exact hh
    · exact h.lo j hj (by omega)⟩
theorem Kp.next {at_ tail : Nat} {acc : List (Nat × Nat × Nat)} (h : Kp s frm til ins at_ tail acc) (hs : stopB (tokR 0 s) (frm + ins.length) til at_ = false) (hlt : at_ < (nowM s frm til ins).length) :
    Kp s frm til ins (at_ + (oneM ((nowM s frm til ins).drop at_)).2) tail (acc ++ [((oneM ((nowM s frm til ins).drop at_)).1, at_, (oneM ((nowM s frm til ins).drop at_)).2)]) := by
  have hne : (nowM s frm til ins).drop at_ ≠ [] := by intro e; have := congrArg List.length e; rw [List.length_drop, List.length_nil] at this; omega
  have h1 := one_le _ hne
  rw [List.length_drop] at h1
  refine ⟨by omega, h.tl, ?_, ?_, ?_, fun j hj hjt => ?_⟩
  · rw [h.tok, tokR_cons at_ hne, List.drop_drop]; simp
  · rw [h.new, newR_go _ _ _ _ hs hne, List.drop_drop]; simp
  · rw [endM_snoc]
  · rcases h.lo j hj hjt with h | h <;> omega
theorem Kp.go_low {at_ : Nat} (hl : ¬ frm + ins.length ≤ at_) : stopB (tokR 0 s) (frm + ins.length) til at_ = false := by
  unfold stopB
  rw [decide_eq_false hl, Bool.false_and]
theorem Kp.go_on {at_ tail : Nat} {acc : List (Nat × Nat × Nat)} (h : Kp s frm til ins at_ tail acc) (hl : frm + ins.length ≤ at_)
    (hex : ∀ h : tail < (tokR 0 s).length, til ≤ (tokR 0 s)[tail].2.1 ∧ at_ + til ≤ (tokR 0 s)[tail].2.1 + (frm + ins.length))
    (hne : ∀ h : tail < (tokR 0 s).length, (tokR 0 s)[tail].2.1 + (frm + ins.length) ≠ at_ + til) : stopB (tokR 0 s) (frm + ins.length) til at_ = false := by
  cases hb : stopB (tokR 0 s) (frm + ins.length) til at_ with
  | false => rfl
  | true =>
    obtain ⟨h1, h2⟩ := (stop_at hl h.lo hex).1 hb
    exact absurd h2 (hne h1)
/-- where the loop ends -/
theorem Kp.done {at_ tail : Nat} {acc : List (Nat × Nat × Nat)} (h : Kp s frm til ins at_ tail acc) (h1 : frm ≤ til) (h2 : til ≤ s.length) (hl : frm + ins.length ≤ at_)
    (hex : ∀ h : tail < (tokR 0 s).length, til ≤ (tokR 0 s)[tail].2.1 ∧ at_ + til ≤ (tokR 0 s)[tail].2.1 + (frm + ins.length))
    (he : (∃ h : tail < (tokR 0 s).length, (tokR 0 s)[tail].2.1 + (frm + ins.length) = at_ + til) ∨ at_ = (nowM s frm til ins).length) :
    tokR 0 (nowM s frm til ins) = (tokR 0 s).take (headM (tokR 0 s) frm) ++ acc ++ ((tokR 0 s).drop tail).map (fun t => (t.1, t.2.1 + (frm + ins.length) - til, t.2.2)) ∧
      anewM s frm til ins = acc ∧ behindM s frm til ins = tail ∧ (∀ j (hj : j < (tokR 0 s).length), tail ≤ j → til ≤ (tokR 0 s)[j].2.1 + (frm + ins.length)) := by
  have hlen := now_len s frm til ins h1 h2
  have hnow := now_head s frm til ins (by omega) (headM (tokR 0 s) frm) (headM_le _ _) (fun j hj h => headM_at _ frm j hj h)
  have hno : at_ = (nowM s frm til ins).length → ¬ tail < (tokR 0 s).length := by
    intro e ht
    have := hex ht
    have h4 := tok_lt s 0 tail ht
    omega
  have htok : tokR at_ ((nowM s frm til ins).drop at_) = ((tokR 0 s).drop tail).map (fun t => (t.1, t.2.1 + (frm + ins.length) - til, t.2.2)) := by
    rcases he with ⟨ht, e⟩ | e
    · exact stop_rest (fun k => now_drop s frm til ins (by omega) k) hl ht e
    · have h3 := hno e
      rw [List.drop_of_length_le (by omega), List.drop_of_length_le (by omega), tokR_nil]; rfl
  have hnew : newR (tokR 0 s) (frm + ins.length) til at_ ((nowM s frm til ins).drop at_) = [] := by
    rcases he with ⟨ht, e⟩ | e
    · exact newR_stop _ _ _ _ _ ((stop_at hl h.lo hex).2 ⟨ht, e⟩)
    · rw [List.drop_of_length_le (by omega), newR_nil]
  have hacc : anewM s frm til ins = acc := by rw [h.new, hnew, List.append_nil]
  refine ⟨?_, hacc, ?_, ?_⟩
  · rw [hnow.1]
    have : tokR (at0M s frm) ((nowM s frm til ins).drop (at0M s frm)) = _ := h.tok
    unfold at0M at this
    rw [this, htok, List.append_assoc]
  · unfold behindM
    rw [hacc, h.fin]
    refine tailM_eq _ _ _ _ _ h.tl (fun j hj hjt e => ?_) (fun ht => ?_)
    · rcases h.lo j hj hjt with h | h <;> omega
    · rcases he with ⟨_, e⟩ | e
      · exact e
      · exact absurd ht (hno e)
  · intro j hj hjt
    have ht : tail < (tokR 0 s).length := by omega
    have := hex ht
    rcases Nat.lt_or_ge tail j with h | h
    · have := tokR_sorted s 0 tail j hj h
      omega
    · obtain rfl : tail = j := by omega
      omega

/-- what the document's loop keeps -/
theorem stay_stop {at_ k : Nat} {acc : List (Nat × Nat × Nat)} (hnew : anewM s frm til ins = acc ++ newR (tokR 0 s) (frm + ins.length) til at_ ((nowM s frm til ins).drop at_)) (hfin : endM (at0M s frm) acc = at_)
    (hl : frm + ins.length ≤ at_) (hk : k < (tokR 0 s).length) (he : (tokR 0 s)[k].2.1 + (frm + ins.length) = at_ + til) : anewM s frm til ins = acc ∧ behindM s frm til ins = k := by
  have hs : stopB (tokR 0 s) (frm + ins.length) til at_ = true := by
    unfold stopB
    rw [decide_eq_true hl, Bool.true_and, List.any_eq_true]
    exact ⟨_, List.getElem_mem hk, by simp; omega⟩
  have hacc : anewM s frm til ins = acc := by rw [hnew, newR_stop _ _ _ _ _ hs, List.append_nil]
  refine ⟨hacc, ?_⟩
  unfold behindM
  rw [hacc, hfin]
  refine tailM_eq _ _ _ _ _ (by omega) (fun j hj hjt e => ?_) (fun _ => he)
  have := tokR_sorted s 0 j k hk hjt
  omega
theorem stay_go {at_ : Nat} (hno : ∀ j (hj : j < (tokR 0 s).length), (tokR 0 s)[j].2.1 + (frm + ins.length) ≠ at_ + til) : stopB (tokR 0 s) (frm + ins.length) til at_ = false := by
  cases hb : stopB (tokR 0 s) (frm + ins.length) til at_ with
  | false => rfl
  | true =>
    exfalso
    unfold stopB at hb
    rw [Bool.and_eq_true, decide_eq_true_eq, List.any_eq_true] at hb
    obtain ⟨hl, t, hm, he⟩ := hb
    obtain ⟨j, hj, rfl⟩ := List.getElem_of_mem hm
    have he : (tokR 0 s)[j].2.1 = at_ - (frm + ins.length) + til := by simpa using he
    exact hno j hj (by omega)
theorem stay_end {at_ : Nat} {acc : List (Nat × Nat × Nat)} (hnew : anewM s frm til ins = acc ++ newR (tokR 0 s) (frm + ins.length) til at_ ((nowM s frm til ins).drop at_)) (hfin : endM (at0M s frm) acc = at_)
    (h1 : frm ≤ til) (h2 : til ≤ s.length) (he : at_ = (nowM s frm til ins).length) : anewM s frm til ins = acc ∧ behindM s frm til ins = (tokR 0 s).length := by
  have hlen := now_len s frm til ins h1 h2
  have hacc : anewM s frm til ins = acc := by rw [hnew, List.drop_of_length_le (by omega), newR_nil, List.append_nil]
  refine ⟨hacc, ?_⟩
  unfold behindM
  rw [hacc, hfin]
  refine tailM_eq _ _ _ _ _ (Nat.le_refl _) (fun j hj _ e => ?_) (fun h => absurd h (Nat.lt_irrefl _))
  have := tok_lt s 0 j hj
  omega
end
theorem endM_le (l : List UInt8) (a : Nat) : endM a (tokR a l) ≤ a + l.length := by
  have := (tokR_split (tokR a l).length l a (Nat.le_refl _)).2
  rw [List.take_length] at this
  omega
theorem Kp.reach {s : List UInt8} {frm til : Nat} {ins : List UInt8} : ∀ (n at_ tail : Nat) (acc : List (Nat × Nat × Nat)), (nowM s frm til ins).length - at_ ≤ n → Kp s frm til ins at_ tail acc →
    ∃ at' acc', Kp s frm til ins at' tail acc' ∧ (stopB (tokR 0 s) (frm + ins.length) til at' = true ∨ at' = (nowM s frm til ins).length)
  | 0, at_, tail, acc, hn, h => ⟨at_, acc, h, .inr (by have := h.le; omega)⟩
  | n + 1, at_, tail, acc, hn, h => by
    cases hs : stopB (tokR 0 s) (frm + ins.length) til at_ with
    | true => exact ⟨at_, acc, h, .inl hs⟩
    | false =>
      by_cases he : at_ = (nowM s frm til ins).length
      · exact ⟨at_, acc, h, .inr he⟩
      · have hlt : at_ < (nowM s frm til ins).length := by have := h.le; omega
        have hne : (nowM s frm til ins).drop at_ ≠ [] := by intro e; have := congrArg List.length e; rw [List.length_drop, List.length_nil] at this; omega
        have h1 := one_le _ hne
        exact Kp.reach n _ tail _ (by omega) (h.next hs hlt)
/-- how many tokens there are, by parts -/
theorem counts (s : List UInt8) (frm til : Nat) (ins : List UInt8) (h1 : frm ≤ til) (h2 : til ≤ s.length) :
    (tokR 0 (nowM s frm til ins)).length = headM (tokR 0 s) frm + (anewM s frm til ins).length + ((tokR 0 s).length - behindM s frm til ins) ∧ behindM s frm til ins ≤ (tokR 0 s).length := by
  obtain ⟨at', acc', hk, he⟩ := Kp.reach _ _ _ _ (Nat.le_refl _) (Kp.start (ins := ins) h1 h2)
  have hhl := headM_le (tokR 0 s) frm
  have hnow := (now_head s frm til ins (by omega) (headM (tokR 0 s) frm) hhl (fun j hj h => headM_at _ frm j hj h)).1
  have htok : tokR (endM 0 ((tokR 0 s).take (headM (tokR 0 s) frm))) ((nowM s frm til ins).drop (endM 0 ((tokR 0 s).take (headM (tokR 0 s) frm)))) = _ := hk.tok
  rw [htok] at hnow
  have hlen := congrArg List.length hnow
  rw [List.length_append, List.length_append, List.length_take, Nat.min_eq_left hhl] at hlen
  rcases he with hs | hs
  · have hs' := hs
    unfold stopB at hs'
    rw [Bool.and_eq_true, decide_eq_true_eq, List.any_eq_true] at hs'
    obtain ⟨hl, t, hm, he⟩ := hs'
    obtain ⟨k, hkl, rfl⟩ := List.getElem_of_mem hm
    have he : (tokR 0 s)[k].2.1 = at' - (frm + ins.length) + til := by simpa using he
    have he : (tokR 0 s)[k].2.1 + (frm + ins.length) = at' + til := by omega
    obtain ⟨e1, e2⟩ := stay_stop hk.new hk.fin hl hkl he
    rw [stop_rest (fun k => now_drop s frm til ins (by omega) k) hl hkl he, List.length_map, List.length_drop] at hlen
    rw [e1, e2]
    omega
  · obtain ⟨e1, e2⟩ := stay_end hk.new hk.fin h1 h2 hs
    rw [List.drop_of_length_le (by omega), tokR_nil, List.length_nil] at hlen
    rw [e1, e2]
    omega
theorem tok_end (s : List UInt8) (j : Nat) (hj : j < (tokR 0 s).length) : (tokR 0 s)[j].2.1 + (tokR 0 s)[j].2.2 ≤ s.length := by
  obtain ⟨_, _, h⟩ := tokR_split (j + 1) s 0 hj
  rw [endM_take 0 _ j hj] at h
  omega
theorem at0_zero (s : List UInt8) (frm : Nat) (h : headM (tokR 0 s) frm = 0) : at0M s frm = 0 := by
  unfold at0M; rw [h]; rfl
theorem at0_succ (s : List UInt8) (frm k : Nat) (h : headM (tokR 0 s) frm = k + 1) : ∃ hk : k < (tokR 0 s).length, at0M s frm = (tokR 0 s)[k].2.1 + (tokR 0 s)[k].2.2 := by
  have := headM_le (tokR 0 s) frm
  refine ⟨by omega, ?_⟩
  unfold at0M
  rw [h, endM_take 0 _ k (by omega)]
end Go.Proofs.YtgpjcjnimheglaaGreatDoor.Lx
