/-
  PLAIN LAW OF LexAgain: what is kept up is what would be made anew.
-/
import Derived.Test.YtgpjcjnimheglaaGreatDoorLN
namespace Go.Proofs.YtgpjcjnimheglaaGreatDoor.Lx

/-- tokens lie one behind the other -/
theorem tokR_next (l : List UInt8) (a k : Nat) (h : k + 1 < (tokR a l).length) : (tokR a l)[k + 1].2.1 = (tokR a l)[k].2.1 + (tokR a l)[k].2.2 ∧ 1 ≤ (tokR a l)[k].2.2 := by
  obtain ⟨i1, i2, i3⟩ := tokR_tail k l a (by omega)
  have hl : l.drop ((tokR a l)[k].2.1 - a) ≠ [] := by
    intro e; have := congrArg List.length e; rw [List.length_drop, List.length_nil] at this; omega
  have e := tokR_cons (tokR a l)[k].2.1 hl
  have h1 := one_le _ hl
  rw [← i3] at e
  have hk : ((tokR a l).drop k)[0]'(by simp; omega) = (tokR a l)[k] := by simp
  have hk1 : ((tokR a l).drop k)[1]'(by simp; omega) = (tokR a l)[k + 1] := by simp
  have e0 : (tokR a l)[k].2.2 = (oneM (l.drop ((tokR a l)[k].2.1 - a))).2 := by
    have : ((tokR a l).drop k)[0]? = some ((oneM (l.drop ((tokR a l)[k].2.1 - a))).1, (tokR a l)[k].2.1, (oneM (l.drop ((tokR a l)[k].2.1 - a))).2) := by rw [e]; rfl
    rw [List.getElem?_drop, Nat.add_zero, List.getElem?_eq_getElem (by omega)] at this
    have := congrArg (fun t => t.2.2) (Option.some.inj this)
    exact this
  have e1 : ((tokR a l).drop k)[1]? = (tokR ((tokR a l)[k].2.1 + (oneM (l.drop ((tokR a l)[k].2.1 - a))).2) ((l.drop ((tokR a l)[k].2.1 - a)).drop (oneM (l.drop ((tokR a l)[k].2.1 - a))).2))[0]? := by rw [e]; rfl
  rw [List.getElem?_drop, List.getElem?_eq_getElem (by omega)] at e1
  rw [e0]
  refine ⟨?_, by omega⟩
  by_cases hq : (l.drop ((tokR a l)[k].2.1 - a)).drop (oneM (l.drop ((tokR a l)[k].2.1 - a))).2 = []
  · rw [hq, tokR_nil] at e1; simp at e1
  · rw [tokR_cons _ hq] at e1
    simp only [List.getElem?_cons_zero, Option.some.injEq] at e1
    rw [e1]
theorem tokR_sorted (l : List UInt8) (a i : Nat) : ∀ (j : Nat) (hj : j < (tokR a l).length), (h : i < j) → (tokR a l)[i].2.1 < (tokR a l)[j].2.1
  | 0, _, h => by omega
  | j + 1, hj, h => by
    have h1 := tokR_next l a j hj
    by_cases he : i = j
    · subst he; omega
    · have := tokR_sorted l a i j (by omega) (by omega)
      omega

/-- does a token of the old text begin at a place behind what was put in? -/
def stopB (T : List (Nat × Nat × Nat)) (lim to at_ : Nat) : Bool := decide (lim ≤ at_) && T.any (fun t => t.2.1 == at_ - lim + to)
/-- what is looked at anew, from a place on -/
def newF (T : List (Nat × Nat × Nat)) (lim to : Nat) : Nat → Nat → List UInt8 → List (Nat × Nat × Nat)
  | 0, _, _ => []
  | f + 1, at_, l => if stopB T lim to at_ || l.isEmpty then [] else ((oneM l).1, at_, (oneM l).2) :: newF T lim to f (at_ + (oneM l).2) (l.drop (oneM l).2)
theorem newF_fuel (T : List (Nat × Nat × Nat)) (lim to : Nat) : ∀ (f g at_ : Nat) (l : List UInt8), l.length ≤ f → l.length ≤ g → newF T lim to f at_ l = newF T lim to g at_ l
  | 0, 0, _, _, _, _ => rfl
  | 0, g + 1, at_, l, h, _ => by
    have : l = [] := List.eq_nil_of_length_eq_zero (by omega)
    subst this; simp [newF]
  | f + 1, 0, at_, l, _, h => by
    have : l = [] := List.eq_nil_of_length_eq_zero (by omega)
    subst this; simp [newF]
  | f + 1, g + 1, at_, l, h1, h2 => by
    simp only [newF]
    split
    · rfl
    · rename_i hn
      have hl : l ≠ [] := by intro e; subst e; simp at hn
      have h3 := one_le l hl
      rw [newF_fuel T lim to f g _ (l.drop (oneM l).2) (by rw [List.length_drop]; omega) (by rw [List.length_drop]; omega)]
def newR (T : List (Nat × Nat × Nat)) (lim to at_ : Nat) (l : List UInt8) : List (Nat × Nat × Nat) := newF T lim to l.length at_ l
theorem newR_stop (T : List (Nat × Nat × Nat)) (lim to at_ : Nat) (l : List UInt8) (h : stopB T lim to at_ = true) : newR T lim to at_ l = [] := by
  unfold newR; cases l.length <;> simp [newF, h]
theorem newR_nil (T : List (Nat × Nat × Nat)) (lim to at_ : Nat) : newR T lim to at_ [] = [] := rfl
theorem newR_go (T : List (Nat × Nat × Nat)) (lim to at_ : Nat) {l : List UInt8} (h : stopB T lim to at_ = false) (hl : l ≠ []) :
    newR T lim to at_ l = ((oneM l).1, at_, (oneM l).2) :: newR T lim to (at_ + (oneM l).2) (l.drop (oneM l).2) := by
  have h0 := List.length_pos_iff.2 hl
  have h3 := one_le l hl
  unfold newR
  obtain ⟨f, hf⟩ : ∃ f, l.length = f + 1 := ⟨l.length - 1, by omega⟩
  rw [hf]
  simp only [newF, h]
  rw [if_neg (by simpa using hl), newF_fuel T lim to f (l.drop (oneM l).2).length _ _ (by rw [List.length_drop]; omega) (Nat.le_refl _)]

/-- where the loop over the old tokens stands: does one of them begin here? -/
theorem stop_at {s : List UInt8} {lim to at_ tail : Nat} (hat : lim ≤ at_) (hlo : ∀ j (h : j < (tokR 0 s).length), j < tail → (tokR 0 s)[j].2.1 < to ∨ (tokR 0 s)[j].2.1 + lim < at_ + to)
    (hex : ∀ h : tail < (tokR 0 s).length, to ≤ (tokR 0 s)[tail].2.1 ∧ at_ + to ≤ (tokR 0 s)[tail].2.1 + lim) :
    stopB (tokR 0 s) lim to at_ = true ↔ ∃ h : tail < (tokR 0 s).length, (tokR 0 s)[tail].2.1 + lim = at_ + to := by
  unfold stopB
  simp only [Bool.and_eq_true, decide_eq_true_eq, List.any_eq_true, beq_iff_eq]
  constructor
  · rintro ⟨_, t, hm, he⟩
    obtain ⟨j, hj, rfl⟩ := List.getElem_of_mem hm
    have htj : tail ≤ j := by
      rcases Nat.lt_or_ge j tail with h | h
      · rcases hlo j hj h with h | h <;> omega
      · exact h
    refine ⟨by omega, ?_⟩
    have := hex (by omega)
    rcases Nat.lt_or_ge tail j with h | h
    · have := tokR_sorted s 0 tail j hj h
      omega
    · obtain rfl : tail = j := by omega
      omega
  · rintro ⟨h, he⟩
    exact ⟨hat, _, List.getElem_mem h, by omega⟩
/-- from there on the old tokens stay -/
theorem stop_rest {s now : List UInt8} {lim to at_ tail : Nat} (hnow : ∀ k, now.drop (lim + k) = s.drop (to + k)) (hat : lim ≤ at_) (h : tail < (tokR 0 s).length) (he : (tokR 0 s)[tail].2.1 + lim = at_ + to) :
    tokR at_ (now.drop at_) = ((tokR 0 s).drop tail).map fun t => (t.1, t.2.1 + lim - to, t.2.2) := by
  obtain ⟨i1, i2, i3⟩ := tokR_tail tail s 0 h
  rw [i3]
  have e : now.drop at_ = s.drop ((tokR 0 s)[tail].2.1 - 0) := by
    have := hnow (at_ - lim)
    rw [show lim + (at_ - lim) = at_ by omega] at this
    rw [this]; congr 1; omega
  rw [e]
  have key : ∀ (m : Nat) (l : List UInt8) (p : Nat), l.length = m → to ≤ p + lim → (tokR p l).map (fun t => (t.1, t.2.1 + lim - to, t.2.2)) = tokR (p + lim - to) l := by
    intro m
    induction m using Nat.strongRecOn with
    | _ m ih =>
      intro l p hm hp
      by_cases hl : l = []
      · subst hl; simp [tokR_nil]
      · have h1 := one_le l hl
        rw [tokR_cons _ hl, tokR_cons _ hl, List.map_cons, ih (l.drop (oneM l).2).length (by rw [List.length_drop]; omega) _ _ rfl (by omega)]
        rw [show p + (oneM l).2 + lim - to = p + lim - to + (oneM l).2 by omega]
  rw [key _ _ _ rfl (by omega)]
  congr 1
  omega

/-- where tokens end -/
def endM (a : Nat) (T : List (Nat × Nat × Nat)) : Nat := match T.getLast? with
  | none => a
  | some t => t.2.1 + t.2.2
theorem endM_cons (a k n : Nat) (T : List (Nat × Nat × Nat)) : endM a ((k, a, n) :: T) = endM (a + n) T := by
  unfold endM
  rw [List.getLast?_cons]
  cases T.getLast? <;> rfl
theorem endM_take (a : Nat) (T : List (Nat × Nat × Nat)) (k : Nat) (h : k < T.length) : endM a (T.take (k + 1)) = T[k].2.1 + T[k].2.2 := by
  unfold endM
  rw [List.getLast?_eq_getElem?]
  have : (T.take (k + 1)).length - 1 = k := by rw [List.length_take]; omega
  rw [this, List.getElem?_take, if_pos (by omega), List.getElem?_eq_getElem h]
theorem tokR_split : ∀ (k : Nat) (l : List UInt8) (a : Nat), k ≤ (tokR a l).length →
    tokR a l = (tokR a l).take k ++ tokR (endM a ((tokR a l).take k)) (l.drop (endM a ((tokR a l).take k) - a)) ∧ a ≤ endM a ((tokR a l).take k) ∧ endM a ((tokR a l).take k) - a ≤ l.length
  | 0, l, a, _ => by simp [endM]
  | k + 1, l, a, h => by
    have hl : l ≠ [] := by intro e; subst e; simp [tokR_nil] at h
    have e := tokR_cons a hl
    have h1 := one_le l hl
    have hk : k ≤ (tokR (a + (oneM l).2) (l.drop (oneM l).2)).length := by rw [e] at h; simpa using h
    obtain ⟨i1, i2, i3⟩ := tokR_split k (l.drop (oneM l).2) (a + (oneM l).2) hk
    have ht : (tokR a l).take (k + 1) = ((oneM l).1, a, (oneM l).2) :: (tokR (a + (oneM l).2) (l.drop (oneM l).2)).take k := by rw [e, List.take_succ_cons]
    rw [ht, endM_cons]
    rw [List.length_drop] at i3
    refine ⟨?_, by omega, by omega⟩
    rw [e, List.cons_append]
    congr 1
    rw [List.drop_drop] at i1
    rw [show endM (a + (oneM l).2) ((tokR (a + (oneM l).2) (l.drop (oneM l).2)).take k) - a = (oneM l).2 + (endM (a + (oneM l).2) ((tokR (a + (oneM l).2) (l.drop (oneM l).2)).take k) - (a + (oneM l).2)) by omega]
    exact i1

/-- the text in which a piece is replaced -/
def nowM (s : List UInt8) (frm to : Nat) (ins : List UInt8) : List UInt8 := s.take frm ++ (ins ++ s.drop to)
theorem now_drop (s : List UInt8) (frm to : Nat) (ins : List UInt8) (h1 : frm ≤ s.length) (k : Nat) : (nowM s frm to ins).drop (frm + ins.length + k) = s.drop (to + k) := by
  unfold nowM
  rw [show frm + ins.length + k = frm + (ins.length + k) by omega, ← List.drop_drop, List.drop_append_of_le_length (by rw [List.length_take]; omega)]
  have e : (s.take frm).drop frm = [] := List.drop_of_length_le (by rw [List.length_take]; omega)
  rw [e, List.nil_append, ← List.drop_drop, List.drop_left, List.drop_drop]
/-- the tokens that stay ahead -/
theorem now_head (s : List UInt8) (frm to : Nat) (ins : List UInt8) (h1 : frm ≤ s.length) (h : Nat) (hh : h ≤ (tokR 0 s).length) (hk : ∀ j (hj : j < (tokR 0 s).length), j < h → (tokR 0 s)[j].2.1 + (tokR 0 s)[j].2.2 + 4 ≤ frm) :
    tokR 0 (nowM s frm to ins) = (tokR 0 s).take h ++ tokR (endM 0 ((tokR 0 s).take h)) ((nowM s frm to ins).drop (endM 0 ((tokR 0 s).take h))) ∧ endM 0 ((tokR 0 s).take h) ≤ frm := by
  have hx : (s.take frm).length = frm := by rw [List.length_take]; omega
  have es : s.take frm ++ s.drop frm = s := List.take_append_drop _ _
  have ht := tokR_head (s.drop frm) (ins ++ s.drop to) h (s.take frm) 0 (by rw [es]; exact hh) (by
    rw [es, hx]; intro j hj hjh; have := hk j hj hjh; omega)
  rw [es] at ht
  have ht : (tokR 0 (nowM s frm to ins)).take h = (tokR 0 s).take h := ht
  have hlen : h ≤ (tokR 0 (nowM s frm to ins)).length := by
    have := congrArg List.length ht
    rw [List.length_take, List.length_take] at this
    omega
  have := (tokR_split h (nowM s frm to ins) 0 hlen).1
  rw [ht] at this
  refine ⟨by simpa using this, ?_⟩
  cases h with
  | zero => simp [endM]
  | succ h =>
    rw [endM_take 0 _ h (by omega)]
    have := hk h (by omega) (by omega)
    omega
end Go.Proofs.YtgpjcjnimheglaaGreatDoor.Lx
