/-
  PLAIN LAW OF LexAgain: a token hangs on no more than four bytes behind it.
-/
import Derived.Test.YtgpjcjnimheglaaGreatDoorLQ
namespace Go.Proofs.YtgpjcjnimheglaaGreatDoor.Lx

theorem dec_near {x : List UInt8} (hx : 4 ≤ x.length) (u u' : List UInt8) : dec (x ++ u) = dec (x ++ u') := by
  have hb : ∀ k, k < 4 → ∀ v, byteAt (x ++ v) k = byteAt x k := fun k hk v => by
    unfold byteAt
    rw [List.getElem?_append_left (by omega)]
  have hc : ∀ k, k < 4 → ∀ v, contAt (x ++ v) k = contAt x k := fun k hk v => by
    unfold contAt
    rw [hb k hk, List.length_append]
    congr 1
    simp; omega
  unfold dec
  simp only [hb 0 (by omega), hb 1 (by omega), hb 2 (by omega), hb 3 (by omega), hc 1 (by omega), hc 2 (by omega), hc 3 (by omega)]

theorem run_near (p : Nat → Bool) (u u' : List UInt8) : ∀ (m : Nat) (x : List UInt8), x.length = m → run p (x ++ u) + 4 ≤ x.length → run p (x ++ u') = run p (x ++ u) := by
  intro m
  induction m using Nat.strongRecOn with
  | _ m ih =>
    intro x hx h
    have h4 : 4 ≤ x.length := by omega
    have hd := dec_near h4 u u'
    have hne : ∀ v, x ++ v ≠ [] := fun v e => by
      have h0 := congrArg List.length e
      rw [List.length_append, List.length_nil] at h0
      omega
    cases hp : p (dec (x ++ u)).1 with
    | false => rw [run_stop p hp, run_stop p (by rw [← hd]; exact hp)]
    | true =>
      obtain ⟨hs1, hs2, _⟩ := dec_size (x ++ u)
      rw [run_go p (hne u) hp] at h ⊢
      rw [run_go p (hne u') (by rw [← hd]; exact hp), ← hd]
      have e : ∀ v, (x ++ v).drop (dec (x ++ u)).2 = x.drop (dec (x ++ u)).2 ++ v := fun v => List.drop_append_of_le_length (by omega)
      rw [e] at h ⊢
      rw [e]
      rw [ih (x.drop (dec (x ++ u)).2).length (by rw [List.length_drop]; omega) _ rfl (by rw [List.length_drop]; omega)]

theorem while_near (p : UInt8 → Bool) (u u' : List UInt8) : ∀ x : List UInt8, ((x ++ u).takeWhile p).length < x.length → ((x ++ u').takeWhile p).length = ((x ++ u).takeWhile p).length
  | [], h => by simp at h
  | a :: t, h => by
    simp only [List.cons_append, List.takeWhile_cons] at h ⊢
    cases hp : p a with
    | false => simp
    | true =>
      simp only [hp, if_true, List.length_cons] at h ⊢
      rw [while_near p u u' t (by omega)]

theorem rem_near (u u' : List UInt8) : ∀ (m : Nat) (x : List UInt8) (d k : Nat), x.length = m → remM d (x ++ u) = some k → k ≤ x.length → remM d (x ++ u') = some k := by
  intro m
  induction m using Nat.strongRecOn with
  | _ m ih =>
    intro x d k hm h hk
    have h2 := (remM_le _ _ _ h).1
    match x, hm, h, hk with
    | [], _, _, hk => simp at hk; omega
    | [_], _, _, hk => simp at hk; omega
    | a :: b :: t, hm, h, hk =>
      simp only [List.cons_append, remM] at h ⊢
      simp only [List.length_cons] at hm hk
      split
      · rename_i e
        rw [if_pos e] at h
        obtain ⟨k', h1, h3⟩ := Option.map_eq_some_iff.1 h
        have := ih t.length (by omega) t _ k' rfl h1 (by omega)
        rw [this]; simp [h3]
      · rename_i e
        rw [if_neg e] at h
        split
        · rename_i e2
          rw [if_pos e2] at h
          split
          · rename_i e3; rw [if_pos e3] at h; exact h
          · rename_i e3
            rw [if_neg e3] at h
            obtain ⟨k', h1, h3⟩ := Option.map_eq_some_iff.1 h
            have := ih t.length (by omega) t _ k' rfl h1 (by omega)
            rw [this]; simp [h3]
        · rename_i e2
          rw [if_neg e2] at h
          obtain ⟨k', h1, h3⟩ := Option.map_eq_some_iff.1 h
          have := ih (b :: t).length (by simp; omega) (b :: t) _ k' rfl h1 (by simp; omega)
          rw [List.cons_append] at this
          rw [this]; simp [h3]

/-- a wrong escape: the character behind the sign makes no difference -/
theorem textR_bad' (r : Bool) (t : List UInt8) (h : escM t = none) : textR r (92 :: t) = ((textR false t).1 + 1, (textR false t).2) := by
  rw [textR_bad r t h _ rfl]
  split
  · simp
  · rename_i hn
    simp only [not_or] at hn
    match t, h, hn with
    | [], _, hn => simp at hn
    | a :: q, h, hn =>
      have h10 : a ≠ 10 := fun e => hn.2 (by subst e; rfl)
      have hesc : a ≠ 34 ∧ a ≠ 92 := by
        constructor <;> (intro e; subst e; simp [escM] at h)
      rw [textR_char false (a :: q) ⟨a, rfl, h10, hesc.1, hesc.2⟩]
      simp; omega

theorem code_post (r u : List UInt8) (c m : Nat) (h : codeM r = some (c, m)) : codeM (r ++ u) = some (c, m) := by
  match r, h with
  | [], h => simp [codeM] at h
  | a :: q, h =>
    simp only [List.cons_append, codeM] at h ⊢
    split at h
    · cases h
    rename_i ha
    split at h
    · cases h
    rename_i h1
    have h1 : (125 : UInt8) ∈ q := by simpa using h1
    obtain ⟨t, ht⟩ := take_while_at q h1
    have e : (q ++ u).takeWhile (· != 125) = q.takeWhile (· != 125) := by
      have : ((q.takeWhile (· != 125) ++ 125 :: t) ++ u).takeWhile (· != 125) = q.takeWhile (· != 125) := by
        rw [List.append_assoc, List.takeWhile_append_of_pos]
        · simp
        · intro b hb; exact List.all_eq_true.1 List.all_takeWhile b hb
      rwa [← ht] at this
    rw [if_neg ha, if_neg (by simp [h1]), e]
    exact h
theorem esc_post (t u : List UInt8) (c n : Nat) (h : escM t = some (c, n)) : escM (t ++ u) = some (c, n) := by
  match t, h with
  | [], h => simp [escM] at h
  | a :: r, h =>
    simp only [List.cons_append, escM] at h ⊢
    split
    · rename_i e; rw [if_pos e] at h; exact h
    rename_i e1; rw [if_neg e1] at h
    split
    · rename_i e; rw [if_pos e] at h; exact h
    rename_i e2; rw [if_neg e2] at h
    split
    · rename_i e; rw [if_pos e] at h; exact h
    rename_i e3; rw [if_neg e3] at h
    split
    · rename_i e
      rw [if_pos e] at h
      obtain ⟨⟨c', m⟩, h1, h2⟩ := Option.map_eq_some_iff.1 h
      rw [code_post r u c' m h1]
      exact congrArg some h2
    · rename_i e; rw [if_neg e] at h; cases h

theorem esc_hex (t u : List UInt8) (c k : Nat) (h : escM (t ++ u) = some (c, k)) (hk : t.length < k) : ∀ j, j < t.length → ∃ b, t[j]? = some b ∧ b ≠ 10 ∧ b ≠ 34 ∧ b ≠ 92 := by
  match t, h, hk with
  | [], _, _ => intro j hj; simp at hj
  | a :: r, h, hk =>
    simp only [List.cons_append, escM] at h
    simp only [List.length_cons] at hk
    split at h
    · simp only [Option.some.injEq, Prod.mk.injEq] at h; omega
    split at h
    · simp only [Option.some.injEq, Prod.mk.injEq] at h; omega
    split at h
    · simp only [Option.some.injEq, Prod.mk.injEq] at h; omega
    split at h
    · rename_i e
      have e : a = 117 := e
      subst e
      obtain ⟨⟨c', m⟩, h1, h2⟩ := Option.map_eq_some_iff.1 h
      simp only [Prod.mk.injEq] at h2
      match r, h1, hk with
      | [], _, _ =>
        intro j hj
        obtain rfl : j = 0 := by simp at hj; exact hj
        exact ⟨117, rfl, by decide, by decide, by decide⟩
      | b :: q, h1, hk =>
        simp only [List.cons_append, codeM] at h1
        split at h1
        · cases h1
        rename_i hb
        split at h1
        · cases h1
        split at h1
        · cases h1
        split at h1
        · cases h1
        rename_i n hn
        split at h1
        · cases h1
        simp only [Option.some.injEq, Prod.mk.injEq] at h1
        have hb : b = 123 := by simpa using hb
        subst hb
        simp only [List.length_cons] at hk
        have hq : q.length < ((q ++ u).takeWhile (· != 125)).length + 1 := by omega
        have hall := hexN_all _ _ _ hn
        intro j hj
        match j, hj with
        | 0, _ => exact ⟨117, rfl, by decide, by decide, by decide⟩
        | 1, _ => exact ⟨123, rfl, by decide, by decide, by decide⟩
        | j + 2, hj =>
          simp only [List.length_cons] at hj
          have hj : j < q.length := by omega
          refine ⟨q[j], by simp [hj], ?_⟩
          have hp : (q ++ u).takeWhile (· != 125) <+: q ++ u := List.takeWhile_prefix _
          have hm : q[j] ∈ (q ++ u).takeWhile (· != 125) := by
            have hl : j < ((q ++ u).takeWhile (· != 125)).length := by omega
            have : ((q ++ u).takeWhile (· != 125))[j] = q[j] := by
              rw [hp.getElem hl, List.getElem_append_left hj]
            rw [← this]; exact List.getElem_mem _
          obtain ⟨d, hd⟩ := hall _ hm
          obtain ⟨i1, _, i2, i3, _⟩ := hex_no _ _ hd
          exact ⟨i1, i2, i3⟩
    · cases h

theorem textR_skip (r : Bool) (t u : List UInt8) (h : ∀ j, j < t.length → ∃ b, t[j]? = some b ∧ b ≠ 10 ∧ b ≠ 34 ∧ b ≠ 92) : t.length ≤ (textR r (t ++ u)).1 := by
  rw [textR_many r t.length (t ++ u) (fun j hj => by rw [List.getElem?_append_left hj]; exact h j hj)]
  simp

theorem text_near (u u' : List UInt8) : ∀ (m : Nat) (x : List UInt8) (r : Bool), x.length = m → (textR r (x ++ u)).1 + 1 ≤ x.length → textR r (x ++ u') = textR r (x ++ u) := by
  intro m
  induction m using Nat.strongRecOn with
  | _ m ih =>
    intro x r hm h
    match x, hm, h with
    | [], _, h => simp at h
    | a :: t, hm, h =>
      simp only [List.length_cons] at hm h
      rw [List.cons_append] at h ⊢
      rw [List.cons_append]
      by_cases h10 : a = 10
      · subst h10; rw [textR_end, textR_end]
      by_cases h34 : a = 34
      · subst h34; rw [textR_shut, textR_shut]
      by_cases h92 : a = 92
      · subst h92
        cases he : escM (t ++ u) with
        | some y =>
          obtain ⟨c, k⟩ := y
          rw [textR_esc r _ c k he] at h ⊢
          by_cases hk : k ≤ t.length
          · have e1 := esc_post t u' c k (esc_pre t u c k he hk)
            rw [textR_esc r _ c k e1]
            have e : ∀ v, (t ++ v).drop k = t.drop k ++ v := fun v => List.drop_append_of_le_length hk
            rw [e] at h ⊢
            rw [e]
            have hk1 := (esc_le _ _ _ he).1
            rw [ih (t.drop k).length (by rw [List.length_drop]; omega) _ r rfl (by rw [List.length_drop]; omega)]
          · exfalso; simp only at h; omega
        | none =>
          have h' := h
          rw [textR_bad' r _ he] at h ⊢
          cases he2 : escM (t ++ u') with
          | none =>
            rw [textR_bad' r _ he2]
            rw [ih t.length (by omega) t false rfl (by simp only at h; omega)]
          | some y =>
            exfalso
            obtain ⟨c, k⟩ := y
            by_cases hk : k ≤ t.length
            · have := esc_post t u c k (esc_pre t u' c k he2 hk)
              rw [he] at this; cases this
            · have := textR_skip false t u (esc_hex t u' c k he2 (by omega))
              simp only at h; omega
      · rw [textR_plain r a _ h10 h34 h92] at h ⊢
        rw [textR_plain r a _ h10 h34 h92]
        rw [ih t.length (by omega) t r rfl (by simp only at h; omega)]

theorem pre_near (p q : UInt8) {x : List UInt8} (hx : 2 ≤ x.length) (u u' : List UInt8) : [p, q].isPrefixOf (x ++ u') = [p, q].isPrefixOf (x ++ u) := by
  match x, hx with
  | [], hx => simp at hx
  | [_], hx => simp at hx
  | a :: b :: t, _ => simp [List.isPrefixOf]
theorem sign_near {x : List UInt8} (hx : 2 ≤ x.length) (u u' : List UInt8) : signM (x ++ u') = signM (x ++ u) := by
  unfold signM twoM
  rw [pre_near _ _ hx u u', pre_near _ _ hx u u', pre_near _ _ hx u u']
  match x, hx with
  | [], hx => simp at hx
  | a :: t, _ => rfl
theorem take_near {x : List UInt8} (u u' : List UInt8) {n : Nat} (hn : n ≤ x.length) : (x ++ u').take n = (x ++ u).take n := by
  rw [List.take_append_of_le_length hn, List.take_append_of_le_length hn]

/-- a token hangs on no more than four bytes behind it -/
theorem one_near (x u u' : List UInt8) (h : (oneM (x ++ u)).2 + 4 ≤ x.length) : oneM (x ++ u') = oneM (x ++ u) := by
  have h4 : 4 ≤ x.length := by omega
  have hd := dec_near h4 u' u
  have hdr : ∀ (v : List UInt8) (n : Nat), n ≤ x.length → (x ++ v).drop n = x.drop n ++ v := fun v n hn => List.drop_append_of_le_length hn
  unfold oneM at h ⊢
  rw [hd, pre_near 45 45 (by omega) u u', pre_near 123 45 (by omega) u u', sign_near (by omega) u u']
  by_cases c1 : spaceB (dec (x ++ u)).1 = true
  · rw [if_pos c1] at h
    rw [if_pos c1, if_pos c1, run_near spaceB u u' _ x rfl h]
  rw [if_neg c1] at h
  rw [if_neg c1, if_neg c1]
  by_cases c2 : [45, 45].isPrefixOf (x ++ u) = true
  · rw [if_pos c2] at h
    rw [if_pos c2, if_pos c2, while_near _ u u' x (by simp only at h; omega)]
  rw [if_neg c2] at h
  rw [if_neg c2, if_neg c2]
  by_cases c3 : [123, 45].isPrefixOf (x ++ u) = true
  · rw [if_pos c3] at h
    rw [if_pos c3, if_pos c3]
    rw [hdr u 2 (by omega)] at h ⊢
    rw [hdr u' 2 (by omega)]
    cases hr : remM 1 (x.drop 2 ++ u) with
    | none => rw [hr] at h; simp only [List.length_append] at h; omega
    | some k =>
      rw [hr] at h
      simp only at h
      rw [rem_near u u' _ (x.drop 2) 1 k rfl hr (by rw [List.length_drop]; omega)]
  rw [if_neg c3] at h
  rw [if_neg c3, if_neg c3]
  by_cases c4 : letterB (dec (x ++ u)).1 = true
  · rw [if_pos c4] at h
    rw [if_pos c4, if_pos c4, run_near bothB u u' _ x rfl h, take_near u u' (by simp only at h; omega)]
  rw [if_neg c4] at h
  rw [if_neg c4, if_neg c4]
  by_cases c5 : digitB (dec (x ++ u)).1 = true
  · rw [if_pos c5] at h
    rw [if_pos c5, if_pos c5, run_near digitB u u' _ x rfl h]
  rw [if_neg c5] at h
  rw [if_neg c5, if_neg c5]
  by_cases c6 : (dec (x ++ u)).1 = 34
  · rw [if_pos c6] at h
    rw [if_pos c6, if_pos c6]
    rw [hdr u 1 (by omega)] at h ⊢
    rw [hdr u' 1 (by omega)]
    have e : textM (x.drop 1 ++ u') = textM (x.drop 1 ++ u) := text_near u u' _ (x.drop 1) true rfl (by
      have h : (textR true (x.drop 1 ++ u)).1 + 1 + 4 ≤ x.length := h
      rw [List.length_drop]; omega)
    rw [e]
  rw [if_neg c6, if_neg c6]

theorem tokR_length (a : Nat) (l : List UInt8) : (tokR a l).length ≤ l.length := by
  have : ∀ (m : Nat) (l : List UInt8) (a : Nat), l.length = m → (tokR a l).length ≤ l.length := by
    intro m
    induction m using Nat.strongRecOn with
    | _ m ih =>
      intro l a hm
      by_cases hl : l = []
      · subst hl; simp [tokR_nil]
      · have h1 := one_le l hl
        rw [tokR_cons a hl, List.length_cons]
        have := ih (l.drop (oneM l).2).length (by rw [List.length_drop]; omega) _ (a + (oneM l).2) rfl
        rw [List.length_drop] at this
        omega
  exact this _ l a rfl
/-- places moved -/
theorem tokR_shift (g : Nat) : ∀ (m : Nat) (l : List UInt8) (a : Nat), l.length = m → tokR (a + g) l = (tokR a l).map fun t => (t.1, t.2.1 + g, t.2.2) := by
  intro m
  induction m using Nat.strongRecOn with
  | _ m ih =>
    intro l a hm
    by_cases hl : l = []
    · subst hl; simp [tokR_nil]
    · have h1 := one_le l hl
      rw [tokR_cons _ hl, tokR_cons _ hl, List.map_cons]
      rw [show a + g + (oneM l).2 = a + (oneM l).2 + g by omega, ih (l.drop (oneM l).2).length (by rw [List.length_drop]; omega) _ _ rfl]
/-- from a token on -/
theorem tokR_tail : ∀ (k : Nat) (l : List UInt8) (a : Nat) (h : k < (tokR a l).length), a ≤ (tokR a l)[k].2.1 ∧ (tokR a l)[k].2.1 - a < l.length ∧ (tokR a l).drop k = tokR (tokR a l)[k].2.1 (l.drop ((tokR a l)[k].2.1 - a))
  | 0, l, a, h => by
    have hl : l ≠ [] := by intro e; subst e; simp [tokR_nil] at h
    have e := tokR_cons a hl
    have h0 : (tokR a l)[0] = ((oneM l).1, a, (oneM l).2) := by simp [e]
    rw [h0]
    have := List.length_pos_iff.2 hl
    exact ⟨Nat.le_refl _, by simpa using this, by simp⟩
  | k + 1, l, a, h => by
    have hl : l ≠ [] := by intro e; subst e; simp [tokR_nil] at h
    have e := tokR_cons a hl
    have h1 := one_le l hl
    have hk : k < (tokR (a + (oneM l).2) (l.drop (oneM l).2)).length := by rw [e] at h; simpa using h
    obtain ⟨i1, i2, i3⟩ := tokR_tail k (l.drop (oneM l).2) (a + (oneM l).2) hk
    have hg : (tokR a l)[k + 1] = (tokR (a + (oneM l).2) (l.drop (oneM l).2))[k] := by simp [e]
    rw [hg]
    rw [List.length_drop] at i2
    refine ⟨by omega, by omega, ?_⟩
    have hd : (tokR a l).drop (k + 1) = (tokR (a + (oneM l).2) (l.drop (oneM l).2)).drop k := by rw [e]; rfl
    rw [hd, i3, List.drop_drop]
    congr 2
    omega
/-- tokens that end four bytes ahead of a place stay -/
theorem tokR_head (u u' : List UInt8) : ∀ (k : Nat) (x : List UInt8) (a : Nat), k ≤ (tokR a (x ++ u)).length → (∀ j (hj : j < (tokR a (x ++ u)).length), j < k → (tokR a (x ++ u))[j].2.1 + (tokR a (x ++ u))[j].2.2 + 4 ≤ a + x.length) →
    (tokR a (x ++ u')).take k = (tokR a (x ++ u)).take k
  | 0, _, _, _, _ => by simp
  | k + 1, x, a, hk, h => by
    have hl : x ++ u ≠ [] := by intro e; rw [e] at hk; simp [tokR_nil] at hk
    have e := tokR_cons a hl
    have h1 := one_le _ hl
    have h0 := h 0 (by omega) (by omega)
    have hz : (tokR a (x ++ u))[0]'(by omega) = ((oneM (x ++ u)).1, a, (oneM (x ++ u)).2) := by simp [e]
    rw [hz] at h0
    simp only at h0
    have hn := one_near x u u' (by omega)
    have hl' : x ++ u' ≠ [] := by intro e; have := congrArg List.length e; rw [List.length_append, List.length_nil] at this; omega
    have hdr : ∀ v : List UInt8, (x ++ v).drop (oneM (x ++ u)).2 = x.drop (oneM (x ++ u)).2 ++ v := fun v => List.drop_append_of_le_length (by omega)
    have e' := tokR_cons a hl'
    rw [hn, hdr u'] at e'
    rw [hdr u] at e
    rw [e', e, List.take_succ_cons, List.take_succ_cons]
    have hlen : (tokR a (x ++ u)).length = (tokR (a + (oneM (x ++ u)).2) (x.drop (oneM (x ++ u)).2 ++ u)).length + 1 := by rw [e]; rfl
    rw [tokR_head u u' k (x.drop (oneM (x ++ u)).2) (a + (oneM (x ++ u)).2) (by omega) (fun j hj hjk => by
      have := h (j + 1) (by omega) (by omega)
      have hg : (tokR a (x ++ u))[j + 1]'(by omega) = (tokR (a + (oneM (x ++ u)).2) (x.drop (oneM (x ++ u)).2 ++ u))[j] := by simp [e]
      rw [hg] at this
      rw [List.length_drop]
      omega)]
end Go.Proofs.YtgpjcjnimheglaaGreatDoor.Lx
