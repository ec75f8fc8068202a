/-
  JOINED of the texts LN LO LV
-/
import Derived.Test.YtalklmeejdmifaaGreatDoorJai
namespace Go.Proofs.YtalklmeejdmifaaGreatDoor.Lx
theorem dec_near {x : List UInt8} (hx : 4 ≤ x.length) (u u' : List UInt8) : dec (x ++ u) = dec (x ++ u') := by
 have hb : ∀ k, k < 4 → ∀ v, byteAt (x ++ v) k = byteAt x k := fun k hk v => by
  unfold byteAt
  rw [List.getElem?_append_left (by omega)]
 have hc : ∀ k, k < 4 → ∀ v, contAt (x ++ v) k = contAt x k := fun k hk v => by
  unfold contAt
  rw [hb k hk, List.length_append]
  congr 1
  simp; omega
 unfold dec
 simp only [hb 0 (by omega), hb 1 (by omega), hb 2 (by omega), hb 3 (by omega), hc 1 (by omega), hc 2 (by omega), hc 3 (by omega)]
theorem run_near (p : Nat → Bool) (u u' : List UInt8) : ∀ (m : Nat) (x : List UInt8), x.length = m → run p (x ++ u) + 4 ≤ x.length → run p (x ++ u') = run p (x ++ u) := by
 intro m
 induction m using Nat.strongRecOn with
 | _ m ih =>
  intro x hx h
  have h4 : 4 ≤ x.length := by omega
  have hd := dec_near h4 u u'
  have hne : ∀ v, x ++ v ≠ [] := fun v e => by
   have h0 := congrArg List.length e
   rw [List.length_append, List.length_nil] at h0
   omega
  cases hp : p (dec (x ++ u)).1 with
  | false => rw [run_stop p hp, run_stop p (by rw [← hd]; exact hp)]
  | true =>
   obtain ⟨hs1, hs2, _⟩ := dec_size (x ++ u)
   rw [run_go p (hne u) hp] at h ⊢
   rw [run_go p (hne u') (by rw [← hd]; exact hp), ← hd]
   have e : ∀ v, (x ++ v).drop (dec (x ++ u)).2 = x.drop (dec (x ++ u)).2 ++ v := fun v => List.drop_append_of_le_length (by omega)
   rw [e] at h ⊢
   rw [e]
   rw [ih (x.drop (dec (x ++ u)).2).length (by rw [List.length_drop]; omega) _ rfl (by rw [List.length_drop]; omega)]
theorem while_near (p : UInt8 → Bool) (u u' : List UInt8) : ∀ x : List UInt8, ((x ++ u).takeWhile p).length < x.length → ((x ++ u').takeWhile p).length = ((x ++ u).takeWhile p).length
 | [], h => by simp at h
 | a :: t, h => by
  simp only [List.cons_append, List.takeWhile_cons] at h ⊢
  cases hp : p a with
  | false => simp
  | true =>
   simp only [hp, if_true, List.length_cons] at h ⊢
   rw [while_near p u u' t (by omega)]
theorem rem_near (u u' : List UInt8) : ∀ (m : Nat) (x : List UInt8) (d k : Nat), x.length = m → remM d (x ++ u) = some k → k ≤ x.length → remM d (x ++ u') = some k := by
 intro m
 induction m using Nat.strongRecOn with
 | _ m ih =>
  intro x d k hm h hk
  have h2 := (remM_le _ _ _ h).1
  match x, hm, h, hk with
  | [], _, _, hk => simp at hk; omega
  | [_], _, _, hk => simp at hk; omega
  | a :: b :: t, hm, h, hk =>
   simp only [List.cons_append, remM] at h ⊢
   simp only [List.length_cons] at hm hk
   split
   ·rename_i e
    rw [if_pos e] at h
    obtain ⟨k', h1, h3⟩ := Option.map_eq_some_iff.1 h
    have := ih t.length (by omega) t _ k' rfl h1 (by omega)
    rw [this]; simp [h3]
   ·rename_i e
    rw [if_neg e] at h
    split
    ·rename_i e2
     rw [if_pos e2] at h
     split
     ·rename_i e3; rw [if_pos e3] at h; exact h
     ·rename_i e3
      rw [if_neg e3] at h
      obtain ⟨k', h1, h3⟩ := Option.map_eq_some_iff.1 h
      have := ih t.length (by omega) t _ k' rfl h1 (by omega)
      rw [this]; simp [h3]
    ·rename_i e2
     rw [if_neg e2] at h
     obtain ⟨k', h1, h3⟩ := Option.map_eq_some_iff.1 h
     have := ih (b :: t).length (by simp; omega) (b :: t) _ k' rfl h1 (by simp; omega)
     rw [List.cons_append] at this
     rw [this]; simp [h3]
theorem textR_bad' (r : Bool) (t : List UInt8) (h : escM t = none) : textR r (92 :: t) = ((textR false t).1 + 1, (textR false t).2) := by
 rw [textR_bad r t h _ rfl]
 split
 ·simp
 ·rename_i hn
  simp only [not_or] at hn
  match t, h, hn with
  | [], _, hn => simp at hn
  | a :: q, h, hn =>
   have h10 : a ≠ 10 := fun e => hn.2 (by subst e; rfl)
   have hesc : a ≠ 34 ∧ a ≠ 92 := by
    constructor <;> (intro e; subst e; simp [escM] at h)
   rw [textR_char false (a :: q) ⟨a, rfl, h10, hesc.1, hesc.2⟩]
   simp; omega
theorem code_post (r u : List UInt8) (c m : Nat) (h : codeM r = some (c, m)) : codeM (r ++ u) = some (c, m) := by
 match r, h with
 | [], h => simp [codeM] at h
 | a :: q, h =>
  simp only [List.cons_append, codeM] at h ⊢
  split at h
  ·cases h
  rename_i ha
  split at h
  ·cases h
  rename_i h1
  have h1 : (125 : UInt8) ∈ q := by simpa using h1
  obtain ⟨t, ht⟩ := take_while_at q h1
  have e : (q ++ u).takeWhile (· != 125) = q.takeWhile (· != 125) := by
   have : ((q.takeWhile (· != 125) ++ 125 :: t) ++ u).takeWhile (· != 125) = q.takeWhile (· != 125) := by
    rw [List.append_assoc, List.takeWhile_append_of_pos]
    ·simp
    ·intro b hb; exact List.all_eq_true.1 List.all_takeWhile b hb
   rwa [← ht] at this
  rw [if_neg ha, if_neg (by simp [h1]), e]
  exact h
theorem esc_post (t u : List UInt8) (c n : Nat) (h : escM t = some (c, n)) : escM (t ++ u) = some (c, n) := by
 match t, h with
 | [], h => simp [escM] at h
 | a :: r, h =>
  simp only [List.cons_append, escM] at h ⊢
  split
  ·rename_i e; rw [if_pos e] at h; exact h
  rename_i e1; rw [if_neg e1] at h
  split
  ·rename_i e; rw [if_pos e] at h; exact h
  rename_i e2; rw [if_neg e2] at h
  split
  ·rename_i e; rw [if_pos e] at h; exact h
  rename_i e3; rw [if_neg e3] at h
  split
  ·rename_i e
   rw [if_pos e] at h
   obtain ⟨⟨c', m⟩, h1, h2⟩ := Option.map_eq_some_iff.1 h
   rw [code_post r u c' m h1]
   exact congrArg some h2
  ·rename_i e; rw [if_neg e] at h; cases h
theorem esc_hex (t u : List UInt8) (c k : Nat) (h : escM (t ++ u) = some (c, k)) (hk : t.length < k) : ∀ j, j < t.length → ∃ b, t[j]? = some b ∧ b ≠ 10 ∧ b ≠ 34 ∧ b ≠ 92 := by
 match t, h, hk with
 | [], _, _ => intro j hj; simp at hj
 | a :: r, h, hk =>
  simp only [List.cons_append, escM] at h
  simp only [List.length_cons] at hk
  split at h
  ·simp only [Option.some.injEq, Prod.mk.injEq] at h; omega
  split at h
  ·simp only [Option.some.injEq, Prod.mk.injEq] at h; omega
  split at h
  ·simp only [Option.some.injEq, Prod.mk.injEq] at h; omega
  split at h
  ·rename_i e
   have e : a = 117 := e
   subst e
   obtain ⟨⟨c', m⟩, h1, h2⟩ := Option.map_eq_some_iff.1 h
   simp only [Prod.mk.injEq] at h2
   match r, h1, hk with
   | [], _, _ =>
    intro j hj
    obtain rfl : j = 0 := by simp at hj; exact hj
    exact ⟨117, rfl, by decide, by decide, by decide⟩
   | b :: q, h1, hk =>
    simp only [List.cons_append, codeM] at h1
    split at h1
    ·cases h1
    rename_i hb
    split at h1
    ·cases h1
    split at h1
    ·cases h1
    split at h1
    ·cases h1
    rename_i n hn
    split at h1
    ·cases h1
    simp only [Option.some.injEq, Prod.mk.injEq] at h1
    have hb : b = 123 := by simpa using hb
    subst hb
    simp only [List.length_cons] at hk
    have hq : q.length < ((q ++ u).takeWhile (· != 125)).length + 1 := by omega
    have hall := hexN_all _ _ _ hn
    intro j hj
    match j, hj with
    | 0, _ => exact ⟨117, rfl, by decide, by decide, by decide⟩
    | 1, _ => exact ⟨123, rfl, by decide, by decide, by decide⟩
    | j + 2, hj =>
     simp only [List.length_cons] at hj
     have hj : j < q.length := by omega
     refine ⟨q[j], by simp [hj], ?_⟩
     have hp : (q ++ u).takeWhile (· != 125) <+: q ++ u := List.takeWhile_prefix _
     have hm : q[j] ∈ (q ++ u).takeWhile (· != 125) := by
      have hl : j < ((q ++ u).takeWhile (· != 125)).length := by omega
      have : ((q ++ u).takeWhile (· != 125))[j] = q[j] := by
       rw [hp.getElem hl, List.getElem_append_left hj]
      rw [← this]; exact List.getElem_mem _
     obtain ⟨d, hd⟩ := hall _ hm
     obtain ⟨i1, _, i2, i3, _⟩ := hex_no _ _ hd
     exact ⟨i1, i2, i3⟩
  ·cases h
theorem textR_skip (r : Bool) (t u : List UInt8) (h : ∀ j, j < t.length → ∃ b, t[j]? = some b ∧ b ≠ 10 ∧ b ≠ 34 ∧ b ≠ 92) : t.length ≤ (textR r (t ++ u)).1 := by
 rw [textR_many r t.length (t ++ u) (fun j hj => by rw [List.getElem?_append_left hj]; exact h j hj)]
 simp
theorem text_near (u u' : List UInt8) : ∀ (m : Nat) (x : List UInt8) (r : Bool), x.length = m → (textR r (x ++ u)).1 + 1 ≤ x.length → textR r (x ++ u') = textR r (x ++ u) := by
 intro m
 induction m using Nat.strongRecOn with
 | _ m ih =>
  intro x r hm h
  match x, hm, h with
  | [], _, h => simp at h
  | a :: t, hm, h =>
   simp only [List.length_cons] at hm h
   rw [List.cons_append] at h ⊢
   rw [List.cons_append]
   by_cases h10 : a = 10
   ·subst h10; rw [textR_end, textR_end]
   by_cases h34 : a = 34
   ·subst h34; rw [textR_shut, textR_shut]
   by_cases h92 : a = 92
   ·subst h92
    cases he : escM (t ++ u) with
    | some y =>
     obtain ⟨c, k⟩ := y
     rw [textR_esc r _ c k he] at h ⊢
     by_cases hk : k ≤ t.length
     ·have e1 := esc_post t u' c k (esc_pre t u c k he hk)
      rw [textR_esc r _ c k e1]
      have e : ∀ v, (t ++ v).drop k = t.drop k ++ v := fun v => List.drop_append_of_le_length hk
      rw [e] at h ⊢
      rw [e]
      have hk1 := (esc_le _ _ _ he).1
      rw [ih (t.drop k).length (by rw [List.length_drop]; omega) _ r rfl (by rw [List.length_drop]; omega)]
     ·exfalso; simp only at h; omega
    | none =>
     have h' := h
     rw [textR_bad' r _ he] at h ⊢
     cases he2 : escM (t ++ u') with
     | none =>
      rw [textR_bad' r _ he2]
      rw [ih t.length (by omega) t false rfl (by simp only at h; omega)]
     | some y =>
      exfalso
      obtain ⟨c, k⟩ := y
      by_cases hk : k ≤ t.length
      ·have := esc_post t u c k (esc_pre t u' c k he2 hk)
       rw [he] at this; cases this
      ·have := textR_skip false t u (esc_hex t u' c k he2 (by omega))
       simp only at h; omega
   ·rw [textR_plain r a _ h10 h34 h92] at h ⊢
    rw [textR_plain r a _ h10 h34 h92]
    rw [ih t.length (by omega) t r rfl (by simp only at h; omega)]
theorem pre_near (p q : UInt8) {x : List UInt8} (hx : 2 ≤ x.length) (u u' : List UInt8) : [p, q].isPrefixOf (x ++ u') = [p, q].isPrefixOf (x ++ u) := by
 match x, hx with
 | [], hx => simp at hx
 | [_], hx => simp at hx
 | a :: b :: t, _ => simp [List.isPrefixOf]
theorem sign_near {x : List UInt8} (hx : 2 ≤ x.length) (u u' : List UInt8) : signM (x ++ u') = signM (x ++ u) := by
 unfold signM twoM
 rw [pre_near _ _ hx u u', pre_near _ _ hx u u', pre_near _ _ hx u u']
 match x, hx with
 | [], hx => simp at hx
 | a :: t, _ => rfl
theorem take_near {x : List UInt8} (u u' : List UInt8) {n : Nat} (hn : n ≤ x.length) : (x ++ u').take n = (x ++ u).take n := by
 rw [List.take_append_of_le_length hn, List.take_append_of_le_length hn]
theorem one_near (x u u' : List UInt8) (h : (oneM (x ++ u)).2 + 4 ≤ x.length) : oneM (x ++ u') = oneM (x ++ u) := by
 have h4 : 4 ≤ x.length := by omega
 have hd := dec_near h4 u' u
 have hdr : ∀ (v : List UInt8) (n : Nat), n ≤ x.length → (x ++ v).drop n = x.drop n ++ v := fun v n hn => List.drop_append_of_le_length hn
 unfold oneM at h ⊢
 rw [hd, pre_near 45 45 (by omega) u u', pre_near 123 45 (by omega) u u', sign_near (by omega) u u']
 by_cases c1 : spaceB (dec (x ++ u)).1 = true
 ·rw [if_pos c1] at h
  rw [if_pos c1, if_pos c1, run_near spaceB u u' _ x rfl h]
 rw [if_neg c1] at h
 rw [if_neg c1, if_neg c1]
 by_cases c2 : [45, 45].isPrefixOf (x ++ u) = true
 ·rw [if_pos c2] at h
  rw [if_pos c2, if_pos c2, while_near _ u u' x (by simp only at h; omega)]
 rw [if_neg c2] at h
 rw [if_neg c2, if_neg c2]
 by_cases c3 : [123, 45].isPrefixOf (x ++ u) = true
 ·rw [if_pos c3] at h
  rw [if_pos c3, if_pos c3]
  rw [hdr u 2 (by omega)] at h ⊢
  rw [hdr u' 2 (by omega)]
  cases hr : remM 1 (x.drop 2 ++ u) with
  | none => rw [hr] at h; simp only [List.length_append] at h; omega
  | some k =>
   rw [hr] at h
   simp only at h
   rw [rem_near u u' _ (x.drop 2) 1 k rfl hr (by rw [List.length_drop]; omega)]
 rw [if_neg c3] at h
 rw [if_neg c3, if_neg c3]
 by_cases c4 : letterB (dec (x ++ u)).1 = true
 ·rw [if_pos c4] at h
  rw [if_pos c4, if_pos c4, run_near bothB u u' _ x rfl h, take_near u u' (by simp only at h; omega)]
 rw [if_neg c4] at h
 rw [if_neg c4, if_neg c4]
 by_cases c5 : digitB (dec (x ++ u)).1 = true
 ·rw [if_pos c5] at h
  rw [if_pos c5, if_pos c5, run_near digitB u u' _ x rfl h]
 rw [if_neg c5] at h
 rw [if_neg c5, if_neg c5]
 by_cases c6 : (dec (x ++ u)).1 = 34
 ·rw [if_pos c6] at h
  rw [if_pos c6, if_pos c6]
  rw [hdr u 1 (by omega)] at h ⊢
  rw [hdr u' 1 (by omega)]
  have e : textM (x.drop 1 ++ u') = textM (x.drop 1 ++ u) := text_near u u' _ (x.drop 1) true rfl (by
   have h : (textR true (x.drop 1 ++ u)).1 + 1 + 4 ≤ x.length := h
   rw [List.length_drop]; omega)
  rw [e]
 rw [if_neg c6, if_neg c6]
theorem tokR_length (a : Nat) (l : List UInt8) : (tokR a l).length ≤ l.length := by
 have : ∀ (m : Nat) (l : List UInt8) (a : Nat), l.length = m → (tokR a l).length ≤ l.length := by
  intro m
  induction m using Nat.strongRecOn with
  | _ m ih =>
   intro l a hm
   by_cases hl : l = []
   ·subst hl; simp [tokR_nil]
   ·have h1 := one_le l hl
    rw [tokR_cons a hl, List.length_cons]
    have := ih (l.drop (oneM l).2).length (by rw [List.length_drop]; omega) _ (a + (oneM l).2) rfl
    rw [List.length_drop] at this
    omega
 exact this _ l a rfl
theorem tokR_tail : ∀ (k : Nat) (l : List UInt8) (a : Nat) (h : k < (tokR a l).length), a ≤ (tokR a l)[k].2.1 ∧ (tokR a l)[k].2.1 - a < l.length ∧ (tokR a l).drop k = tokR (tokR a l)[k].2.1 (l.drop ((tokR a l)[k].2.1 - a))
 | 0, l, a, h => by
  have hl : l ≠ [] := by intro e; subst e; simp [tokR_nil] at h
  have e := tokR_cons a hl
  have h0 : (tokR a l)[0] = ((oneM l).1, a, (oneM l).2) := by simp [e]
  rw [h0]
  have := List.length_pos_iff.2 hl
  exact ⟨Nat.le_refl _, by simpa using this, by simp⟩
 | k + 1, l, a, h => by
  have hl : l ≠ [] := by intro e; subst e; simp [tokR_nil] at h
  have e := tokR_cons a hl
  have h1 := one_le l hl
  have hk : k < (tokR (a + (oneM l).2) (l.drop (oneM l).2)).length := by rw [e] at h; simpa using h
  obtain ⟨i1, i2, i3⟩ := tokR_tail k (l.drop (oneM l).2) (a + (oneM l).2) hk
  have hg : (tokR a l)[k + 1] = (tokR (a + (oneM l).2) (l.drop (oneM l).2))[k] := by simp [e]
  rw [hg]
  rw [List.length_drop] at i2
  refine ⟨by omega, by omega, ?_⟩
  have hd : (tokR a l).drop (k + 1) = (tokR (a + (oneM l).2) (l.drop (oneM l).2)).drop k := by rw [e]; rfl
  rw [hd, i3, List.drop_drop]
  congr 2
  omega
theorem tokR_head (u u' : List UInt8) : ∀ (k : Nat) (x : List UInt8) (a : Nat), k ≤ (tokR a (x ++ u)).length → (∀ j (hj : j < (tokR a (x ++ u)).length), j < k → (tokR a (x ++ u))[j].2.1 + (tokR a (x ++ u))[j].2.2 + 4 ≤ a + x.length) →
  (tokR a (x ++ u')).take k = (tokR a (x ++ u)).take k
 | 0, _, _, _, _ => by simp
 | k + 1, x, a, hk, h => by
  have hl : x ++ u ≠ [] := by intro e; rw [e] at hk; simp [tokR_nil] at hk
  have e := tokR_cons a hl
  have h1 := one_le _ hl
  have h0 := h 0 (by omega) (by omega)
  have hz : (tokR a (x ++ u))[0]'(by omega) = ((oneM (x ++ u)).1, a, (oneM (x ++ u)).2) := by simp [e]
  rw [hz] at h0
  simp only at h0
  have hn := one_near x u u' (by omega)
  have hl' : x ++ u' ≠ [] := by intro e; have := congrArg List.length e; rw [List.length_append, List.length_nil] at this; omega
  have hdr : ∀ v : List UInt8, (x ++ v).drop (oneM (x ++ u)).2 = x.drop (oneM (x ++ u)).2 ++ v := fun v => List.drop_append_of_le_length (by omega)
  have e' := tokR_cons a hl'
  rw [hn, hdr u'] at e'
  rw [hdr u] at e
  rw [e', e, List.take_succ_cons, List.take_succ_cons]
  have hlen : (tokR a (x ++ u)).length = (tokR (a + (oneM (x ++ u)).2) (x.drop (oneM (x ++ u)).2 ++ u)).length + 1 := by rw [e]; rfl
  rw [tokR_head u u' k (x.drop (oneM (x ++ u)).2) (a + (oneM (x ++ u)).2) (by omega) (fun j hj hjk => by
   have := h (j + 1) (by omega) (by omega)
   have hg : (tokR a (x ++ u))[j + 1]'(by omega) = (tokR (a + (oneM (x ++ u)).2) (x.drop (oneM (x ++ u)).2 ++ u))[j] := by simp [e]
   rw [hg] at this
   rw [List.length_drop]
   omega)]
theorem tokR_next (l : List UInt8) (a k : Nat) (h : k + 1 < (tokR a l).length) : (tokR a l)[k + 1].2.1 = (tokR a l)[k].2.1 + (tokR a l)[k].2.2 ∧ 1 ≤ (tokR a l)[k].2.2 := by
 obtain ⟨i1, i2, i3⟩ := tokR_tail k l a (by omega)
 have hl : l.drop ((tokR a l)[k].2.1 - a) ≠ [] := by
  intro e; have := congrArg List.length e; rw [List.length_drop, List.length_nil] at this; omega
 have e := tokR_cons (tokR a l)[k].2.1 hl
 have h1 := one_le _ hl
 rw [← i3] at e
 have hk : ((tokR a l).drop k)[0]'(by simp; omega) = (tokR a l)[k] := by simp
 have hk1 : ((tokR a l).drop k)[1]'(by simp; omega) = (tokR a l)[k + 1] := by simp
 have e0 : (tokR a l)[k].2.2 = (oneM (l.drop ((tokR a l)[k].2.1 - a))).2 := by
  have : ((tokR a l).drop k)[0]? = some ((oneM (l.drop ((tokR a l)[k].2.1 - a))).1, (tokR a l)[k].2.1, (oneM (l.drop ((tokR a l)[k].2.1 - a))).2) := by rw [e]; rfl
  rw [List.getElem?_drop, Nat.add_zero, List.getElem?_eq_getElem (by omega)] at this
  have := congrArg (fun t => t.2.2) (Option.some.inj this)
  exact this
 have e1 : ((tokR a l).drop k)[1]? = (tokR ((tokR a l)[k].2.1 + (oneM (l.drop ((tokR a l)[k].2.1 - a))).2) ((l.drop ((tokR a l)[k].2.1 - a)).drop (oneM (l.drop ((tokR a l)[k].2.1 - a))).2))[0]? := by rw [e]; rfl
 rw [List.getElem?_drop, List.getElem?_eq_getElem (by omega)] at e1
 rw [e0]
 refine ⟨?_, by omega⟩
 by_cases hq : (l.drop ((tokR a l)[k].2.1 - a)).drop (oneM (l.drop ((tokR a l)[k].2.1 - a))).2 = []
 ·rw [hq, tokR_nil] at e1; simp at e1
 ·rw [tokR_cons _ hq] at e1
  simp only [List.getElem?_cons_zero, Option.some.injEq] at e1
  rw [e1]
theorem tokR_sorted (l : List UInt8) (a i : Nat) : ∀ (j : Nat) (hj : j < (tokR a l).length), (h : i < j) → (tokR a l)[i].2.1 < (tokR a l)[j].2.1
 | 0, _, h => by omega
 | j + 1, hj, h => by
  have h1 := tokR_next l a j hj
  by_cases he : i = j
  ·subst he; omega
  ·have := tokR_sorted l a i j (by omega) (by omega)
   omega
def stopB (T : List (Nat × Nat × Nat)) (lim tq at_ : Nat) : Bool := decide (lim ≤ at_) && T.any (fun t => t.2.1 == at_ - lim + tq)
def newF (T : List (Nat × Nat × Nat)) (lim tq : Nat) : Nat → Nat → List UInt8 → List (Nat × Nat × Nat)
 | 0, _, _ => []
 | f + 1, at_, l => if stopB T lim tq at_ || l.isEmpty then [] else ((oneM l).1, at_, (oneM l).2) :: newF T lim tq f (at_ + (oneM l).2) (l.drop (oneM l).2)
theorem newF_fuel (T : List (Nat × Nat × Nat)) (lim tq : Nat) : ∀ (f g at_ : Nat) (l : List UInt8), l.length ≤ f → l.length ≤ g → newF T lim tq f at_ l = newF T lim tq g at_ l
 | 0, 0, _, _, _, _ => rfl
 | 0, g + 1, at_, l, h, _ => by
  have : l = [] := List.eq_nil_of_length_eq_zero (by omega)
  subst this; simp [newF]
 | f + 1, 0, at_, l, _, h => by
  have : l = [] := List.eq_nil_of_length_eq_zero (by omega)
  subst this; simp [newF]
 | f + 1, g + 1, at_, l, h1, h2 => by
  simp only [newF]
  split
  ·rfl
  ·rename_i hn
   have hl : l ≠ [] := by intro e; subst e; simp at hn
   have h3 := one_le l hl
   rw [newF_fuel T lim tq f g _ (l.drop (oneM l).2) (by rw [List.length_drop]; omega) (by rw [List.length_drop]; omega)]
def newR (T : List (Nat × Nat × Nat)) (lim tq at_ : Nat) (l : List UInt8) : List (Nat × Nat × Nat) := newF T lim tq l.length at_ l
theorem newR_stop (T : List (Nat × Nat × Nat)) (lim tq at_ : Nat) (l : List UInt8) (h : stopB T lim tq at_ = true) : newR T lim tq at_ l = [] := by
 unfold newR; cases l.length <;> simp [newF, h]
theorem newR_nil (T : List (Nat × Nat × Nat)) (lim tq at_ : Nat) : newR T lim tq at_ [] = [] := rfl
theorem newR_go (T : List (Nat × Nat × Nat)) (lim tq at_ : Nat) {l : List UInt8} (h : stopB T lim tq at_ = false) (hl : l ≠ []) :
  newR T lim tq at_ l = ((oneM l).1, at_, (oneM l).2) :: newR T lim tq (at_ + (oneM l).2) (l.drop (oneM l).2) := by
 have h0 := List.length_pos_iff.2 hl
 have h3 := one_le l hl
 unfold newR
 obtain ⟨f, hf⟩ : ∃ f, l.length = f + 1 := ⟨l.length - 1, by omega⟩
 rw [hf]
 simp only [newF, h]
 rw [if_neg (by simpa using hl), newF_fuel T lim tq f (l.drop (oneM l).2).length _ _ (by rw [List.length_drop]; omega) (Nat.le_refl _)]
theorem stop_at {s : List UInt8} {lim tq at_ tail : Nat} (hat : lim ≤ at_) (hlo : ∀ j (h : j < (tokR 0 s).length), j < tail → (tokR 0 s)[j].2.1 < tq ∨ (tokR 0 s)[j].2.1 + lim < at_ + tq)
  (hex : ∀ h : tail < (tokR 0 s).length, tq ≤ (tokR 0 s)[tail].2.1 ∧ at_ + tq ≤ (tokR 0 s)[tail].2.1 + lim) :
  stopB (tokR 0 s) lim tq at_ = true ↔ ∃ h : tail < (tokR 0 s).length, (tokR 0 s)[tail].2.1 + lim = at_ + tq := by
 unfold stopB
 simp only [Bool.and_eq_true, decide_eq_true_eq, List.any_eq_true, beq_iff_eq]
 constructor
 ·rintro ⟨_, t, hm, he⟩
  obtain ⟨j, hj, rfl⟩ := List.getElem_of_mem hm
  have htj : tail ≤ j := by
   rcases Nat.lt_or_ge j tail with h | h
   ·rcases hlo j hj h with h | h <;> omega
   ·exact h
  refine ⟨by omega, ?_⟩
  have := hex (by omega)
  rcases Nat.lt_or_ge tail j with h | h
  ·have := tokR_sorted s 0 tail j hj h
   omega
  ·obtain rfl : tail = j := by omega
   omega
 ·rintro ⟨h, he⟩
  exact ⟨hat, _, List.getElem_mem h, by omega⟩
theorem stop_rest {s now : List UInt8} {lim tq at_ tail : Nat} (hnow : ∀ k, now.drop (lim + k) = s.drop (tq + k)) (hat : lim ≤ at_) (h : tail < (tokR 0 s).length) (he : (tokR 0 s)[tail].2.1 + lim = at_ + tq) :
  tokR at_ (now.drop at_) = ((tokR 0 s).drop tail).map fun t => (t.1, t.2.1 + lim - tq, t.2.2) := by
 obtain ⟨i1, i2, i3⟩ := tokR_tail tail s 0 h
 rw [i3]
 have e : now.drop at_ = s.drop ((tokR 0 s)[tail].2.1 - 0) := by
  have := hnow (at_ - lim)
  rw [show lim + (at_ - lim) = at_ by omega] at this
  rw [this]; congr 1; omega
 rw [e]
 have key : ∀ (m : Nat) (l : List UInt8) (p : Nat), l.length = m → tq ≤ p + lim → (tokR p l).map (fun t => (t.1, t.2.1 + lim - tq, t.2.2)) = tokR (p + lim - tq) l := by
  intro m
  induction m using Nat.strongRecOn with
  | _ m ih =>
   intro l p hm hp
   by_cases hl : l = []
   ·subst hl; simp [tokR_nil]
   ·have h1 := one_le l hl
    rw [tokR_cons _ hl, tokR_cons _ hl, List.map_cons, ih (l.drop (oneM l).2).length (by rw [List.length_drop]; omega) _ _ rfl (by omega)]
    rw [show p + (oneM l).2 + lim - tq = p + lim - tq + (oneM l).2 by omega]
 rw [key _ _ _ rfl (by omega)]
 congr 1
 omega
def endM (a : Nat) (T : List (Nat × Nat × Nat)) : Nat := match T.getLast? with
 | none => a
 | some t => t.2.1 + t.2.2
theorem endM_cons (a k n : Nat) (T : List (Nat × Nat × Nat)) : endM a ((k, a, n) :: T) = endM (a + n) T := by
 unfold endM
 rw [List.getLast?_cons]
 cases T.getLast? <;> rfl
theorem endM_take (a : Nat) (T : List (Nat × Nat × Nat)) (k : Nat) (h : k < T.length) : endM a (T.take (k + 1)) = T[k].2.1 + T[k].2.2 := by
 unfold endM
 rw [List.getLast?_eq_getElem?]
 have : (T.take (k + 1)).length - 1 = k := by rw [List.length_take]; omega
 rw [this, List.getElem?_take, if_pos (by omega), List.getElem?_eq_getElem h]
theorem tokR_split : ∀ (k : Nat) (l : List UInt8) (a : Nat), k ≤ (tokR a l).length →
  tokR a l = (tokR a l).take k ++ tokR (endM a ((tokR a l).take k)) (l.drop (endM a ((tokR a l).take k) - a)) ∧ a ≤ endM a ((tokR a l).take k) ∧ endM a ((tokR a l).take k) - a ≤ l.length
 | 0, l, a, _ => by simp [endM]
 | k + 1, l, a, h => by
  have hl : l ≠ [] := by intro e; subst e; simp [tokR_nil] at h
  have e := tokR_cons a hl
  have h1 := one_le l hl
  have hk : k ≤ (tokR (a + (oneM l).2) (l.drop (oneM l).2)).length := by rw [e] at h; simpa using h
  obtain ⟨i1, i2, i3⟩ := tokR_split k (l.drop (oneM l).2) (a + (oneM l).2) hk
  have ht : (tokR a l).take (k + 1) = ((oneM l).1, a, (oneM l).2) :: (tokR (a + (oneM l).2) (l.drop (oneM l).2)).take k := by rw [e, List.take_succ_cons]
  rw [ht, endM_cons]
  rw [List.length_drop] at i3
  refine ⟨?_, by omega, by omega⟩
  rw [e, List.cons_append]
  congr 1
  rw [List.drop_drop] at i1
  rw [show endM (a + (oneM l).2) ((tokR (a + (oneM l).2) (l.drop (oneM l).2)).take k) - a = (oneM l).2 + (endM (a + (oneM l).2) ((tokR (a + (oneM l).2) (l.drop (oneM l).2)).take k) - (a + (oneM l).2)) by omega]
  exact i1
def nowM (s : List UInt8) (frm tq : Nat) (ins : List UInt8) : List UInt8 := s.take frm ++ (ins ++ s.drop tq)
theorem now_drop (s : List UInt8) (frm tq : Nat) (ins : List UInt8) (h1 : frm ≤ s.length) (k : Nat) : (nowM s frm tq ins).drop (frm + ins.length + k) = s.drop (tq + k) := by
 unfold nowM
 rw [show frm + ins.length + k = frm + (ins.length + k) by omega, ← List.drop_drop, List.drop_append_of_le_length (by rw [List.length_take]; omega)]
 have e : (s.take frm).drop frm = [] := List.drop_of_length_le (by rw [List.length_take]; omega)
 rw [e, List.nil_append, ← List.drop_drop, List.drop_left, List.drop_drop]
theorem now_head (s : List UInt8) (frm tq : Nat) (ins : List UInt8) (h1 : frm ≤ s.length) (h : Nat) (hh : h ≤ (tokR 0 s).length) (hk : ∀ j (hj : j < (tokR 0 s).length), j < h → (tokR 0 s)[j].2.1 + (tokR 0 s)[j].2.2 + 4 ≤ frm) :
  tokR 0 (nowM s frm tq ins) = (tokR 0 s).take h ++ tokR (endM 0 ((tokR 0 s).take h)) ((nowM s frm tq ins).drop (endM 0 ((tokR 0 s).take h))) ∧ endM 0 ((tokR 0 s).take h) ≤ frm := by
 have hx : (s.take frm).length = frm := by rw [List.length_take]; omega
 have es : s.take frm ++ s.drop frm = s := List.take_append_drop _ _
 have ht := tokR_head (s.drop frm) (ins ++ s.drop tq) h (s.take frm) 0 (by rw [es]; exact hh) (by
  rw [es, hx]; intro j hj hjh; have := hk j hj hjh; omega)
 rw [es] at ht
 have ht : (tokR 0 (nowM s frm tq ins)).take h = (tokR 0 s).take h := ht
 have hlen : h ≤ (tokR 0 (nowM s frm tq ins)).length := by
  have := congrArg List.length ht
  rw [List.length_take, List.length_take] at this
  omega
 have := (tokR_split h (nowM s frm tq ins) 0 hlen).1
 rw [ht] at this
 refine ⟨by simpa using this, ?_⟩
 cases h with
 | zero => simp [endM]
 | succ h =>
  rw [endM_take 0 _ h (by omega)]
  have := hk h (by omega) (by omega)
  omega
def headM (T : List (Nat × Nat × Nat)) (frm : Nat) : Nat := (T.takeWhile fun t => decide (t.2.1 + t.2.2 + 4 ≤ frm)).length
def tailM (T : List (Nat × Nat × Nat)) (lim til e : Nat) : Nat := (T.takeWhile fun t => t.2.1 + lim != e + til).length
theorem while_len {α : Type} (p : α → Bool) : ∀ (T : List α) (k : Nat), k ≤ T.length → (∀ j (h : j < T.length), j < k → p T[j] = true) → (∀ h : k < T.length, p T[k] = false) → (T.takeWhile p).length = k
 | [], k, hk, _, _ => by simp at hk; simp [hk]
 | a :: T, 0, _, _, hx => by
  have := hx (by simp)
  simp only [List.getElem_cons_zero] at this
  simp [this]
 | a :: T, k + 1, hk, hj, hx => by
  have := hj 0 (by simp) (by omega)
  simp only [List.getElem_cons_zero] at this
  rw [List.takeWhile_cons, if_pos this, List.length_cons]
  rw [while_len p T k (by simpa using hk) (fun j h hjk => by
   have := hj (j + 1) (by simp; omega) (by omega)
   simpa using this) (fun h => by
   have := hx (by simp; omega)
   simpa using this)]
theorem while_le {α : Type} (p : α → Bool) (T : List α) : (T.takeWhile p).length ≤ T.length := (List.takeWhile_prefix p).length_le
theorem while_at {α : Type} (p : α → Bool) (T : List α) (j : Nat) (hj : j < T.length) (h : j < (T.takeWhile p).length) : p T[j] = true := by
 have hp : T.takeWhile p <+: T := List.takeWhile_prefix _
 have : (T.takeWhile p)[j] = T[j] := hp.getElem h
 rw [← this]
 exact List.all_eq_true.1 List.all_takeWhile _ (List.getElem_mem _)
theorem headM_le (T : List (Nat × Nat × Nat)) (frm : Nat) : headM T frm ≤ T.length := while_le _ T
theorem headM_at (T : List (Nat × Nat × Nat)) (frm j : Nat) (hj : j < T.length) (h : j < headM T frm) : T[j].2.1 + T[j].2.2 + 4 ≤ frm :=
 of_decide_eq_true (while_at (fun t : Nat × Nat × Nat => decide (t.2.1 + t.2.2 + 4 ≤ frm)) T j hj h)
theorem headM_eq (T : List (Nat × Nat × Nat)) (frm k : Nat) (hk : k ≤ T.length) (h : ∀ j (hj : j < T.length), j < k → T[j].2.1 + T[j].2.2 + 4 ≤ frm) (hx : ∀ h : k < T.length, ¬ T[k].2.1 + T[k].2.2 + 4 ≤ frm) : headM T frm = k :=
 while_len _ T k hk (fun j hj hjk => decide_eq_true (h j hj hjk)) (fun hh => decide_eq_false (hx hh))
theorem tailM_eq (T : List (Nat × Nat × Nat)) (lim til e k : Nat) (hk : k ≤ T.length) (h : ∀ j (hj : j < T.length), j < k → T[j].2.1 + lim ≠ e + til) (hx : ∀ h : k < T.length, T[k].2.1 + lim = e + til) : tailM T lim til e = k :=
 while_len _ T k hk (fun j hj hjk => by simpa using h j hj hjk) (fun hh => by simpa using hx hh)
section
variable (s : List UInt8) (frm til : Nat) (ins : List UInt8)
def at0M : Nat := endM 0 ((tokR 0 s).take (headM (tokR 0 s) frm))
def anewM : List (Nat × Nat × Nat) := newR (tokR 0 s) (frm + ins.length) til (at0M s frm) ((nowM s frm til ins).drop (at0M s frm))
def behindM : Nat := tailM (tokR 0 s) (frm + ins.length) til (endM (at0M s frm) (anewM s frm til ins))
theorem now_len (h1 : frm ≤ til) (h2 : til ≤ s.length) : (nowM s frm til ins).length = frm + ins.length + (s.length - til) := by
 unfold nowM
 rw [List.length_append, List.length_append, List.length_take, List.length_drop]
 omega
theorem tok_lt (a j : Nat) (h : j < (tokR a s).length) : (tokR a s)[j].2.1 - a < s.length := (tokR_tail j s a h).2.1
theorem at0_le (hf : frm ≤ s.length) (til : Nat) (ins : List UInt8) : at0M s frm ≤ frm :=
 (now_head s frm til ins hf (headM (tokR 0 s) frm) (headM_le _ _) (fun j hj h => headM_at _ frm j hj h)).2
structure Kp (at_ tail : Nat) (acc : List (Nat × Nat × Nat)) : Prop where
 le : at_ ≤ (nowM s frm til ins).length
 tl : tail ≤ (tokR 0 s).length
 tok : tokR (at0M s frm) ((nowM s frm til ins).drop (at0M s frm)) = acc ++ tokR at_ ((nowM s frm til ins).drop at_)
 new : anewM s frm til ins = acc ++ newR (tokR 0 s) (frm + ins.length) til at_ ((nowM s frm til ins).drop at_)
 fin : endM (at0M s frm) acc = at_
 lo : ∀ j (h : j < (tokR 0 s).length), j < tail → (tokR 0 s)[j].2.1 < til ∨ (tokR 0 s)[j].2.1 + (frm + ins.length) < at_ + til
variable {s frm til ins}
theorem endM_snoc (a : Nat) (T : List (Nat × Nat × Nat)) (t : Nat × Nat × Nat) : endM a (T ++ [t]) = t.2.1 + t.2.2 := by
 unfold endM; simp
theorem Kp.start (h1 : frm ≤ til) (h2 : til ≤ s.length) : Kp s frm til ins (at0M s frm) (headM (tokR 0 s) frm) [] := by
 have h3 := at0_le s frm (by omega) til ins
 have hl := now_len s frm til ins h1 h2
 refine ⟨by omega, headM_le _ _, rfl, rfl, rfl, fun j hj h => ?_⟩
 have := headM_at _ frm j hj h
 omega
theorem Kp.less {at_ tail : Nat} {acc : List (Nat × Nat × Nat)} (h : Kp s frm til ins at_ tail acc) (_hl : frm + ins.length ≤ at_) (ht : tail < (tokR 0 s).length) (hh : (tokR 0 s)[tail].2.1 < til ∨ (tokR 0 s)[tail].2.1 + (frm + ins.length) < at_ + til) : Kp s frm til ins at_ (tail + 1) acc :=
 ⟨h.le, ht, h.tok, h.new, h.fin, fun j hj hjt => by
  by_cases he : j = tail
  ·subst he; exact hh
  ·exact h.lo j hj (by omega)⟩
theorem Kp.next {at_ tail : Nat} {acc : List (Nat × Nat × Nat)} (h : Kp s frm til ins at_ tail acc) (hs : stopB (tokR 0 s) (frm + ins.length) til at_ = false) (hlt : at_ < (nowM s frm til ins).length) :
  Kp s frm til ins (at_ + (oneM ((nowM s frm til ins).drop at_)).2) tail (acc ++ [((oneM ((nowM s frm til ins).drop at_)).1, at_, (oneM ((nowM s frm til ins).drop at_)).2)]) := by
 have hne : (nowM s frm til ins).drop at_ ≠ [] := by intro e; have := congrArg List.length e; rw [List.length_drop, List.length_nil] at this; omega
 have h1 := one_le _ hne
 rw [List.length_drop] at h1
 refine ⟨by omega, h.tl, ?_, ?_, ?_, fun j hj hjt => ?_⟩
 ·rw [h.tok, tokR_cons at_ hne, List.drop_drop]; simp
 ·rw [h.new, newR_go _ _ _ _ hs hne, List.drop_drop]; simp
 ·rw [endM_snoc]
 ·rcases h.lo j hj hjt with h | h <;> omega
theorem Kp.go_low {at_ : Nat} (hl : ¬ frm + ins.length ≤ at_) : stopB (tokR 0 s) (frm + ins.length) til at_ = false := by
 unfold stopB
 rw [decide_eq_false hl, Bool.false_and]
theorem Kp.go_on {at_ tail : Nat} {acc : List (Nat × Nat × Nat)} (h : Kp s frm til ins at_ tail acc) (hl : frm + ins.length ≤ at_)
  (hex : ∀ h : tail < (tokR 0 s).length, til ≤ (tokR 0 s)[tail].2.1 ∧ at_ + til ≤ (tokR 0 s)[tail].2.1 + (frm + ins.length))
  (hne : ∀ h : tail < (tokR 0 s).length, (tokR 0 s)[tail].2.1 + (frm + ins.length) ≠ at_ + til) : stopB (tokR 0 s) (frm + ins.length) til at_ = false := by
 cases hb : stopB (tokR 0 s) (frm + ins.length) til at_ with
 | false => rfl
 | true =>
  obtain ⟨h1, h2⟩ := (stop_at hl h.lo hex).1 hb
  exact absurd h2 (hne h1)
theorem Kp.done {at_ tail : Nat} {acc : List (Nat × Nat × Nat)} (h : Kp s frm til ins at_ tail acc) (h1 : frm ≤ til) (h2 : til ≤ s.length) (hl : frm + ins.length ≤ at_)
  (hex : ∀ h : tail < (tokR 0 s).length, til ≤ (tokR 0 s)[tail].2.1 ∧ at_ + til ≤ (tokR 0 s)[tail].2.1 + (frm + ins.length))
  (he : (∃ h : tail < (tokR 0 s).length, (tokR 0 s)[tail].2.1 + (frm + ins.length) = at_ + til) ∨ at_ = (nowM s frm til ins).length) :
  tokR 0 (nowM s frm til ins) = (tokR 0 s).take (headM (tokR 0 s) frm) ++ acc ++ ((tokR 0 s).drop tail).map (fun t => (t.1, t.2.1 + (frm + ins.length) - til, t.2.2)) ∧
   anewM s frm til ins = acc ∧ behindM s frm til ins = tail ∧ (∀ j (hj : j < (tokR 0 s).length), tail ≤ j → til ≤ (tokR 0 s)[j].2.1 + (frm + ins.length)) := by
 have hlen := now_len s frm til ins h1 h2
 have hnow := now_head s frm til ins (by omega) (headM (tokR 0 s) frm) (headM_le _ _) (fun j hj h => headM_at _ frm j hj h)
 have hno : at_ = (nowM s frm til ins).length → ¬ tail < (tokR 0 s).length := by
  intro e ht
  have := hex ht
  have h4 := tok_lt s 0 tail ht
  omega
 have htok : tokR at_ ((nowM s frm til ins).drop at_) = ((tokR 0 s).drop tail).map (fun t => (t.1, t.2.1 + (frm + ins.length) - til, t.2.2)) := by
  rcases he with ⟨ht, e⟩ | e
  ·exact stop_rest (fun k => now_drop s frm til ins (by omega) k) hl ht e
  ·have h3 := hno e
   rw [List.drop_of_length_le (by omega), List.drop_of_length_le (by omega), tokR_nil]; rfl
 have hnew : newR (tokR 0 s) (frm + ins.length) til at_ ((nowM s frm til ins).drop at_) = [] := by
  rcases he with ⟨ht, e⟩ | e
  ·exact newR_stop _ _ _ _ _ ((stop_at hl h.lo hex).2 ⟨ht, e⟩)
  ·rw [List.drop_of_length_le (by omega), newR_nil]
 have hacc : anewM s frm til ins = acc := by rw [h.new, hnew, List.append_nil]
 refine ⟨?_, hacc, ?_, ?_⟩
 ·rw [hnow.1]
  have : tokR (at0M s frm) ((nowM s frm til ins).drop (at0M s frm)) = _ := h.tok
  unfold at0M at this
  rw [this, htok, List.append_assoc]
 ·unfold behindM
  rw [hacc, h.fin]
  refine tailM_eq _ _ _ _ _ h.tl (fun j hj hjt e => ?_) (fun ht => ?_)
  ·rcases h.lo j hj hjt with h | h <;> omega
  ·rcases he with ⟨_, e⟩ | e
   ·exact e
   ·exact absurd ht (hno e)
 ·intro j hj hjt
  have ht : tail < (tokR 0 s).length := by omega
  have := hex ht
  rcases Nat.lt_or_ge tail j with h | h
  ·have := tokR_sorted s 0 tail j hj h
   omega
  ·obtain rfl : tail = j := by omega
   omega
theorem stay_stop {at_ k : Nat} {acc : List (Nat × Nat × Nat)} (hnew : anewM s frm til ins = acc ++ newR (tokR 0 s) (frm + ins.length) til at_ ((nowM s frm til ins).drop at_)) (hfin : endM (at0M s frm) acc = at_)
  (hl : frm + ins.length ≤ at_) (hk : k < (tokR 0 s).length) (he : (tokR 0 s)[k].2.1 + (frm + ins.length) = at_ + til) : anewM s frm til ins = acc ∧ behindM s frm til ins = k := by
 have hs : stopB (tokR 0 s) (frm + ins.length) til at_ = true := by
  unfold stopB
  rw [decide_eq_true hl, Bool.true_and, List.any_eq_true]
  exact ⟨_, List.getElem_mem hk, by simp; omega⟩
 have hacc : anewM s frm til ins = acc := by rw [hnew, newR_stop _ _ _ _ _ hs, List.append_nil]
 refine ⟨hacc, ?_⟩
 unfold behindM
 rw [hacc, hfin]
 refine tailM_eq _ _ _ _ _ (by omega) (fun j hj hjt e => ?_) (fun _ => he)
 have := tokR_sorted s 0 j k hk hjt
 omega
theorem stay_go {at_ : Nat} (hno : ∀ j (hj : j < (tokR 0 s).length), (tokR 0 s)[j].2.1 + (frm + ins.length) ≠ at_ + til) : stopB (tokR 0 s) (frm + ins.length) til at_ = false := by
 cases hb : stopB (tokR 0 s) (frm + ins.length) til at_ with
 | false => rfl
 | true =>
  exfalso
  unfold stopB at hb
  rw [Bool.and_eq_true, decide_eq_true_eq, List.any_eq_true] at hb
  obtain ⟨hl, t, hm, he⟩ := hb
  obtain ⟨j, hj, rfl⟩ := List.getElem_of_mem hm
  have he : (tokR 0 s)[j].2.1 = at_ - (frm + ins.length) + til := by simpa using he
  exact hno j hj (by omega)
theorem stay_end {at_ : Nat} {acc : List (Nat × Nat × Nat)} (hnew : anewM s frm til ins = acc ++ newR (tokR 0 s) (frm + ins.length) til at_ ((nowM s frm til ins).drop at_)) (hfin : endM (at0M s frm) acc = at_)
  (h1 : frm ≤ til) (h2 : til ≤ s.length) (he : at_ = (nowM s frm til ins).length) : anewM s frm til ins = acc ∧ behindM s frm til ins = (tokR 0 s).length := by
 have hlen := now_len s frm til ins h1 h2
 have hacc : anewM s frm til ins = acc := by rw [hnew, List.drop_of_length_le (by omega), newR_nil, List.append_nil]
 refine ⟨hacc, ?_⟩
 unfold behindM
 rw [hacc, hfin]
 refine tailM_eq _ _ _ _ _ (Nat.le_refl _) (fun j hj _ e => ?_) (fun h => absurd h (Nat.lt_irrefl _))
 have := tok_lt s 0 j hj
 omega
end
theorem Kp.reach {s : List UInt8} {frm til : Nat} {ins : List UInt8} : ∀ (n at_ tail : Nat) (acc : List (Nat × Nat × Nat)), (nowM s frm til ins).length - at_ ≤ n → Kp s frm til ins at_ tail acc →
  ∃ at' acc', Kp s frm til ins at' tail acc' ∧ (stopB (tokR 0 s) (frm + ins.length) til at' = true ∨ at' = (nowM s frm til ins).length)
 | 0, at_, tail, acc, hn, h => ⟨at_, acc, h, .inr (by have := h.le; omega)⟩
 | n + 1, at_, tail, acc, hn, h => by
  cases hs : stopB (tokR 0 s) (frm + ins.length) til at_ with
  | true => exact ⟨at_, acc, h, .inl hs⟩
  | false =>
   by_cases he : at_ = (nowM s frm til ins).length
   ·exact ⟨at_, acc, h, .inr he⟩
   ·have hlt : at_ < (nowM s frm til ins).length := by have := h.le; omega
    have hne : (nowM s frm til ins).drop at_ ≠ [] := by intro e; have := congrArg List.length e; rw [List.length_drop, List.length_nil] at this; omega
    have h1 := one_le _ hne
    exact Kp.reach n _ tail _ (by omega) (h.next hs hlt)
theorem tok_end (s : List UInt8) (j : Nat) (hj : j < (tokR 0 s).length) : (tokR 0 s)[j].2.1 + (tokR 0 s)[j].2.2 ≤ s.length := by
 obtain ⟨_, _, h⟩ := tokR_split (j + 1) s 0 hj
 rw [endM_take 0 _ j hj] at h
 omega
theorem at0_zero (s : List UInt8) (frm : Nat) (h : headM (tokR 0 s) frm = 0) : at0M s frm = 0 := by
 unfold at0M; rw [h]; rfl
theorem at0_succ (s : List UInt8) (frm k : Nat) (h : headM (tokR 0 s) frm = k + 1) : ∃ hk : k < (tokR 0 s).length, at0M s frm = (tokR 0 s)[k].2.1 + (tokR 0 s)[k].2.2 := by
 have := headM_le (tokR 0 s) frm
 refine ⟨by omega, ?_⟩
 unfold at0M
 rw [h, endM_take 0 _ k (by omega)]
end Go.Proofs.YtalklmeejdmifaaGreatDoor.Lx
