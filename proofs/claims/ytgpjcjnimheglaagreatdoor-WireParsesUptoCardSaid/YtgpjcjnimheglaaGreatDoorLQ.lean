/-
  THE PLAIN LAW of texts that stand for texts: quoted, and back.
-/
import Derived.Test.YtgpjcjnimheglaaGreatDoorLR
namespace Go.Proofs.YtgpjcjnimheglaaGreatDoor.Lx

def hexD (n : Nat) : UInt8 := UInt8.ofNat (if n < 10 then 48 + n else 87 + n)
def hexS (n : Nat) : List UInt8 := if n < 16 then [hexD n] else [hexD (n / 16), hexD (n % 16)]
/-- what a byte is quoted as -/
def quoB (c : UInt8) : List UInt8 :=
  if c = 10 then [92, 110] else if c = 9 then [92, 116] else if c = 34 ∨ c = 92 then [92, c] else if c.toNat < 32 ∨ c = 127 then [92, 117, 123] ++ hexS c.toNat ++ [125] else [c]
def quoI (s : List UInt8) : List UInt8 := s.flatMap quoB
def quoM (s : List UInt8) : List UInt8 := 34 :: (quoI s ++ [34])
/-- the bytes of a character -/
def enc (c : Nat) : List UInt8 := (Utf8.encode c).data.toList
/-- what stands between the signs stands for this -/
def unqF : Nat → List UInt8 → List UInt8
  | 0, _ => []
  | f + 1, l =>
    match l with
    | [] => []
    | a :: t =>
      if a = 92 then
        match escM t with
        | some (c, n) => enc c ++ unqF f (t.drop n)
        | none => unqF f t
      else a :: unqF f t
def unq (l : List UInt8) : List UInt8 := unqF l.length l
theorem unqF_fuel : ∀ (f g : Nat) (l : List UInt8), l.length ≤ f → l.length ≤ g → unqF f l = unqF g l
  | 0, 0, _, _, _ => rfl
  | 0, g + 1, l, h, _ => by
    have : l = [] := List.eq_nil_of_length_eq_zero (by omega)
    subst this; simp [unqF]
  | f + 1, 0, l, _, h => by
    have : l = [] := List.eq_nil_of_length_eq_zero (by omega)
    subst this; simp [unqF]
  | f + 1, g + 1, l, h1, h2 => by
    cases l with
    | nil => simp [unqF]
    | cons a t =>
      simp only [List.length_cons] at h1 h2
      have hd : ∀ n, unqF f (t.drop n) = unqF g (t.drop n) := fun n => unqF_fuel f g _ (by rw [List.length_drop]; omega) (by rw [List.length_drop]; omega)
      have h0 := hd 0
      rw [List.drop_zero] at h0
      simp only [unqF]
      split
      · cases escM t with
        | none => exact h0
        | some x => obtain ⟨c, n⟩ := x; simp only [hd]
      · rw [h0]
theorem unq_nil : unq [] = [] := rfl
theorem unq_plain (a : UInt8) (t : List UInt8) (h : a ≠ 92) : unq (a :: t) = a :: unq t := by
  simp only [unq, List.length_cons, unqF, if_neg h]
theorem unq_esc (t : List UInt8) (c n : Nat) (h : escM t = some (c, n)) : unq (92 :: t) = enc c ++ unq (t.drop n) := by
  have e : unqF t.length (t.drop n) = unqF (t.drop n).length (t.drop n) := unqF_fuel _ _ _ (by rw [List.length_drop]; omega) (Nat.le_refl _)
  simp only [unq, List.length_cons, unqF, if_true, h, e]
theorem unq_bad (t : List UInt8) (h : escM t = none) : unq (92 :: t) = unq t := by
  simp only [unq, List.length_cons, unqF, if_true, h]

/-- behind its sign this is a text up to its closing sign, with right escapes alone -/
def right (l : List UInt8) : Prop := textR true (l ++ [34]) = (l.length + 1, true, true)

theorem textR_false : ∀ (n : Nat) (l : List UInt8), l.length = n → (textR false l).2.2 = false := by
  intro n
  induction n using Nat.strongRecOn with
  | _ n ih =>
    intro l hl
    cases l with
    | nil => rw [textR_nil]
    | cons a t =>
      simp only [List.length_cons] at hl
      have hd : ∀ k, (textR false (t.drop k)).2.2 = false := fun k => ih (t.drop k).length (by rw [List.length_drop]; omega) _ rfl
      by_cases h1 : a = 10
      · subst h1; rw [textR_end]
      · by_cases h2 : a = 34
        · subst h2; rw [textR_shut]
        · by_cases h3 : a = 92
          · subst h3
            cases he : escM t with
            | some x => obtain ⟨c, k⟩ := x; rw [textR_esc false t c k he]; exact hd k
            | none => rw [textR_bad false t he _ rfl]; exact hd _
          · rw [textR_plain false a t h1 h2 h3]
            have := hd 0
            rwa [List.drop_zero] at this

theorem tw_pre (p : UInt8 → Bool) : ∀ (q u : List UInt8), ((q ++ u).takeWhile p).length < q.length → q.takeWhile p = (q ++ u).takeWhile p ∧ ∃ x ∈ q, p x = false
  | [], u, h => by simp at h
  | a :: q, u, h => by
    cases ha : p a with
    | true =>
      simp only [List.cons_append, List.takeWhile_cons, ha, if_true, List.length_cons] at h ⊢
      obtain ⟨h1, x, hx, hp⟩ := tw_pre p q u (by omega)
      exact ⟨by rw [h1], x, by simp [hx], hp⟩
    | false =>
      refine ⟨by simp [ha], a, by simp, ha⟩

theorem code_pre (r u : List UInt8) (c m : Nat) (h : codeM (r ++ u) = some (c, m)) (hm : m ≤ r.length) : codeM r = some (c, m) := by
  have h3 := (code_le _ _ _ h).1
  cases r with
  | nil => simp at hm; omega
  | cons b q =>
    rw [List.cons_append] at h
    unfold codeM at h ⊢
    simp only at h ⊢
    split at h
    · cases h
    · rename_i hb
      rw [if_neg hb]
      split at h
      · cases h
      · (try simp only at h ⊢)
        split at h
        · cases h
        · rename_i hl
          split at h
          · cases h
          · rename_i n hn
            split at h
            · cases h
            · rename_i hx
              injection h with h; injection h with h1 h2
              simp only [List.length_cons] at hm
              obtain ⟨e, x, hx1, hx2⟩ := tw_pre (· != 125) q u (by omega)
              have hmem : (125 : UInt8) ∈ q := by
                have : x = 125 := by simpa using hx2
                rwa [← this]
              rw [if_neg (by simpa using hmem), e, if_neg hl, hn]
              simp only
              rw [if_neg hx, h1, h2]
theorem esc_pre (t u : List UInt8) (c n : Nat) (h : escM (t ++ u) = some (c, n)) (hn : n ≤ t.length) : escM t = some (c, n) := by
  have h1 := (esc_le _ _ _ h).1
  cases t with
  | nil => simp at hn; omega
  | cons a r =>
    rw [List.cons_append] at h
    unfold escM at h ⊢
    simp only at h ⊢
    split at h
    · rename_i g; rw [if_pos g]; exact h
    · rename_i g; rw [if_neg g]
      split at h
      · rename_i g2; rw [if_pos g2]; exact h
      · rename_i g2; rw [if_neg g2]
        split at h
        · rename_i g3; rw [if_pos g3]; exact h
        · rename_i g3; rw [if_neg g3]
          split at h
          · rename_i g4
            rw [if_pos g4]
            rw [Option.map_eq_some_iff] at h ⊢
            obtain ⟨⟨c', n'⟩, hc, he⟩ := h
            refine ⟨(c', n'), code_pre r u c' n' hc ?_, he⟩
            injection he with e1 e2
            simp only [List.length_cons] at hn
            omega
          · cases h

theorem right_nil : right [] := by
  unfold right; rw [List.nil_append, textR_shut]; rfl
theorem right_plain (a : UInt8) (t : List UInt8) (h1 : a ≠ 10) (h2 : a ≠ 34) (h3 : a ≠ 92) : right (a :: t) ↔ right t := by
  unfold right
  rw [List.cons_append, textR_plain true a _ h1 h2 h3]
  constructor
  · intro h
    have e1 := congrArg Prod.fst h
    have e2 := congrArg Prod.snd h
    simp only [List.length_cons] at e1 e2
    exact Prod.ext (by simp only; omega) e2
  · intro h; rw [h]; rfl
theorem right_esc (t : List UInt8) (c n : Nat) (h : escM (t ++ [34]) = some (c, n)) (hn : n ≤ t.length) : right (92 :: t) ↔ right (t.drop n) := by
  unfold right
  rw [List.cons_append, textR_esc true _ c n h, List.drop_append_of_le_length hn]
  constructor
  · intro h
    have e1 := congrArg Prod.fst h
    have e2 := congrArg Prod.snd h
    simp only [List.length_cons] at e1 e2
    exact Prod.ext (by simp only [List.length_drop]; omega) e2
  · intro h; rw [h]
    refine Prod.ext ?_ rfl
    simp only [List.length_drop, List.length_cons]; omega

/-- a right text, byte for byte or escape for escape -/
theorem right_cases (l : List UInt8) (h : right l) : l = [] ∨ (∃ a t, l = a :: t ∧ a ≠ 92 ∧ a ≠ 10 ∧ a ≠ 34 ∧ right t) ∨ ∃ t c n, l = 92 :: t ∧ escM t = some (c, n) ∧ escM (t ++ [34]) = some (c, n) ∧ 1 ≤ n ∧ n ≤ t.length ∧ right (t.drop n) := by
  cases l with
  | nil => exact .inl rfl
  | cons a t =>
    by_cases h1 : a = 10
    · subst h1; unfold right at h; rw [List.cons_append, textR_end] at h
      have := congrArg (·.2.1) h; simp at this
    · by_cases h2 : a = 34
      · subst h2; unfold right at h; rw [List.cons_append, textR_shut] at h
        have := congrArg (·.1) h; simp at this
      · by_cases h3 : a = 92
        · subst h3
          refine .inr (.inr ?_)
          cases he : escM (t ++ [34]) with
          | none =>
            unfold right at h
            rw [List.cons_append, textR_bad true _ he _ rfl] at h
            have e := congrArg (·.2.2) h
            simp only at e
            rw [textR_false _ _ rfl] at e
            cases e
          | some x =>
            obtain ⟨c, n⟩ := x
            obtain ⟨k1, k2, _⟩ := esc_le _ _ _ he
            rw [List.length_append] at k2
            simp only [List.length_cons, List.length_nil] at k2
            have hn : n ≤ t.length := by
              rcases Nat.lt_or_ge t.length n with hlt | hge
              · exfalso
                unfold right at h
                rw [List.cons_append, textR_esc true _ c n he, List.drop_of_length_le (by simp; omega), textR_nil] at h
                have := congrArg (·.2.1) h; simp at this
              · exact hge
            exact ⟨t, c, n, rfl, esc_pre t [34] c n he hn, he, k1, hn, (right_esc t c n he hn).1 h⟩
        · exact .inr (.inl ⟨a, t, rfl, h3, h1, h2, (right_plain a t h1 h2 h3).1 h⟩)

theorem codeM_of (D rest : List UInt8) (n : Nat) (h125 : (125 : UInt8) ∉ D) (h1 : 1 ≤ D.length) (h6 : D.length ≤ 6) (hn : hexN 0 D = some n) (hm : ¬ (n > 1114111 ∨ (55296 ≤ n ∧ n ≤ 57343))) : codeM (123 :: (D ++ 125 :: rest)) = some (n, D.length + 2) := by
  have e : (D ++ 125 :: rest).takeWhile (· != 125) = D := by
    have key : ∀ D : List UInt8, (125 : UInt8) ∉ D → (D ++ 125 :: rest).takeWhile (· != 125) = D := by
      intro D
      induction D with
      | nil => intro _; simp
      | cons a D ih =>
        intro h
        rw [List.mem_cons, not_or] at h
        have ha : (a != 125) = true := by simp; exact fun e => h.1 e.symm
        rw [List.cons_append, List.takeWhile_cons, if_pos ha, ih h.2]
    exact key D h125
  unfold codeM
  simp only [ne_eq, not_true_eq_false, if_false]
  rw [if_neg (by simp), e, if_neg (by omega), hn]
  simp only
  rw [if_neg hm]

theorem ctl_fin : ∀ i : Fin 256, (125 : UInt8) ∉ hexS i.val ∧ 1 ≤ (hexS i.val).length ∧ (hexS i.val).length ≤ 6 ∧ hexN 0 (hexS i.val) = some i.val := by decide +kernel
theorem enc_fin : ∀ i : Fin 128, enc i.val = [UInt8.ofNat i.val] := by decide +kernel
theorem enc_byte (c : UInt8) (h : c.toNat < 128) : enc c.toNat = [c] := by
  have := enc_fin ⟨c.toNat, h⟩
  rw [this]; simp

/-- each byte that is quoted is one right step, which brings it back -/
theorem quo_step (c : UInt8) (t : List UInt8) : (right (quoB c ++ t) ↔ right t) ∧ unq (quoB c ++ t) = c :: unq t := by
  unfold quoB
  have step : ∀ (x : List UInt8) (v n : Nat) (hx : x.length = n) (he : ∀ u, escM (x ++ u) = some (v, n)), (right (92 :: x ++ t) ↔ right t) ∧ unq (92 :: x ++ t) = enc v ++ unq t := by
    intro x v n hx he
    have hd : (x ++ t).drop n = t := by rw [← hx]; simp
    refine ⟨?_, ?_⟩
    · have := right_esc (x ++ t) v n (by rw [List.append_assoc]; exact he _) (by rw [List.length_append]; omega)
      rw [hd] at this
      exact this
    · have := unq_esc (x ++ t) v n (he t)
      rw [hd] at this
      exact this
  split
  · rename_i h; subst h
    exact step [110] 10 1 rfl fun u => rfl
  split
  · rename_i h; subst h
    exact step [116] 9 1 rfl fun u => rfl
  split
  · rename_i h10 h9 h
    have hb : c.toNat < 128 := by rcases h with rfl | rfl <;> decide
    have := step [c] c.toNat 1 rfl fun u => by rcases h with rfl | rfl <;> rfl
    rw [enc_byte c hb] at this
    exact this
  split
  · rename_i h10 h9 h34 h
    have hb : c.toNat < 128 := by
      rcases h with h | rfl
      · omega
      · decide
    obtain ⟨f1, f2, f3, f4⟩ := ctl_fin ⟨c.toNat, c.toNat_lt⟩
    have := step (117 :: 123 :: (hexS c.toNat ++ [125])) c.toNat ((hexS c.toNat).length + 3) (by simp) fun u => by
      have hc := codeM_of (hexS c.toNat) u c.toNat f1 f2 f3 f4 (by omega)
      have e : (117 :: 123 :: (hexS c.toNat ++ [125]) : List UInt8) ++ u = 117 :: 123 :: (hexS c.toNat ++ 125 :: u) := by simp
      rw [e]
      unfold escM
      simp only [if_neg (by decide : ¬ (117 : UInt8) = 110), if_neg (by decide : ¬ (117 : UInt8) = 116), if_neg (by decide : ¬ ((117 : UInt8) = 34 ∨ (117 : UInt8) = 92)), if_true, hc]
      rfl
    rw [enc_byte c hb] at this
    simpa using this
  · rename_i h10 h9 h34 h
    have h2 : c ≠ 34 := fun e => h34 (.inl e)
    have h3 : c ≠ 92 := fun e => h34 (.inr e)
    exact ⟨right_plain c t h10 h2 h3, unq_plain c t h3⟩
theorem quo_all : ∀ s : List UInt8, right (quoI s) ∧ unq (quoI s) = s
  | [] => ⟨right_nil, rfl⟩
  | c :: s => by
    obtain ⟨h1, h2⟩ := quo_all s
    have e : quoI (c :: s) = quoB c ++ quoI s := by simp [quoI]
    rw [e]
    obtain ⟨h3, h4⟩ := quo_step c (quoI s)
    exact ⟨h3.2 h1, by rw [h4, h2]⟩

/-- a text is a token of this kind alone -/
def aloneB (l : List UInt8) (k : Nat) : Bool := !l.isEmpty && decide ((oneM l).1 = k) && decide ((oneM l).2 = l.length)
theorem alone_tok (l : List UInt8) (k : Nat) : aloneB l k = true ↔ ∃ n, tokR 0 l = [(k, 0, n)] := by
  unfold aloneB
  cases l with
  | nil => simp [tokR_nil]
  | cons a t =>
    have hne : (a :: t) ≠ [] := by simp
    obtain ⟨h1, h2, _⟩ := one_le (a :: t) hne
    rw [tokR_cons 0 hne]
    generalize oneM (a :: t) = X at *
    obtain ⟨x, n⟩ := X
    simp only at h1 h2
    simp only [List.isEmpty_cons, Bool.not_false, Bool.true_and, Bool.and_eq_true, decide_eq_true_eq]
    constructor
    · rintro ⟨rfl, hn⟩
      refine ⟨n, ?_⟩
      rw [hn, List.drop_length, tokR_nil]
    · rintro ⟨m, hm⟩
      injection hm with hm1 hm2
      injection hm1 with hx _
      refine ⟨hx, ?_⟩
      rcases Nat.lt_or_ge n (a :: t).length with hlt | hge
      · rw [tokR_cons _ (by intro e; have := congrArg List.length e; rw [List.length_drop] at this; simp only [List.length_nil] at this; omega)] at hm2
        cases hm2
      · omega

theorem dec_34 (t : List UInt8) : dec (34 :: t) = (34, 1) := by
  have hb : byteAt (34 :: t) 0 = 34 := rfl
  rw [dec_small (by rw [hb]; decide), hb]
theorem quote_one (s : List UInt8) : oneM (quoM s) = (6, (quoM s).length) := by
  have hr := (quo_all s).1
  unfold right at hr
  unfold quoM
  generalize quoI s = q at *
  unfold oneM
  rw [dec_34, if_neg (by decide), if_neg (by simp [List.isPrefixOf]), if_neg (by simp [List.isPrefixOf]), if_neg (by decide), if_neg (by decide), if_pos rfl]
  have e : textM ((34 :: (q ++ [34])).drop 1) = (q.length + 1, true, true) := hr
  rw [e]
  simp
/-- what is a text alone is its signs round a right text -/
theorem alone_text (l : List UInt8) (h : aloneB l 6 = true) : ∃ q, l = 34 :: (q ++ [34]) ∧ right q := by
  unfold aloneB at h
  simp only [Bool.and_eq_true, decide_eq_true_eq] at h
  obtain ⟨⟨h0, h1⟩, h2⟩ := h
  unfold oneM at h1 h2
  split at h1
  · simp at h1
  split at h1
  · simp at h1
  split at h1
  · split at h1 <;> simp at h1
  split at h1
  · simp only at h1; split at h1 <;> simp at h1
  split at h1
  · simp only at h1; split at h1 <;> simp at h1
  split at h1
  · rename_i g1 g2 g3 g4 g5 g6
    rw [if_neg g1, if_neg g2, if_neg g3, if_neg g4, if_neg g5, if_pos g6] at h2
    simp only at h1 h2
    split at h1
    · rename_i hok
      have hl : ∃ t, l = 34 :: t := by
        cases l with
        | nil => simp at h0
        | cons a t =>
          have hb : byteAt (a :: t) 0 = a.toNat := rfl
          rcases Nat.lt_or_ge a.toNat 128 with hh | hh
          · rw [dec_small (by rw [hb]; exact hh), hb] at g6
            exact ⟨t, by rw [UInt8.toNat_inj.1 (show a.toNat = (34 : UInt8).toNat from g6)]⟩
          · have := dec_big (l := a :: t) (by rw [hb]; exact hh)
            omega
      obtain ⟨t, rfl⟩ := hl
      have e : (34 :: t : List UInt8).drop 1 = t := rfl
      rw [e] at h2 hok
      have ht : textM t = (t.length, true, true) := by
        have : (textM t).1 = t.length := by simp only [List.length_cons] at h2; omega
        exact Prod.ext this (Prod.ext hok.1 hok.2)
      -- the text ends with its closing sign
      have key : ∀ (n : Nat) (t : List UInt8), t.length = n → ∀ r : Bool, (textR r t).1 = t.length → (textR r t).2.1 = true → ∃ q, t = q ++ [34] := by
        intro n
        induction n using Nat.strongRecOn with
        | _ n ih =>
          intro t hn r hx hy
          cases t with
          | nil => rw [textR_nil] at hy; cases hy
          | cons a u =>
            simp only [List.length_cons] at hn
            by_cases k1 : a = 10
            · subst k1; rw [textR_end] at hy; cases hy
            · by_cases k2 : a = 34
              · subst k2; rw [textR_shut] at hx
                simp only [List.length_cons] at hx
                have : u = [] := List.eq_nil_of_length_eq_zero (by omega)
                subst this
                exact ⟨[], rfl⟩
              · by_cases k3 : a = 92
                · subst k3
                  have go : ∀ (k : Nat) (b : Bool), k ≤ u.length → textR r (92 :: u) = ((textR b (u.drop k)).1 + (1 + k), (textR b (u.drop k)).2) → ∃ q, 92 :: u = q ++ [34] := fun k b hk e => by
                    rw [e] at hx hy
                    simp only [List.length_cons] at hx
                    obtain ⟨q, hq⟩ := ih (u.drop k).length (by rw [List.length_drop]; omega) _ rfl b (by rw [List.length_drop]; omega) hy
                    refine ⟨92 :: (u.take k ++ q), ?_⟩
                    rw [List.cons_append, List.append_assoc, ← hq, List.take_append_drop]
                  cases he : escM u with
                  | some x =>
                    obtain ⟨c, k⟩ := x
                    exact go k r (esc_le _ _ _ he).2.1 (textR_esc r u c k he)
                  | none =>
                    refine go _ false ?_ (textR_bad r u he _ rfl)
                    split
                    · omega
                    · rename_i hh; exact dec_le u (by intro e; exact hh (Or.inl (by rw [e]; rfl)))
                · rw [textR_plain r a u k1 k2 k3] at hx hy
                  simp only [List.length_cons] at hx
                  obtain ⟨q, hq⟩ := ih u.length (by omega) u rfl r (by omega) hy
                  exact ⟨a :: q, by rw [hq]; rfl⟩
      obtain ⟨q, rfl⟩ := key _ t rfl true (by show (textM t).1 = _; rw [ht]) (by show (textM t).2.1 = _; rw [ht])
      refine ⟨q, rfl, ?_⟩
      unfold right
      have : textM (q ++ [34]) = ((q ++ [34]).length, true, true) := ht
      rw [List.length_append] at this
      exact this
    · simp at h1
  split at h1 <;> simp at h1
end Go.Proofs.YtgpjcjnimheglaaGreatDoor.Lx
