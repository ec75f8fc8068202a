/-
  JOINED of the texts LQ PM NA
-/
import Derived.Test.YtgpjcjnimheglaaDoorJaa
import Derived.Lib.RuneBytes
import Derived.Lib.Strings
import Derived.Lib.ItoaNum
/-
  THE PLAIN LAW of texts that stand for texts: quoted, and back.
-/
namespace Go.Proofs.YtgpjcjnimheglaaDoor.Lx

def hexD (n : Nat) : UInt8 := UInt8.ofNat (if n < 10 then 48 + n else 87 + n)
def hexS (n : Nat) : List UInt8 := if n < 16 then [hexD n] else [hexD (n / 16), hexD (n % 16)]
/-- what a byte is quoted as -/
def quoB (c : UInt8) : List UInt8 :=
  if c = 10 then [92, 110] else if c = 9 then [92, 116] else if c = 34 ∨ c = 92 then [92, c] else if c.toNat < 32 ∨ c = 127 then [92, 117, 123] ++ hexS c.toNat ++ [125] else [c]
def quoI (s : List UInt8) : List UInt8 := s.flatMap quoB
def quoM (s : List UInt8) : List UInt8 := 34 :: (quoI s ++ [34])
/-- the bytes of a character -/
def enc (c : Nat) : List UInt8 := (Utf8.encode c).data.toList
/-- what stands between the signs stands for this -/
def unqF : Nat → List UInt8 → List UInt8
  | 0, _ => []
  | f + 1, l =>
    match l with
    | [] => []
    | a :: t =>
      if a = 92 then
        match escM t with
        | some (c, n) => enc c ++ unqF f (t.drop n)
        | none => unqF f t
      else a :: unqF f t
def unq (l : List UInt8) : List UInt8 := unqF l.length l
theorem unqF_fuel : ∀ (f g : Nat) (l : List UInt8), l.length ≤ f → l.length ≤ g → unqF f l = unqF g l
  | 0, 0, _, _, _ => rfl
  | 0, g + 1, l, h, _ => by
    have : l = [] := List.eq_nil_of_length_eq_zero (by omega)
    subst this; simp [unqF]
  | f + 1, 0, l, _, h => by
    have : l = [] := List.eq_nil_of_length_eq_zero (by omega)
    subst this; simp [unqF]
  | f + 1, g + 1, l, h1, h2 => by
    cases l with
    | nil => simp [unqF]
    | cons a t =>
      simp only [List.length_cons] at h1 h2
      have hd : ∀ n, unqF f (t.drop n) = unqF g (t.drop n) := fun n => unqF_fuel f g _ (by rw [List.length_drop]; omega) (by rw [List.length_drop]; omega)
      have h0 := hd 0
      rw [List.drop_zero] at h0
      simp only [unqF]
      split
      · cases escM t with
        | none => exact h0
        | some x => obtain ⟨c, n⟩ := x; simp only [hd]
      · rw [h0]
theorem unq_nil : unq [] = [] := rfl
theorem unq_plain (a : UInt8) (t : List UInt8) (h : a ≠ 92) : unq (a :: t) = a :: unq t := by
  simp only [unq, List.length_cons, unqF, if_neg h]
theorem unq_esc (t : List UInt8) (c n : Nat) (h : escM t = some (c, n)) : unq (92 :: t) = enc c ++ unq (t.drop n) := by
  have e : unqF t.length (t.drop n) = unqF (t.drop n).length (t.drop n) := unqF_fuel _ _ _ (by rw [List.length_drop]; omega) (Nat.le_refl _)
  simp only [unq, List.length_cons, unqF, if_true, h, e]
theorem unq_bad (t : List UInt8) (h : escM t = none) : unq (92 :: t) = unq t := by
  simp only [unq, List.length_cons, unqF, if_true, h]

/-- behind its sign this is a text up to its closing sign, with right escapes alone -/
def right (l : List UInt8) : Prop := textR true (l ++ [34]) = (l.length + 1, true, true)

theorem textR_false : ∀ (n : Nat) (l : List UInt8), l.length = n → (textR false l).2.2 = false := by
  intro n
  induction n using Nat.strongRecOn with
  | _ n ih =>
    intro l hl
    cases l with
    | nil => rw [textR_nil]
    | cons a t =>
      simp only [List.length_cons] at hl
      have hd : ∀ k, (textR false (t.drop k)).2.2 = false := fun k => ih (t.drop k).length (by rw [List.length_drop]; omega) _ rfl
      by_cases h1 : a = 10
      · subst h1; rw [textR_end]
      · by_cases h2 : a = 34
        · subst h2; rw [textR_shut]
        · by_cases h3 : a = 92
          · subst h3
            cases he : escM t with
            | some x => obtain ⟨c, k⟩ := x; rw [textR_esc false t c k he]; exact hd k
            | none => rw [textR_bad false t he _ rfl]; exact hd _
          · rw [textR_plain false a t h1 h2 h3]
            have := hd 0
            rwa [List.drop_zero] at this

theorem tw_pre (p : UInt8 → Bool) : ∀ (q u : List UInt8), ((q ++ u).takeWhile p).length < q.length → q.takeWhile p = (q ++ u).takeWhile p ∧ ∃ x ∈ q, p x = false
  | [], u, h => by simp at h
  | a :: q, u, h => by
    cases ha : p a with
    | true =>
      simp only [List.cons_append, List.takeWhile_cons, ha, if_true, List.length_cons] at h ⊢
      obtain ⟨h1, x, hx, hp⟩ := tw_pre p q u (by omega)
      exact ⟨by rw [h1], x, by simp [hx], hp⟩
    | false =>
      refine ⟨by simp [ha], a, by simp, ha⟩

theorem code_pre (r u : List UInt8) (c m : Nat) (h : codeM (r ++ u) = some (c, m)) (hm : m ≤ r.length) : codeM r = some (c, m) := by
  have h3 := (code_le _ _ _ h).1
  cases r with
  | nil => simp at hm; omega
  | cons b q =>
    rw [List.cons_append] at h
    unfold codeM at h ⊢
    simp only at h ⊢
    split at h
    · cases h
    · rename_i hb
      rw [if_neg hb]
      split at h
      · cases h
      · (try simp only at h ⊢)
        split at h
        · cases h
        · rename_i hl
          split at h
          · cases h
          · rename_i n hn
            split at h
            · cases h
            · rename_i hx
              injection h with h; injection h with h1 h2
              simp only [List.length_cons] at hm
              obtain ⟨e, x, hx1, hx2⟩ := tw_pre (· != 125) q u (by omega)
              have hmem : (125 : UInt8) ∈ q := by
                have : x = 125 := by simpa using hx2
                rwa [← this]
              rw [if_neg (by simpa using hmem), e, if_neg hl, hn]
              simp only
              rw [if_neg hx, h1, h2]
theorem esc_pre (t u : List UInt8) (c n : Nat) (h : escM (t ++ u) = some (c, n)) (hn : n ≤ t.length) : escM t = some (c, n) := by
  have h1 := (esc_le _ _ _ h).1
  cases t with
  | nil => simp at hn; omega
  | cons a r =>
    rw [List.cons_append] at h
    unfold escM at h ⊢
    simp only at h ⊢
    split at h
    · rename_i g; rw [if_pos g]; exact h
    · rename_i g; rw [if_neg g]
      split at h
      · rename_i g2; rw [if_pos g2]; exact h
      · rename_i g2; rw [if_neg g2]
        split at h
        · rename_i g3; rw [if_pos g3]; exact h
        · rename_i g3; rw [if_neg g3]
          split at h
          · rename_i g4
            rw [if_pos g4]
            rw [Option.map_eq_some_iff] at h ⊢
            obtain ⟨⟨c', n'⟩, hc, he⟩ := h
            refine ⟨(c', n'), code_pre r u c' n' hc ?_, he⟩
            injection he with e1 e2
            simp only [List.length_cons] at hn
            omega
          · cases h

theorem right_nil : right [] := by
  unfold right; rw [List.nil_append, textR_shut]; rfl
theorem right_plain (a : UInt8) (t : List UInt8) (h1 : a ≠ 10) (h2 : a ≠ 34) (h3 : a ≠ 92) : right (a :: t) ↔ right t := by
  unfold right
  rw [List.cons_append, textR_plain true a _ h1 h2 h3]
  constructor
  · intro h
    have e1 := congrArg Prod.fst h
    have e2 := congrArg Prod.snd h
    simp only [List.length_cons] at e1 e2
    exact Prod.ext (by simp only; omega) e2
  · intro h; rw [h]; rfl
theorem right_esc (t : List UInt8) (c n : Nat) (h : escM (t ++ [34]) = some (c, n)) (hn : n ≤ t.length) : right (92 :: t) ↔ right (t.drop n) := by
  unfold right
  rw [List.cons_append, textR_esc true _ c n h, List.drop_append_of_le_length hn]
  constructor
  · intro h
    have e1 := congrArg Prod.fst h
    have e2 := congrArg Prod.snd h
    simp only [List.length_cons] at e1 e2
    exact Prod.ext (by simp only [List.length_drop]; omega) e2
  · intro h; rw [h]
    refine Prod.ext ?_ rfl
    simp only [List.length_drop, List.length_cons]; omega

/-- a right text, byte for byte or escape for escape -/
theorem right_cases (l : List UInt8) (h : right l) : l = [] ∨ (∃ a t, l = a :: t ∧ a ≠ 92 ∧ a ≠ 10 ∧ a ≠ 34 ∧ right t) ∨ ∃ t c n, l = 92 :: t ∧ escM t = some (c, n) ∧ escM (t ++ [34]) = some (c, n) ∧ 1 ≤ n ∧ n ≤ t.length ∧ right (t.drop n) := by
  cases l with
  | nil => exact .inl rfl
  | cons a t =>
    by_cases h1 : a = 10
    · subst h1; unfold right at h; rw [List.cons_append, textR_end] at h
      have := congrArg (·.2.1) h; simp at this
    · by_cases h2 : a = 34
      · subst h2; unfold right at h; rw [List.cons_append, textR_shut] at h
        have := congrArg (·.1) h; simp at this
      · by_cases h3 : a = 92
        · subst h3
          refine .inr (.inr ?_)
          cases he : escM (t ++ [34]) with
          | none =>
            unfold right at h
            rw [List.cons_append, textR_bad true _ he _ rfl] at h
            have e := congrArg (·.2.2) h
            simp only at e
            rw [textR_false _ _ rfl] at e
            cases e
          | some x =>
            obtain ⟨c, n⟩ := x
            obtain ⟨k1, k2, _⟩ := esc_le _ _ _ he
            rw [List.length_append] at k2
            simp only [List.length_cons, List.length_nil] at k2
            have hn : n ≤ t.length := by
              rcases Nat.lt_or_ge t.length n with hlt | hge
              · exfalso
                unfold right at h
                rw [List.cons_append, textR_esc true _ c n he, List.drop_of_length_le (by simp; omega), textR_nil] at h
                have := congrArg (·.2.1) h; simp at this
              · exact hge
            exact ⟨t, c, n, rfl, esc_pre t [34] c n he hn, he, k1, hn, (right_esc t c n he hn).1 h⟩
        · exact .inr (.inl ⟨a, t, rfl, h3, h1, h2, (right_plain a t h1 h2 h3).1 h⟩)

theorem codeM_of (D rest : List UInt8) (n : Nat) (h125 : (125 : UInt8) ∉ D) (h1 : 1 ≤ D.length) (h6 : D.length ≤ 6) (hn : hexN 0 D = some n) (hm : ¬ (n > 1114111 ∨ (55296 ≤ n ∧ n ≤ 57343))) : codeM (123 :: (D ++ 125 :: rest)) = some (n, D.length + 2) := by
  have e : (D ++ 125 :: rest).takeWhile (· != 125) = D := by
    have key : ∀ D : List UInt8, (125 : UInt8) ∉ D → (D ++ 125 :: rest).takeWhile (· != 125) = D := by
      intro D
      induction D with
      | nil => intro _; simp
      | cons a D ih =>
        intro h
        rw [List.mem_cons, not_or] at h
        have ha : (a != 125) = true := by simp; exact fun e => h.1 e.symm
        rw [List.cons_append, List.takeWhile_cons, if_pos ha, ih h.2]
    exact key D h125
  unfold codeM
  simp only [ne_eq, not_true_eq_false, if_false]
  rw [if_neg (by simp), e, if_neg (by omega), hn]
  simp only
  rw [if_neg hm]

theorem ctl_fin : ∀ i : Fin 256, (125 : UInt8) ∉ hexS i.val ∧ 1 ≤ (hexS i.val).length ∧ (hexS i.val).length ≤ 6 ∧ hexN 0 (hexS i.val) = some i.val := by decide +kernel
theorem enc_fin : ∀ i : Fin 128, enc i.val = [UInt8.ofNat i.val] := by decide +kernel
theorem enc_byte (c : UInt8) (h : c.toNat < 128) : enc c.toNat = [c] := by
  have := enc_fin ⟨c.toNat, h⟩
  rw [this]; simp

/-- each byte that is quoted is one right step, which brings it back -/
theorem quo_step (c : UInt8) (t : List UInt8) : (right (quoB c ++ t) ↔ right t) ∧ unq (quoB c ++ t) = c :: unq t := by
  unfold quoB
  have step : ∀ (x : List UInt8) (v n : Nat) (hx : x.length = n) (he : ∀ u, escM (x ++ u) = some (v, n)), (right (92 :: x ++ t) ↔ right t) ∧ unq (92 :: x ++ t) = enc v ++ unq t := by
    intro x v n hx he
    have hd : (x ++ t).drop n = t := by rw [← hx]; simp
    refine ⟨?_, ?_⟩
    · have := right_esc (x ++ t) v n (by rw [List.append_assoc]; exact he _) (by rw [List.length_append]; omega)
      rw [hd] at this
      exact this
    · have := unq_esc (x ++ t) v n (he t)
      rw [hd] at this
      exact this
  split
  · rename_i h; subst h
    exact step [110] 10 1 rfl fun u => rfl
  split
  · rename_i h; subst h
    exact step [116] 9 1 rfl fun u => rfl
  split
  · rename_i h10 h9 h
    have hb : c.toNat < 128 := by rcases h with rfl | rfl <;> decide
    have := step [c] c.toNat 1 rfl fun u => by rcases h with rfl | rfl <;> rfl
    rw [enc_byte c hb] at this
    exact this
  split
  · rename_i h10 h9 h34 h
    have hb : c.toNat < 128 := by
      rcases h with h | rfl
      · omega
      · decide
    obtain ⟨f1, f2, f3, f4⟩ := ctl_fin ⟨c.toNat, c.toNat_lt⟩
    have := step (117 :: 123 :: (hexS c.toNat ++ [125])) c.toNat ((hexS c.toNat).length + 3) (by simp) fun u => by
      have hc := codeM_of (hexS c.toNat) u c.toNat f1 f2 f3 f4 (by omega)
      have e : (117 :: 123 :: (hexS c.toNat ++ [125]) : List UInt8) ++ u = 117 :: 123 :: (hexS c.toNat ++ 125 :: u) := by simp
      rw [e]
      unfold escM
      simp only [if_neg (by decide : ¬ (117 : UInt8) = 110), if_neg (by decide : ¬ (117 : UInt8) = 116), if_neg (by decide : ¬ ((117 : UInt8) = 34 ∨ (117 : UInt8) = 92)), if_true, hc]
      rfl
    rw [enc_byte c hb] at this
    simpa using this
  · rename_i h10 h9 h34 h
    have h2 : c ≠ 34 := fun e => h34 (.inl e)
    have h3 : c ≠ 92 := fun e => h34 (.inr e)
    exact ⟨right_plain c t h10 h2 h3, unq_plain c t h3⟩
theorem quo_all : ∀ s : List UInt8, right (quoI s) ∧ unq (quoI s) = s
  | [] => ⟨right_nil, rfl⟩
  | c :: s => by
    obtain ⟨h1, h2⟩ := quo_all s
    have e : quoI (c :: s) = quoB c ++ quoI s := by simp [quoI]
    rw [e]
    obtain ⟨h3, h4⟩ := quo_step c (quoI s)
    exact ⟨h3.2 h1, by rw [h4, h2]⟩

/-- a text is a token of this kind alone -/
def aloneB (l : List UInt8) (k : Nat) : Bool := !l.isEmpty && decide ((oneM l).1 = k) && decide ((oneM l).2 = l.length)
theorem alone_tok (l : List UInt8) (k : Nat) : aloneB l k = true ↔ ∃ n, tokR 0 l = [(k, 0, n)] := by
  unfold aloneB
  cases l with
  | nil => simp [tokR_nil]
  | cons a t =>
    have hne : (a :: t) ≠ [] := by simp
    obtain ⟨h1, h2, _⟩ := one_le (a :: t) hne
    rw [tokR_cons 0 hne]
    generalize oneM (a :: t) = X at *
    obtain ⟨x, n⟩ := X
    simp only at h1 h2
    simp only [List.isEmpty_cons, Bool.not_false, Bool.true_and, Bool.and_eq_true, decide_eq_true_eq]
    constructor
    · rintro ⟨rfl, hn⟩
      refine ⟨n, ?_⟩
      rw [hn, List.drop_length, tokR_nil]
    · rintro ⟨m, hm⟩
      injection hm with hm1 hm2
      injection hm1 with hx _
      refine ⟨hx, ?_⟩
      rcases Nat.lt_or_ge n (a :: t).length with hlt | hge
      · rw [tokR_cons _ (by intro e; have := congrArg List.length e; rw [List.length_drop] at this; simp only [List.length_nil] at this; omega)] at hm2
        cases hm2
      · omega

theorem dec_34 (t : List UInt8) : dec (34 :: t) = (34, 1) := by
  have hb : byteAt (34 :: t) 0 = 34 := rfl
  rw [dec_small (by rw [hb]; decide), hb]
theorem quote_one (s : List UInt8) : oneM (quoM s) = (6, (quoM s).length) := by
  have hr := (quo_all s).1
  unfold right at hr
  unfold quoM
  generalize quoI s = q at *
  unfold oneM
  rw [dec_34, if_neg (by decide), if_neg (by simp [List.isPrefixOf]), if_neg (by simp [List.isPrefixOf]), if_neg (by decide), if_neg (by decide), if_pos rfl]
  have e : textM ((34 :: (q ++ [34])).drop 1) = (q.length + 1, true, true) := hr
  rw [e]
  simp
/-- what is a text alone is its signs round a right text -/
theorem alone_text (l : List UInt8) (h : aloneB l 6 = true) : ∃ q, l = 34 :: (q ++ [34]) ∧ right q := by
  unfold aloneB at h
  simp only [Bool.and_eq_true, decide_eq_true_eq] at h
  obtain ⟨⟨h0, h1⟩, h2⟩ := h
  unfold oneM at h1 h2
  split at h1
  · simp at h1
  split at h1
  · simp at h1
  split at h1
  · split at h1 <;> simp at h1
  split at h1
  · simp only at h1; split at h1 <;> simp at h1
  split at h1
  · simp only at h1; split at h1 <;> simp at h1
  split at h1
  · rename_i g1 g2 g3 g4 g5 g6
    rw [if_neg g1, if_neg g2, if_neg g3, if_neg g4, if_neg g5, if_pos g6] at h2
    simp only at h1 h2
    split at h1
    · rename_i hok
      have hl : ∃ t, l = 34 :: t := by
        cases l with
        | nil => simp at h0
        | cons a t =>
          have hb : byteAt (a :: t) 0 = a.toNat := rfl
          rcases Nat.lt_or_ge a.toNat 128 with hh | hh
          · rw [dec_small (by rw [hb]; exact hh), hb] at g6
            exact ⟨t, by rw [UInt8.toNat_inj.1 (show a.toNat = (34 : UInt8).toNat from g6)]⟩
          · have := dec_big (l := a :: t) (by rw [hb]; exact hh)
            omega
      obtain ⟨t, rfl⟩ := hl
      have e : (34 :: t : List UInt8).drop 1 = t := rfl
      rw [e] at h2 hok
      have ht : textM t = (t.length, true, true) := by
        have : (textM t).1 = t.length := by simp only [List.length_cons] at h2; omega
        exact Prod.ext this (Prod.ext hok.1 hok.2)
      -- the text ends with its closing sign
      have key : ∀ (n : Nat) (t : List UInt8), t.length = n → ∀ r : Bool, (textR r t).1 = t.length → (textR r t).2.1 = true → ∃ q, t = q ++ [34] := by
        intro n
        induction n using Nat.strongRecOn with
        | _ n ih =>
          intro t hn r hx hy
          cases t with
          | nil => rw [textR_nil] at hy; cases hy
          | cons a u =>
            simp only [List.length_cons] at hn
            by_cases k1 : a = 10
            · subst k1; rw [textR_end] at hy; cases hy
            · by_cases k2 : a = 34
              · subst k2; rw [textR_shut] at hx
                simp only [List.length_cons] at hx
                have : u = [] := List.eq_nil_of_length_eq_zero (by omega)
                subst this
                exact ⟨[], rfl⟩
              · by_cases k3 : a = 92
                · subst k3
                  have go : ∀ (k : Nat) (b : Bool), k ≤ u.length → textR r (92 :: u) = ((textR b (u.drop k)).1 + (1 + k), (textR b (u.drop k)).2) → ∃ q, 92 :: u = q ++ [34] := fun k b hk e => by
                    rw [e] at hx hy
                    simp only [List.length_cons] at hx
                    obtain ⟨q, hq⟩ := ih (u.drop k).length (by rw [List.length_drop]; omega) _ rfl b (by rw [List.length_drop]; omega) hy
                    refine ⟨92 :: (u.take k ++ q), ?_⟩
                    rw [List.cons_append, List.append_assoc, ← hq, List.take_append_drop]
                  cases he : escM u with
                  | some x =>
                    obtain ⟨c, k⟩ := x
                    exact go k r (esc_le _ _ _ he).2.1 (textR_esc r u c k he)
                  | none =>
                    refine go _ false ?_ (textR_bad r u he _ rfl)
                    split
                    · omega
                    · rename_i hh; exact dec_le u (by intro e; exact hh (Or.inl (by rw [e]; rfl)))
                · rw [textR_plain r a u k1 k2 k3] at hx hy
                  simp only [List.length_cons] at hx
                  obtain ⟨q, hq⟩ := ih u.length (by omega) u rfl r (by omega) hy
                  exact ⟨a :: q, by rw [hq]; rfl⟩
      obtain ⟨q, rfl⟩ := key _ t rfl true (by show (textM t).1 = _; rw [ht]) (by show (textM t).2.1 = _; rw [ht])
      refine ⟨q, rfl, ?_⟩
      unfold right
      have : textM (q ++ [34]) = ((q ++ [34]).length, true, true) := ht
      rw [List.length_append] at this
      exact this
    · simp at h1
  split at h1 <;> simp at h1
end Go.Proofs.YtgpjcjnimheglaaDoor.Lx
/-
  VALUES OF MESSAGES AS TREES: what is printed of them, plainly.
-/
namespace Go.Proofs.YtgpjcjnimheglaaDoor

/-- a value of a message -/
inductive JT where
  | mk (kind num : Int) (text : List UInt8) (keys : List (List UInt8)) (kids : List JT)
namespace JT
def kind : JT → Int | mk k _ _ _ _ => k
def num : JT → Int | mk _ n _ _ _ => n
def text : JT → List UInt8 | mk _ _ t _ _ => t
def keys : JT → List (List UInt8) | mk _ _ _ ks _ => ks
def kids : JT → List JT | mk _ _ _ _ l => l
def keyW (ks : List (List UInt8)) : Nat := (ks.map fun k => 6 * k.length + 8).sum
mutual
/-- bounds what is printed of it -/
def wt : JT → Nat
  | mk _ _ t ks l => 40 + 6 * t.length + keyW ks + wts l
def wts : List JT → Nat
  | [] => 0
  | j :: l => wt j + 2 + wts l
end
theorem wt_eq (j : JT) : j.wt = 40 + 6 * j.text.length + keyW j.keys + wts j.kids := by cases j; simp only [wt, text, keys, kids]
end JT

/-- what a byte is quoted as in a message -/
def jquB (c : UInt8) : List UInt8 :=
  if c = 34 ∨ c = 92 then [92, c] else if c = 10 then [92, 110] else if c = 13 then [92, 114] else if c = 9 then [92, 116] else if c.toNat < 32 then [92, 117, 48, 48, Lx.hexD (c.toNat / 16), Lx.hexD (c.toNat % 16)] else [c]
def jquI (s : List UInt8) : List UInt8 := s.flatMap jquB
def jquM (s : List UInt8) : List UInt8 := 34 :: (jquI s ++ [34])
theorem jquB_len (c : UInt8) : (jquB c).length ≤ 6 := by
  have h : ∀ i : Fin 256, (jquB (UInt8.ofNat i.val)).length ≤ 6 := by decide +kernel
  have := h ⟨c.toNat, c.toNat_lt⟩
  simpa using this
theorem jquI_len (s : List UInt8) : (jquI s).length ≤ 6 * s.length := by
  induction s with
  | nil => exact Nat.le_refl _
  | cons c s ih =>
    have e : jquI (c :: s) = jquB c ++ jquI s := by simp [jquI]
    have := jquB_len c
    rw [e, List.length_append, List.length_cons]; omega
theorem jquM_len (s : List UInt8) : (jquM s).length ≤ 6 * s.length + 2 := by
  have := jquI_len s
  simp only [jquM, List.length_cons, List.length_append, List.length_nil]; omega

/-- has a value just what its kind has? -/
def jright (j : JT) : Bool :=
  if j.kind = 0 then decide (j.num = 0) && decide (j.text = []) && decide (j.keys.length = 0) && decide (j.kids.length = 0)
  else if j.kind = 1 then decide (j.num = 0 ∨ j.num = 1) && decide (j.text = []) && decide (j.keys.length = 0) && decide (j.kids.length = 0)
  else if j.kind = 2 then decide (-999999999999999999 ≤ j.num ∧ j.num ≤ 999999999999999999) && decide (j.text = []) && decide (j.keys.length = 0) && decide (j.kids.length = 0)
  else if j.kind = 3 then decide (j.num = 0) && decide (j.keys.length = 0) && decide (j.kids.length = 0)
  else if j.kind = 4 then decide (j.num = 0) && decide (j.text = []) && decide (j.keys.length = 0)
  else if j.kind = 5 then decide (j.num = 0) && decide (j.text = []) && decide (j.keys.length = j.kids.length)
  else false

/-- what stands between the signs of a list or a map, from the i-th on -/
def itemsM (f : JT → Nat × List UInt8) (m : Bool) (keys : List (List UInt8)) : Nat → List JT → Nat × List UInt8
  | _, [] => (0, [])
  | i, k :: ks =>
    if m = true ∧ keys.getD i [] ∈ keys.take i then (5, [])
    else if (f k).1 ≠ 0 then ((f k).1, [])
    else ((itemsM f m keys (i + 1) ks).1, (if i = 0 then [] else [44]) ++ (if m then jquM (keys.getD i []) ++ [58] else []) ++ (f k).2 ++ (itemsM f m keys (i + 1) ks).2)
/-- the text of a value in which so many levels are left, or what is wrong -/
def printM : Nat → JT → Nat × List UInt8
  | r, j =>
    if jright j = false then (3, [])
    else if j.kind = 0 then (0, [110, 117, 108, 108])
    else if j.kind = 1 then (0, if j.num = 1 then [116, 114, 117, 101] else [102, 97, 108, 115, 101])
    else if j.kind = 2 then (0, Lib.itoa j.num)
    else if j.kind = 3 then (0, jquM j.text)
    else
      match r with
      | 0 => (12, [])
      | r + 1 =>
        let m := decide (j.kind = 5)
        if (itemsM (printM r) m j.keys 0 j.kids).1 ≠ 0 then ((itemsM (printM r) m j.keys 0 j.kids).1, [])
        else (0, (if m then [123] else [91]) ++ (itemsM (printM r) m j.keys 0 j.kids).2 ++ (if m then [125] else [93]))
end Go.Proofs.YtgpjcjnimheglaaDoor
/-
  READING A VALUE OF A MESSAGE, plainly: what is read, and where it ends; or where it is wrong, and how.
-/
namespace Go.Proofs.YtgpjcjnimheglaaDoor.Jp

/-- what a reading comes to -/
inductive Rs (α : Type) where
  | ok (a : α) (at_ : Nat)
  | bad (at_ err : Nat)

def blankB (b : UInt8) : Bool := b == 32 || b == 9 || b == 13 || b == 10
def skipP (s : List UInt8) (i : Nat) : Nat := i + ((s.drop i).takeWhile blankB).length
def needP (s : List UInt8) (c : UInt8) (i : Nat) : Rs Unit := if s[skipP s i]? = some c then .ok () (skipP s i + 1) else .bad (skipP s i) 3

def digB (b : UInt8) : Bool := decide (48 ≤ b.toNat) && decide (b.toNat ≤ 57)
/-- where the digits end -/
def digP (s : List UInt8) (i : Nat) : Nat := i + ((s.drop i).takeWhile digB).length
/-- the number of some digits -/
def valN (l : List UInt8) : Nat := l.foldl (fun n b => n * 10 + (b.toNat - 48)) 0
def firstP (s : List UInt8) (i : Nat) : Nat := if s[i]? = some 45 then i + 1 else i
def numV (s : List UInt8) (i : Nat) : Int := if s[i]? = some 45 then -(valN ((s.drop (i + 1)).takeWhile digB) : Int) else valN ((s.drop i).takeWhile digB)
def numP (s : List UInt8) (i : Nat) : Rs Int :=
  if digP s (firstP s i) = firstP s i then .bad (firstP s i) 3
  else if 18 < digP s (firstP s i) - firstP s i ∨ (1 < digP s (firstP s i) - firstP s i ∧ s[firstP s i]? = some 48) then .bad i 3
  else .ok (numV s i) (digP s (firstP s i))

def hex4 : List UInt8 → Option Nat
  | a :: b :: c :: d :: _ => match Lx.hexV a, Lx.hexV b, Lx.hexV c, Lx.hexV d with
    | some x, some y, some z, some t => some (((x * 16 + y) * 16 + z) * 16 + t)
    | _, _, _, _ => none
  | _ => none
def fourP (s : List UInt8) (i : Nat) : Option Nat := hex4 (s.drop i)
/-- what a sign stands for behind the one that escapes -/
def simP (c : UInt8) : Option UInt8 :=
  if c = 34 then some 34 else if c = 92 then some 92 else if c = 47 then some 47 else if c = 98 then some 8 else if c = 102 then some 12 else if c = 110 then some 10 else if c = 114 then some 13 else if c = 116 then some 9 else none
/-- the second half of a character of two -/
def lowP (s : List UInt8) (i h : Nat) : Rs (List UInt8) :=
  if s[i + 6]? = some 92 ∧ s[i + 7]? = some 117 then
    match fourP s (i + 8) with
    | some l => if 56320 ≤ l ∧ l ≤ 57343 then .ok (Lx.enc (65536 + (h - 55296) * 1024 + (l - 56320))) (i + 12) else .bad i 3
    | none => .bad i 3
  else .bad i 3
def uniP (s : List UInt8) (i : Nat) : Rs (List UInt8) :=
  match fourP s (i + 2) with
  | none => .bad i 3
  | some h => if 56320 ≤ h ∧ h ≤ 57343 then .bad i 3 else if h < 55296 ∨ 57343 < h then .ok (Lx.enc h) (i + 6) else lowP s i h
/-- an escape -/
def escP (s : List UInt8) (i : Nat) : Rs (List UInt8) :=
  match s[i + 1]? with
  | none => .bad i 3
  | some c => match simP c with
    | some b => .ok [b] (i + 2)
    | none => if c = 117 then uniP s i else .bad i 3
/-- the rest of a text -/
def txtF (s : List UInt8) : Nat → Nat → List UInt8 → Rs (List UInt8)
  | 0, i, _ => .bad i 3
  | f + 1, i, acc =>
    match s[i]? with
    | none => .bad i 3
    | some c =>
      if c.toNat < 32 then .bad i 3
      else if c = 34 then .ok acc (i + 1)
      else if c = 92 then
        match escP s i with
        | .bad p e => .bad p e
        | .ok b k => txtF s f k (acc ++ b)
      else txtF s f (i + 1) (acc ++ [c])
/-- a text, from its sign on -/
def txtP (s : List UInt8) (i : Nat) : Rs (List UInt8) := txtF s (s.length + 1) i []
def textP (s : List UInt8) (i : Nat) : Rs (List UInt8) :=
  match needP s 34 i with
  | .bad p e => .bad p e
  | .ok _ k => txtP s k
def wordP (s w : List UInt8) (j : JT) (i : Nat) : Rs JT := if w.isPrefixOf (s.drop i) then .ok j (i + w.length) else .bad i 3

/-- what stands in a list or a map, behind its sign -/
def manyF {σ : Type} (one : σ → Nat → Rs σ) (e : UInt8) (s : List UInt8) : Nat → σ → Nat → Rs σ
  | 0, _, i => .bad i 3
  | f + 1, st, i =>
    match one st i with
    | .bad p er => .bad p er
    | .ok st' k => if s[skipP s k]? = some 44 then manyF one e s f st' (skipP s k + 1) else if s[skipP s k]? = some e then .ok st' (skipP s k + 1) else .bad (skipP s k) 3
def itemsP {σ : Type} (one : σ → Nat → Rs σ) (e : UInt8) (s : List UInt8) (st : σ) (i : Nat) : Rs σ :=
  if s[skipP s (i + 1)]? = some e then .ok st (skipP s (i + 1) + 1) else manyF one e s (s.length + 1) st (skipP s (i + 1))
abbrev KK := List (List UInt8) × List JT
def oneL (val : Nat → Rs JT) (st : KK) (i : Nat) : Rs KK :=
  match val i with
  | .bad p e => .bad p e
  | .ok j k => .ok (st.1, st.2 ++ [j]) k
def oneM (s : List UInt8) (val : Nat → Rs JT) (st : KK) (i : Nat) : Rs KK :=
  match textP s (skipP s i) with
  | .bad p e => .bad p e
  | .ok key k =>
    if key ∈ st.1 then .bad (skipP s i) 5
    else match needP s 58 k with
      | .bad p e => .bad p e
      | .ok _ k2 => match val k2 with
        | .bad p e => .bad p e
        | .ok j k3 => .ok (st.1 ++ [key], st.2 ++ [j]) k3
def wN : List UInt8 := [110, 117, 108, 108]
def wT : List UInt8 := [116, 114, 117, 101]
def wF : List UInt8 := [102, 97, 108, 115, 101]
def listP (r : Rs KK) (kind : Int) : Rs JT :=
  match r with
  | .bad p e => .bad p e
  | .ok st k => .ok (.mk kind 0 [] st.1 st.2) k
/-- a value that stands in so many others, from its first byte on -/
def valP (s : List UInt8) (more : Nat → Rs JT) (d : Nat) (c : UInt8) (k : Nat) : Rs JT :=
  if 40 ≤ d ∧ (c = 91 ∨ c = 123) then .bad k 12
  else if c = 110 then wordP s wN (.mk 0 0 [] [] []) k
  else if c = 116 then wordP s wT (.mk 1 1 [] [] []) k
  else if c = 102 then wordP s wF (.mk 1 0 [] [] []) k
  else if c = 34 then
    match textP s k with
    | .bad p e => .bad p e
    | .ok t e => .ok (.mk 3 0 t [] []) e
  else if c = 45 ∨ digB c = true then
    match numP s k with
    | .bad p e => .bad p e
    | .ok n e => .ok (.mk 2 n [] [] []) e
  else if c = 91 then listP (itemsP (oneL more) 93 s ([], []) k) 4
  else if c = 123 then listP (itemsP (oneM s more) 125 s ([], []) k) 5
  else .bad k 3
def valF (s : List UInt8) : Nat → Nat → Nat → Rs JT
  | 0, _, i => .bad i 3
  | f + 1, d, i =>
    match s[skipP s i]? with
    | none => .bad (skipP s i) 3
    | some c => valP s (valF s f (d + 1)) d c (skipP s i)
/-- the value that a text is -/
def parseP (s : List UInt8) : Rs JT :=
  match valF s 41 0 0 with
  | .bad p e => .bad p e
  | .ok j k => if skipP s k < s.length then .bad (skipP s k) 3 else .ok j 0

theorem skip_ge (s : List UInt8) (i : Nat) : i ≤ skipP s i := by unfold skipP; omega
theorem skip_le (s : List UInt8) (i : Nat) (h : i ≤ s.length) : skipP s i ≤ s.length := by
  unfold skipP
  have := (List.takeWhile_prefix blankB (l := s.drop i)).length_le
  rw [List.length_drop] at this
  omega
theorem skip_go (s : List UInt8) (i : Nat) (h : i < s.length) (hb : blankB s[i] = true) : skipP s i = skipP s (i + 1) := by
  unfold skipP
  rw [List.drop_eq_getElem_cons h, List.takeWhile_cons, if_pos hb, List.length_cons]
  omega
theorem skip_stop (s : List UInt8) (i : Nat) (h : i < s.length) (hb : blankB s[i] = false) : skipP s i = i := by
  unfold skipP
  rw [List.drop_eq_getElem_cons h, List.takeWhile_cons, if_neg (by simp [hb])]
  simp
theorem skip_end (s : List UInt8) (i : Nat) (h : s.length ≤ i) : skipP s i = i := by
  unfold skipP
  rw [List.drop_of_length_le h]
  simp
theorem skip_skip (s : List UInt8) : ∀ (n i : Nat), s.length - i ≤ n → skipP s (skipP s i) = skipP s i
  | 0, i, h => by rw [skip_end s i (by omega)]; exact skip_end s i (by omega)
  | n + 1, i, h => by
    by_cases hi : i < s.length
    · cases hb : blankB s[i] with
      | true => rw [skip_go s i hi hb]; exact skip_skip s n (i + 1) (by omega)
      | false => rw [skip_stop s i hi hb]; exact skip_stop s i hi hb
    · rw [skip_end s i (by omega)]; exact skip_end s i (by omega)
theorem get_skip_not (s : List UInt8) (i : Nat) (c : UInt8) (h : s[i]? = some c) (hb : blankB c = false) : skipP s i = i := by
  obtain ⟨hi, rfl⟩ := List.getElem?_eq_some_iff.1 h
  exact skip_stop s i hi hb
theorem get_lt {s : List UInt8} {i : Nat} {c : UInt8} (h : s[i]? = some c) : i < s.length := (List.getElem?_eq_some_iff.1 h).1

/-- an answer lies ahead, and within -/
def Rs.Ahead {α : Type} (r : Rs α) (i n : Nat) : Prop :=
  match r with
  | .ok _ k => i < k ∧ k ≤ n
  | .bad p _ => i ≤ p ∧ p ≤ n
theorem need_ahead (s : List UInt8) (c : UInt8) (i : Nat) (h : i ≤ s.length) : (needP s c i).Ahead i s.length := by
  have h1 := skip_ge s i
  have h2 := skip_le s i h
  unfold needP
  split
  · rename_i he
    have := get_lt he
    exact ⟨by omega, by omega⟩
  · exact ⟨h1, h2⟩
theorem dig_ge (s : List UInt8) (i : Nat) : i ≤ digP s i := by unfold digP; omega
theorem dig_le (s : List UInt8) (i : Nat) (h : i ≤ s.length) : digP s i ≤ s.length := by
  unfold digP
  have := (List.takeWhile_prefix digB (l := s.drop i)).length_le
  rw [List.length_drop] at this
  omega
theorem first_le (s : List UInt8) (i : Nat) (h : i ≤ s.length) : i ≤ firstP s i ∧ firstP s i ≤ s.length := by
  unfold firstP
  split
  · rename_i he
    have := get_lt he
    omega
  · omega
theorem num_ahead (s : List UInt8) (i : Nat) (h : i ≤ s.length) : (numP s i).Ahead i s.length := by
  have h1 := first_le s i h
  have h2 := dig_ge s (firstP s i)
  have h3 := dig_le s (firstP s i) h1.2
  unfold numP
  split
  · exact ⟨by omega, by omega⟩
  · split
    · exact ⟨by omega, by omega⟩
    · exact ⟨by omega, by omega⟩
theorem hex4_len {l : List UInt8} {n : Nat} (h : hex4 l = some n) : 4 ≤ l.length := by
  match l, h with
  | [], h => simp [hex4] at h
  | [_], h => simp [hex4] at h
  | [_, _], h => simp [hex4] at h
  | [_, _, _], h => simp [hex4] at h
  | _ :: _ :: _ :: _ :: _, _ => simp
theorem four_len {s : List UInt8} {i n : Nat} (h : fourP s i = some n) : i + 4 ≤ s.length := by
  have := hex4_len h
  rw [List.length_drop] at this
  omega
theorem low_ahead (s : List UInt8) (i h : Nat) (hi : i + 1 < s.length) : (lowP s i h).Ahead i s.length := by
  unfold lowP
  split
  · split
    · rename_i l hl
      have := four_len hl
      split
      · exact ⟨by omega, by omega⟩
      · exact ⟨by omega, by omega⟩
    · exact ⟨by omega, by omega⟩
  · exact ⟨by omega, by omega⟩
theorem uni_ahead (s : List UInt8) (i : Nat) (hi : i + 1 < s.length) : (uniP s i).Ahead i s.length := by
  unfold uniP
  split
  · exact ⟨by omega, by omega⟩
  · rename_i h hh
    have := four_len hh
    split
    · exact ⟨by omega, by omega⟩
    · split
      · exact ⟨by omega, by omega⟩
      · exact low_ahead s i h hi
theorem esc_ahead (s : List UInt8) (i : Nat) (hi : i < s.length) : (escP s i).Ahead i s.length := by
  unfold escP
  split
  · exact ⟨by omega, by omega⟩
  · rename_i c hc
    have := get_lt hc
    split
    · exact ⟨by omega, by omega⟩
    · split
      · exact uni_ahead s i this
      · exact ⟨by omega, by omega⟩
theorem txt_ahead (s : List UInt8) : ∀ (f i : Nat) (acc : List UInt8), i ≤ s.length → (txtF s f i acc).Ahead i s.length
  | 0, i, acc, h => ⟨by omega, by omega⟩
  | f + 1, i, acc, h => by
    unfold txtF
    split
    · exact ⟨by omega, by omega⟩
    · rename_i c hc
      have hl := get_lt hc
      split
      · exact ⟨by omega, by omega⟩
      · split
        · exact ⟨by omega, by omega⟩
        · split
          · have he := esc_ahead s i hl
            split
            · rename_i p e hp; rw [hp] at he; exact he
            · rename_i b k hp
              rw [hp] at he
              have := txt_ahead s f k (acc ++ b) he.2
              revert this
              cases txtF s f k (acc ++ b) <;> intro h4
              · exact ⟨by have := he.1; have := h4.1; omega, h4.2⟩
              · exact ⟨by have := he.1; have := h4.1; omega, h4.2⟩
          · have := txt_ahead s f (i + 1) (acc ++ [c]) (by omega)
            revert this
            cases txtF s f (i + 1) (acc ++ [c]) <;> intro h4
            · exact ⟨by have := h4.1; omega, h4.2⟩
            · exact ⟨by have := h4.1; omega, h4.2⟩
/-- more fuel is no other answer -/
theorem txt_fuel (s : List UInt8) : ∀ (f g i : Nat) (acc : List UInt8), s.length + 1 ≤ f + i → s.length + 1 ≤ g + i → i ≤ s.length → txtF s f i acc = txtF s g i acc
  | 0, _, i, _, h, _, h3 => by omega
  | _ + 1, 0, i, _, _, h, h3 => by omega
  | f + 1, g + 1, i, acc, h1, h2, h3 => by
    unfold txtF
    split
    · rfl
    · rename_i c hc
      have hl := get_lt hc
      split
      · rfl
      · split
        · rfl
        · split
          · have he := esc_ahead s i hl
            split
            · rfl
            · rename_i b k hp
              rw [hp] at he
              obtain ⟨h5, h6⟩ := he
              exact txt_fuel s f g k (acc ++ b) (by omega) (by omega) h6
          · exact txt_fuel s f g (i + 1) (acc ++ [c]) (by omega) (by omega) (by omega)
theorem text_ahead (s : List UInt8) (i : Nat) (h : i ≤ s.length) : (textP s i).Ahead i s.length := by
  have h1 := need_ahead s 34 i h
  unfold textP
  split
  · rename_i p e hp; rw [hp] at h1; exact h1
  · rename_i k hp
    rw [hp] at h1
    obtain ⟨h2, h3⟩ := h1
    have := txt_ahead s (s.length + 1) k [] h3
    unfold txtP
    revert this
    cases txtF s (s.length + 1) k [] <;> intro h4
    · exact ⟨by have := h4.1; omega, h4.2⟩
    · exact ⟨by have := h4.1; omega, h4.2⟩
theorem word_ahead (s w : List UInt8) (j : JT) (i : Nat) (h : i ≤ s.length) (hw : 0 < w.length) : (wordP s w j i).Ahead i s.length := by
  unfold wordP
  split
  · rename_i hp
    have := (List.isPrefixOf_iff_prefix.1 hp).length_le
    rw [List.length_drop] at this
    exact ⟨by omega, by omega⟩
  · exact ⟨by omega, by omega⟩
theorem many_ahead {σ : Type} {one : σ → Nat → Rs σ} {e : UInt8} {s : List UInt8} (ho : ∀ st i, i ≤ s.length → (one st i).Ahead i s.length) : ∀ (f : Nat) (st : σ) (i : Nat), i ≤ s.length → (manyF one e s f st i).Ahead i s.length
  | 0, st, i, h => ⟨by omega, by omega⟩
  | f + 1, st, i, h => by
    have h1 := ho st i h
    unfold manyF
    split
    · rename_i p er hp; rw [hp] at h1; exact h1
    · rename_i st' k hp
      rw [hp] at h1
      obtain ⟨h2, h3⟩ := h1
      have h4 := skip_ge s k
      have h5 := skip_le s k h3
      split
      · rename_i hc
        have h6 := get_lt hc
        have := many_ahead (e := e) ho f st' (skipP s k + 1) (by omega)
        revert this
        cases manyF one e s f st' (skipP s k + 1) <;> intro h4
        · exact ⟨by have := h4.1; omega, h4.2⟩
        · exact ⟨by have := h4.1; omega, h4.2⟩
      · split
        · rename_i hc
          have h6 := get_lt hc
          exact ⟨by omega, by omega⟩
        · exact ⟨by omega, by omega⟩
theorem items_ahead {σ : Type} {one : σ → Nat → Rs σ} {e : UInt8} {s : List UInt8} (ho : ∀ st i, i ≤ s.length → (one st i).Ahead i s.length) (st : σ) (i : Nat) (h : i < s.length) : (itemsP one e s st i).Ahead i s.length := by
  have h4 := skip_ge s (i + 1)
  have h5 := skip_le s (i + 1) (by omega)
  unfold itemsP
  split
  · rename_i hc
    have h6 := get_lt hc
    exact ⟨by omega, by omega⟩
  · have := many_ahead (e := e) ho (s.length + 1) st (skipP s (i + 1)) h5
    revert this
    cases manyF one e s (s.length + 1) st (skipP s (i + 1)) <;> intro h4
    · exact ⟨by have := h4.1; omega, h4.2⟩
    · exact ⟨by have := h4.1; omega, h4.2⟩
theorem oneL_ahead {s : List UInt8} {val : Nat → Rs JT} (hv : ∀ i, i ≤ s.length → (val i).Ahead i s.length) (st : KK) (i : Nat) (h : i ≤ s.length) : (oneL val st i).Ahead i s.length := by
  have h1 := hv i h
  unfold oneL
  split
  · rename_i p e hp; rw [hp] at h1; exact h1
  · rename_i j k hp; rw [hp] at h1; exact h1
theorem oneM_ahead {s : List UInt8} {val : Nat → Rs JT} (hv : ∀ i, i ≤ s.length → (val i).Ahead i s.length) (st : KK) (i : Nat) (h : i ≤ s.length) : (oneM s val st i).Ahead i s.length := by
  have h4 := skip_ge s i
  have h5 := skip_le s i h
  have h1 := text_ahead s (skipP s i) h5
  unfold oneM
  split
  · rename_i p e hp
    rw [hp] at h1
    exact ⟨by have := h1.1; omega, h1.2⟩
  · rename_i key k hp
    rw [hp] at h1
    obtain ⟨h2, h3⟩ := h1
    split
    · exact ⟨by omega, by omega⟩
    · have h6 := need_ahead s 58 k h3
      split
      · rename_i p e hp2
        rw [hp2] at h6
        exact ⟨by have := h6.1; omega, h6.2⟩
      · rename_i k2 hp2
        rw [hp2] at h6
        obtain ⟨h7, h8⟩ := h6
        have h9 := hv k2 h8
        split
        · rename_i p e hp3
          rw [hp3] at h9
          exact ⟨by have := h9.1; omega, h9.2⟩
        · rename_i j k3 hp3
          rw [hp3] at h9
          exact ⟨by have := h9.1; omega, h9.2⟩
theorem list_ahead {r : Rs KK} {kind : Int} {i n : Nat} (h : r.Ahead i n) : (listP r kind).Ahead i n := by
  cases r <;> exact h
theorem val_ahead (s : List UInt8) : ∀ (f d i : Nat), i ≤ s.length → (valF s f d i).Ahead i s.length
  | 0, d, i, h => ⟨by omega, by omega⟩
  | f + 1, d, i, h => by
    have h4 := skip_ge s i
    have h5 := skip_le s i h
    unfold valF
    split
    · exact ⟨by omega, by omega⟩
    · rename_i c hc
      have hl := get_lt hc
      have key : (valP s (valF s f (d + 1)) d c (skipP s i)).Ahead (skipP s i) s.length := by
        unfold valP
        split
        · exact ⟨by omega, by omega⟩
        split
        · exact word_ahead _ _ _ _ h5 (by decide)
        split
        · exact word_ahead _ _ _ _ h5 (by decide)
        split
        · exact word_ahead _ _ _ _ h5 (by decide)
        split
        · have h1 := text_ahead s (skipP s i) h5
          split
          · rename_i p e hp; rw [hp] at h1; exact h1
          · rename_i t e hp; rw [hp] at h1; exact h1
        split
        · have h1 := num_ahead s (skipP s i) h5
          split
          · rename_i p e hp; rw [hp] at h1; exact h1
          · rename_i t e hp; rw [hp] at h1; exact h1
        split
        · exact list_ahead (items_ahead (oneL_ahead (val_ahead s f (d + 1))) _ _ hl)
        split
        · exact list_ahead (items_ahead (oneM_ahead (val_ahead s f (d + 1))) _ _ hl)
        · exact ⟨by omega, by omega⟩
      revert key
      cases valP s (valF s f (d + 1)) d c (skipP s i) <;> intro h6
      · exact ⟨by have := h6.1; omega, h6.2⟩
      · exact ⟨by have := h6.1; omega, h6.2⟩
theorem many_fuel {σ : Type} {one : σ → Nat → Rs σ} {e : UInt8} {s : List UInt8} (ho : ∀ st i, i ≤ s.length → (one st i).Ahead i s.length) : ∀ (f g : Nat) (st : σ) (i : Nat), s.length + 1 ≤ f + i → s.length + 1 ≤ g + i → i ≤ s.length → manyF one e s f st i = manyF one e s g st i
  | 0, _, _, i, h, _, h3 => by omega
  | _ + 1, 0, _, i, _, h, h3 => by omega
  | f + 1, g + 1, st, i, h1, h2, h3 => by
    have h4 := ho st i h3
    unfold manyF
    split
    · rfl
    · rename_i st' k hp
      rw [hp] at h4
      obtain ⟨h5, h6⟩ := h4
      have h7 := skip_ge s k
      split
      · rename_i hc
        have h8 := get_lt hc
        exact many_fuel ho f g st' (skipP s k + 1) (by omega) (by omega) (by omega)
      · rfl
end Go.Proofs.YtgpjcjnimheglaaDoor.Jp
