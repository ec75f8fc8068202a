/-
  THE PLAIN LAW: what is framed comes out of the reader, however it is cut.
-/
import Derived.Test.YtgpjcjnimheglaaGreatDoorWM
namespace Go.Proofs.YtgpjcjnimheglaaGreatDoor.Wire
open Go.Lib

theorem dec_digits : ∀ (u : Nat), ∀ b ∈ decDigits u, ∃ d, d < 10 ∧ b = UInt8.ofNat (48 + d)
  | u => by
    intro b hb
    rw [decDigits] at hb
    split at hb
    · rename_i h; rw [List.mem_singleton] at hb; exact ⟨u, h, hb⟩
    · rename_i h
      rw [List.mem_append] at hb
      rcases hb with hb | hb
      · exact dec_digits (u / 10) b hb
      · rw [List.mem_singleton] at hb; exact ⟨u % 10, by omega, hb⟩
termination_by u => u

theorem digit_of {d : Nat} (h : d < 10) : digitVal (UInt8.ofNat (48 + d)) = some d := by
  have : (UInt8.ofNat (48 + d)).toNat = 48 + d := by simp [UInt8.toNat_ofNat']; omega
  unfold digitVal
  rw [this, if_pos (by omega)]
  congr 1; omega

theorem decFrom_snoc (l : List UInt8) (d : Nat) (h : d < 10) : ∀ acc n, decFrom acc l = some n → decFrom acc (l ++ [UInt8.ofNat (48 + d)]) = some (n * 10 + d) := by
  induction l with
  | nil => intro acc n hn; simp only [decFrom] at hn; injection hn with hn; subst hn; simp only [List.nil_append, decFrom, digit_of h]
  | cons b t ih =>
    intro acc n hn
    simp only [decFrom, List.cons_append] at hn ⊢
    cases hd : digitVal b with
    | none => rw [hd] at hn; simp at hn
    | some x => rw [hd] at hn; exact ih _ _ hn

theorem dec_back : ∀ (u : Nat), decFrom 0 (decDigits u) = some u
  | u => by
    rw [decDigits]
    split
    · rename_i h; simp only [decFrom, digit_of h]; simp
    · rename_i h
      rw [decFrom_snoc _ (u % 10) (by omega) 0 (u / 10) (dec_back (u / 10))]
      congr 1; omega
termination_by u => u

theorem nDigits_le : ∀ (k u : Nat), 1 ≤ k → u < 10 ^ k → nDigits u ≤ k
  | 0, _, h, _ => by omega
  | k + 1, u, _, h => by
    rw [nDigits]
    split
    · omega
    · rename_i h1
      by_cases hk : k = 0
      · subst hk; omega
      · have := nDigits_le k (u / 10) (by omega) (by rw [Nat.pow_succ] at h; omega)
        omega

theorem itoa_nat (n : Nat) : itoa (n : Int) = decDigits n := by unfold itoa; rw [if_neg (by omega)]; simp

theorem dgs_all {d : Nat} (h : d < 10) : dgs.contains (UInt8.ofNat (48 + d)) = true := by
  rcases (by omega : d = 0 ∨ d = 1 ∨ d = 2 ∨ d = 3 ∨ d = 4 ∨ d = 5 ∨ d = 6 ∨ d = 7 ∨ d = 8 ∨ d = 9) with rfl | rfl | rfl | rfl | rfl | rfl | rfl | rfl | rfl | rfl <;> decide

theorem no13 (n : Nat) : (13 : UInt8) ∉ hdc ++ decDigits n := by
  rw [List.mem_append]
  rintro (h | h)
  · revert h; decide
  · obtain ⟨d, hd, he⟩ := dec_digits n 13 h
    have := congrArg UInt8.toNat he
    simp [UInt8.toNat_ofNat'] at this
    omega

theorem trim_digits (n : Nat) : trimS (decDigits n) dgs = [] := by
  have h : trimRightS (decDigits n) dgs = (decDigits n).take 0 := trimRightS_take _ _ 0 (Nat.zero_le _) (fun j b _ hb => by
    obtain ⟨d, hd, rfl⟩ := dec_digits n b (List.mem_of_getElem? hb)
    exact dgs_all hd) (fun b h => by omega)
  unfold trimS
  rw [h]; rfl

theorem line_len (n : Nat) (h : n < 1000000000) (r : RS) : lineM (hdc ++ decDigits n) r = { r with len := n, err := 0 } := by
  have hl := decDigits_length n
  have h1 := nDigits_le 9 n (by omega) (by simpa using h)
  have h2 := nDigits_pos n
  have e16 : hdc.length = 16 := rfl
  have hdrop : (hdc ++ decDigits n).drop 16 = decDigits n := by
    rw [List.drop_append, show hdc.drop 16 = [] from rfl, e16]; simp
  have hB : lenB (hdc ++ decDigits n) = true := by
    unfold lenB
    rw [hdrop]
    have hp : hasPrefix (hdc ++ decDigits n) hdc = true := by unfold hasPrefix; simp
    rw [hp, trim_digits]
    simp; omega
  unfold lineM
  rw [if_neg (by rw [List.length_append, e16]; omega), if_neg (by simp [hdc]), if_pos hB, hdrop]
  unfold valD
  rw [dec_back]; rfl

inductive Ph (bs : List (List UInt8)) (r : RS) (U : List UInt8) : Prop
  | a (hb : r.body = false) (hl : r.len = -1) (h : r.rest ++ U = flat bs) : Ph bs r U
  | b (x : List UInt8) (t : List (List UInt8)) (e : bs = x :: t) (hb : r.body = false) (hl : r.len = (x.length : Nat)) (h : r.rest ++ U = 13 :: 10 :: x ++ flat t) : Ph bs r U
  | c (x : List UInt8) (t : List (List UInt8)) (e : bs = x :: t) (hb : r.body = true) (hl : r.len = (x.length : Nat)) (h : r.rest ++ U = x ++ flat t) : Ph bs r U

/-- A text that is shorter than a closed piece without the sign, and one sign more, has no line's end. -/
theorem cut_short (s U L V : List UInt8) (h : s ++ U = L ++ 13 :: 10 :: V) (hl : s.length < L.length + 2) (hn : (13 : UInt8) ∉ L) : cut s crlf = (s, [], false) :=
  cut_none s fun i h1 h2 => by
    have hi : i + 1 < s.length := by
      rcases Nat.lt_or_ge (i + 1) s.length with h | h
      · exact h
      · rw [List.getElem?_eq_none h] at h2; simp at h2
    have e : (s ++ U)[i]? = s[i]? := List.getElem?_append_left (by omega)
    rw [h, h1, List.getElem?_append_left (by omega)] at e
    exact hn (List.mem_of_getElem? e)

theorem cut_long (s U L V : List UInt8) (h : s ++ U = L ++ 13 :: 10 :: V) (hl : L.length + 2 ≤ s.length) (hn : (13 : UInt8) ∉ L) : ∃ s', cut s crlf = (L, s', true) ∧ s' ++ U = V := by
  have e : s = L ++ 13 :: 10 :: s.drop (L.length + 2) := by
    have h1 : s = (s ++ U).take s.length := by simp
    have h2 : s.take (L.length + 2) = L ++ [13, 10] := by
      have : s.take (L.length + 2) = (s ++ U).take (L.length + 2) := by rw [List.take_append_of_le_length hl]
      rw [this, h, show L ++ 13 :: 10 :: V = (L ++ [13, 10]) ++ V by simp, List.take_append_of_le_length (by simp), List.take_of_length_le (by simp)]
    conv => lhs; rw [← List.take_append_drop (L.length + 2) s, h2]
    simp
  refine ⟨s.drop (L.length + 2), ?_, ?_⟩
  · conv => lhs; rw [e]
    exact cut_at _ _ hn
  · rw [e] at h
    simp only [List.append_assoc, List.cons_append] at h
    have := List.append_cancel_left h
    simpa using this

theorem trim_le (s p : List UInt8) : (trimSuffix s p).length ≤ s.length := by
  unfold trimSuffix; split
  · simp
  · exact Nat.le_refl _

theorem miss_step (r : RS) (hb : r.body = false) (he : r.err = 0) (hc : cut r.rest crlf = (r.rest, [], false)) (hl : r.rest.length ≤ 1000) : stepM r = (r, none, false) := by
  obtain ⟨rest, len, body, err⟩ := r
  simp only at hb he hc hl
  subst hb he
  unfold stepM
  have := trim_le rest [13]
  simp only [Bool.false_eq_true, if_false, hc, if_true]
  rw [if_neg (by omega)]

theorem step_ph (bs : List (List UInt8)) (hs : ∀ b ∈ bs, b.length < 1000000000) (r : RS) (U : List UInt8) (he : r.err = 0) (h : Ph bs r U) :
    (stepM r).1.err = 0 ∧ (((stepM r).2.2 = false ∧ (stepM r).1 = r ∧ (U = [] → bs = [])) ∨ ((stepM r).2.2 = true ∧ ∃ bs', bs = (stepM r).2.1.toList ++ bs' ∧ Ph bs' (stepM r).1 U)) := by
  cases h with
  | a hb hl h =>
    cases bs with
    | nil =>
      have hr : r.rest = [] := by have := congrArg List.length h; simp [flat] at this; exact this.1
      have hm := miss_step r hb he (by rw [hr]; exact cut_none [] (by simp)) (by rw [hr]; simp)
      rw [hm]
      exact ⟨he, Or.inl ⟨rfl, rfl, fun _ => rfl⟩⟩
    | cons x t =>
      have hx := hs x (by simp)
      have hD := nDigits_le 9 x.length (by omega) (by simpa using hx)
      have hL := decDigits_length x.length
      have e16 : hdc.length = 16 := rfl
      have h' : r.rest ++ U = (hdc ++ decDigits x.length) ++ 13 :: 10 :: (13 :: 10 :: x ++ flat t) := by
        rw [h]
        simp [flat, frameL, itoa_nat, crlf]
      rcases Nat.lt_or_ge r.rest.length ((hdc ++ decDigits x.length).length + 2) with hlt | hge
      · have hm := miss_step r hb he (cut_short _ _ _ _ h' hlt (no13 _)) (by rw [List.length_append, e16] at hlt; omega)
        rw [hm]
        refine ⟨he, Or.inl ⟨rfl, rfl, fun hU => ?_⟩⟩
        subst hU
        have := congrArg List.length h'
        simp at this hlt
        omega
      · obtain ⟨s', hc, hs'⟩ := cut_long _ _ _ _ h' hge (no13 _)
        have hst : stepM r = ({ r with rest := s', len := (x.length : Nat), err := 0 }, none, true) := by
          unfold stepM
          simp only [hb, Bool.false_eq_true, if_false, hc]
          rw [line_len _ hx]
          simp
        rw [hst]
        exact ⟨rfl, Or.inr ⟨rfl, x :: t, rfl, .b x t rfl hb rfl hs'⟩⟩
  | b x t e hb hl h =>
    subst e
    rcases Nat.lt_or_ge r.rest.length 2 with hlt | hge
    · have hm := miss_step r hb he (cut_short _ _ [] _ h hlt (by simp)) (by omega)
      rw [hm]
      refine ⟨he, Or.inl ⟨rfl, rfl, fun hU => ?_⟩⟩
      subst hU
      have := congrArg List.length h
      simp at this
      omega
    · obtain ⟨s', hc, hs'⟩ := cut_long _ _ [] _ h hge (by simp)
      have hst : stepM r = ({ r with rest := s', body := true, err := 0 }, none, true) := by
        unfold stepM
        simp only [hb, Bool.false_eq_true, if_false, hc]
        unfold lineM
        simp [hl]
      rw [hst]
      exact ⟨rfl, Or.inr ⟨rfl, x :: t, rfl, .c x t rfl rfl hl hs'⟩⟩
  | c x t e hb hl h =>
    subst e
    unfold stepM
    simp only [hb, if_true]
    rcases Nat.lt_or_ge r.rest.length x.length with hlt | hge
    · rw [if_pos (by rw [hl]; omega)]
      refine ⟨he, Or.inl ⟨rfl, rfl, fun hU => ?_⟩⟩
      subst hU
      have := congrArg List.length h
      simp at this
      omega
    · rw [if_neg (by rw [hl]; omega)]
      have ht : r.rest.take r.len.toNat = x := by
        have : (r.rest ++ U).take x.length = x := by rw [h]; simp
        rw [List.take_append_of_le_length hge] at this
        rw [hl]; simpa using this
      have hd : r.rest.drop r.len.toNat ++ U = flat t := by
        have : (r.rest ++ U).drop x.length = flat t := by rw [h]; simp
        rw [List.drop_append_of_le_length hge] at this
        rw [hl]; simpa using this
      exact ⟨he, Or.inr ⟨rfl, t, by simp [ht], .a rfl rfl hd⟩⟩

theorem run_ph : ∀ (n : Nat) (bs : List (List UInt8)) (r : RS) (U : List UInt8) (o : List (List UInt8)), (∀ b ∈ bs, b.length < 1000000000) → r.err = 0 → Ph bs r U → phi r < n → r.good →
    (runM n r o).1.err = 0 ∧ (runM n r o).1.good ∧ ∃ l bs', (runM n r o).2 = o ++ l ∧ bs = l ++ bs' ∧ Ph bs' (runM n r o).1 U ∧ (U = [] → bs' = [])
  | 0, _, _, _, _, _, _, _, h, _ => by omega
  | n + 1, bs, r, U, o, hs, he, hp, hn, hg => by
    obtain ⟨h1, h2⟩ := step_ph bs hs r U he hp
    rcases h2 with ⟨hf, hr, hU⟩ | ⟨ht, bs', hbs, hp'⟩
    · rw [runM_stop _ _ _ hf]
      rw [hr]
      exact ⟨he, hg, [], bs, by simp, rfl, hp, hU⟩
    · have hphi := phi_step r hg ht
      have := run_ph n bs' (stepM r).1 U (o ++ (stepM r).2.1.toList) (fun b hb => hs b (by rw [hbs]; simp [hb])) h1 hp' (by omega) (good_step r hg ht)
      obtain ⟨k1, k2, l, bs'', k3, k4, k5, k6⟩ := this
      rw [runM, if_pos ht]
      exact ⟨k1, k2, (stepM r).2.1.toList ++ l, bs'', by rw [k3, List.append_assoc], by rw [hbs, k4, List.append_assoc], k5, k6⟩

theorem feed_ph (bs : List (List UInt8)) (hs : ∀ b ∈ bs, b.length < 1000000000) (r : RS) (c U : List UInt8) (he : r.err = 0) (hg : r.good) (hp : Ph bs r (c ++ U)) :
    (feedM r c).1.err = 0 ∧ (feedM r c).1.good ∧ ∃ bs', bs = (feedM r c).2 ++ bs' ∧ Ph bs' (feedM r c).1 U ∧ (U = [] → bs' = []) := by
  unfold feedM
  rw [if_pos he]
  have hp' : Ph bs { r with rest := r.rest ++ c } U := by
    cases hp with
    | a hb hl h => exact .a hb hl (by simpa using h)
    | b x t e hb hl h => exact .b x t e hb hl (by simpa using h)
    | c x t e hb hl h => exact .c x t e hb hl (by simpa using h)
  obtain ⟨k1, k2, l, bs', k3, k4, k5, k6⟩ := run_ph _ bs { r with rest := r.rest ++ c } U [] hs he hp' (Nat.lt_succ_self _) hg
  exact ⟨k1, k2, bs', by rw [k3, k4]; simp, k5, k6⟩

/-- A text cut at places: what the law's own function makes. -/
def cutsM (s : List UInt8) : Nat → List Int → List (List UInt8)
  | last, [] => [s.drop last]
  | last, c :: cs => if (last : Int) ≤ c ∧ c ≤ s.length then (s.take c.toNat).drop last :: cutsM s c.toNat cs else cutsM s last cs

theorem cutsM_flat (s : List UInt8) : ∀ (cs : List Int) (last : Nat), last ≤ s.length → (cutsM s last cs).flatten = s.drop last
  | [], last, _ => by simp [cutsM]
  | c :: cs, last, h => by
    unfold cutsM
    split
    · rename_i hc
      rw [List.flatten_cons, cutsM_flat s cs c.toNat (by omega)]
      have : s.drop last = (s.take c.toNat).drop last ++ s.drop c.toNat := by
        conv => lhs; rw [← List.take_append_drop c.toNat s]
        rw [List.drop_append_of_le_length (by rw [List.length_take]; omega)]
      exact this.symm
    · exact cutsM_flat s cs last h

theorem cutsM_ne (s : List UInt8) : ∀ (cs : List Int) (last : Nat), cutsM s last cs ≠ []
  | [], _ => by simp [cutsM]
  | c :: cs, last => by
    unfold cutsM
    split
    · simp
    · exact cutsM_ne s cs last

/-- The reader at the beginning. -/
def r0 : RS := ⟨[], -1, false, 0⟩
theorem r0_good : r0.good := ⟨by simp [r0], by simp [r0], fun h => by simp [r0] at h⟩
theorem r0_ph (bs : List (List UInt8)) : Ph bs r0 (flat bs) := .a rfl rfl rfl

/-- How long a frame is. -/
theorem frame_len (b : List UInt8) (h : b.length < 1000000000) : (frameL b).length ≤ b.length + 29 := by
  have h1 := nDigits_le 9 b.length (by omega) (by simpa using h)
  have h2 := decDigits_length b.length
  simp only [frameL, itoa_nat, List.length_append, crlf, List.length_cons, List.length_nil]
  have : hdc.length = 16 := rfl
  omega

theorem flat_len (bs : List (List UInt8)) (hs : ∀ b ∈ bs, b.length < 1000000000) : (flat bs).length ≤ (bs.map List.length).sum + 29 * bs.length := by
  induction bs with
  | nil => simp [flat]
  | cons b t ih =>
    have h1 := frame_len b (hs b (by simp))
    have h2 := ih fun x hx => hs x (by simp [hx])
    simp only [flat, List.map_cons, List.flatten_cons, List.length_append, List.sum_cons, List.length_cons] at *
    omega

end Go.Proofs.YtgpjcjnimheglaaGreatDoor.Wire
