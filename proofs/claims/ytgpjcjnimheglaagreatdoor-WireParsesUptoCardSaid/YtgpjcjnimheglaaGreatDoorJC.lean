/-
  JOINED of the texts NW NX NY NN NO
-/
import Derived.Test.YtgpjcjnimheglaaGreatDoorNP
import Derived.Test.YtgpjcjnimheglaaGreatDoorJB
import Derived.Test.YtgpjcjnimheglaaGreatDoorLJ
/-
  THE PLAIN LAW of WireBack: what is printed of a value is read as that value.
-/
namespace Go.Proofs.YtgpjcjnimheglaaGreatDoor.Jp
open Go.Lib

/-- what follows does not go on with a number -/
def Stop (l : List UInt8) : Prop := ∀ c, l[0]? = some c → digB c = false
theorem drop_at {s t rest : List UInt8} {i : Nat} (h : s.drop i = t ++ rest) (k : Nat) (hk : k < t.length) : s[i + k]? = t[k]? := by
  rw [← List.getElem?_drop, h, List.getElem?_append_left hk]
theorem drop_next {s t rest : List UInt8} {i : Nat} (h : s.drop i = t ++ rest) : s.drop (i + t.length) = rest := by
  rw [← List.drop_drop, h, List.drop_left]
theorem drop_hd {s rest : List UInt8} {c : UInt8} {i : Nat} (h : s.drop i = c :: rest) : s[i]? = some c := by
  have := drop_at (t := [c]) (rest := rest) (by simpa using h) 0 (by simp)
  simpa using this
theorem drop_tl {s rest : List UInt8} {c : UInt8} {i : Nat} (h : s.drop i = c :: rest) : s.drop (i + 1) = rest := drop_next (t := [c]) (by simpa using h)

/-! ### texts -/
theorem quo_fin : ∀ i : Fin 256, (jquB (UInt8.ofNat i.val) = [UInt8.ofNat i.val] ∧ 32 ≤ (UInt8.ofNat i.val).toNat ∧ UInt8.ofNat i.val ≠ 34 ∧ UInt8.ofNat i.val ≠ 92) ∨
    (jquB (UInt8.ofNat i.val) = [92, (jquB (UInt8.ofNat i.val)).getD 1 0] ∧ simP ((jquB (UInt8.ofNat i.val)).getD 1 0) = some (UInt8.ofNat i.val)) ∨
    (jquB (UInt8.ofNat i.val) = [92, 117, 48, 48, (jquB (UInt8.ofNat i.val)).getD 4 0, (jquB (UInt8.ofNat i.val)).getD 5 0] ∧ hex4 [48, 48, (jquB (UInt8.ofNat i.val)).getD 4 0, (jquB (UInt8.ofNat i.val)).getD 5 0] = some (UInt8.ofNat i.val).toNat ∧ (UInt8.ofNat i.val).toNat < 32) := by decide +kernel
theorem quo_ways (c : UInt8) : (jquB c = [c] ∧ 32 ≤ c.toNat ∧ c ≠ 34 ∧ c ≠ 92) ∨ (∃ x, jquB c = [92, x] ∧ simP x = some c) ∨ (∃ x y, jquB c = [92, 117, 48, 48, x, y] ∧ hex4 [48, 48, x, y] = some c.toNat ∧ c.toNat < 32) := by
  have h := quo_fin ⟨c.toNat, c.toNat_lt⟩
  simp only [UInt8.ofNat_toNat] at h
  rcases h with h | h | h
  · exact .inl h
  · exact .inr (.inl ⟨_, h⟩)
  · exact .inr (.inr ⟨_, _, h⟩)
theorem enc_low_fin : ∀ i : Fin 32, Lx.enc i.val = [UInt8.ofNat i.val] := by decide +kernel
theorem enc_low (c : UInt8) (h : c.toNat < 32) : Lx.enc c.toNat = [c] := by
  have := enc_low_fin ⟨c.toNat, h⟩
  simpa using this
theorem hex4_app (a b c d : UInt8) (l : List UInt8) : hex4 (a :: b :: c :: d :: l) = hex4 [a, b, c, d] := rfl
theorem txt_quo (s rest : List UInt8) : ∀ (t : List UInt8) (f i : Nat) (acc : List UInt8), s.drop i = jquI t ++ 34 :: rest → t.length < f → txtF s f i acc = .ok (acc ++ t) (i + (jquI t).length + 1)
  | [], f, i, acc, h, hf => by
    obtain ⟨f, rfl⟩ : ∃ g, f = g + 1 := ⟨f - 1, by omega⟩
    have h0 : s[i]? = some 34 := drop_hd (rest := rest) (by simpa [jquI] using h)
    unfold txtF
    rw [h0]
    simp only
    rw [if_neg (by decide), if_pos (by trivial)]
    simp [jquI]
  | c :: t, f, i, acc, h, hf => by
    obtain ⟨f, rfl⟩ : ∃ g, f = g + 1 := ⟨f - 1, by omega⟩
    have e : jquI (c :: t) = jquB c ++ jquI t := by simp [jquI]
    rw [e, List.append_assoc] at h
    have hd := drop_next h
    have ih := txt_quo s rest t f (i + (jquB c).length) (acc ++ [c]) hd (by simp only [List.length_cons] at hf; omega)
    have key : txtF s (f + 1) i acc = txtF s f (i + (jquB c).length) (acc ++ [c]) := by
      rcases quo_ways c with ⟨hq, h32, n34, n92⟩ | ⟨x, hq, hs⟩ | ⟨x, y, hq, h4, hlt⟩
      · have h0 : s[i]? = some c := drop_hd (by rw [h, hq]; rfl)
        rw [hq]
        conv => lhs; unfold txtF
        rw [h0]
        simp only
        rw [if_neg (by omega), if_neg n34, if_neg n92]
        rfl
      · have h0 : s[i]? = some 92 := drop_hd (by rw [h, hq]; rfl)
        have h1 : s[i + 1]? = some x := by rw [drop_at h 1 (by rw [hq]; simp), hq]; rfl
        have he : escP s i = .ok [c] (i + 2) := by unfold escP; rw [h1]; simp only [hs]
        rw [hq]
        conv => lhs; unfold txtF
        rw [h0]
        simp only [he]
        rw [if_neg (by decide), if_neg (by decide), if_pos (by trivial)]
        rfl
      · have h0 : s[i]? = some 92 := drop_hd (by rw [h, hq]; rfl)
        have h1 : s[i + 1]? = some 117 := by rw [drop_at h 1 (by rw [hq]; simp), hq]; rfl
        have hdd : s.drop (i + 2) = 48 :: 48 :: x :: y :: (jquI t ++ 34 :: rest) := drop_next (t := [92, 117]) (by rw [h, hq]; rfl)
        have hf4 : fourP s (i + 2) = some c.toNat := by unfold fourP; rw [hdd, hex4_app]; exact h4
        have he : escP s i = .ok [c] (i + 6) := by
          unfold escP
          rw [h1]
          simp only
          rw [show simP 117 = none from by decide]
          simp only [if_true]
          unfold uniP
          rw [hf4]
          simp only
          rw [if_neg (by omega), if_pos (by omega), enc_low c hlt]
        rw [hq]
        conv => lhs; unfold txtF
        rw [h0]
        simp only [he]
        rw [if_neg (by decide), if_neg (by decide), if_pos (by trivial)]
        rfl
    rw [key, ih, e, List.length_append]
    simp only [List.append_assoc, List.singleton_append]
    congr 1
    omega
theorem text_quo (s rest t : List UInt8) (i : Nat) (h : s.drop i = jquM t ++ rest) : textP s i = .ok t (i + (jquM t).length) := by
  have h' : s.drop i = 34 :: (jquI t ++ 34 :: rest) := by rw [h]; simp [jquM]
  have h0 := drop_hd h'
  have hsk := get_skip_not s i 34 h0 (by decide)
  have hn : needP s 34 i = .ok () (i + 1) := by unfold needP; rw [hsk, if_pos h0]
  unfold textP
  rw [hn]
  simp only
  unfold txtP
  have hl : t.length < s.length + 1 := by
    have h1 := congrArg List.length h'
    simp only [List.length_drop, List.length_cons, List.length_append] at h1
    have h2 : t.length ≤ (jquI t).length := by
      clear h h' h0 hsk hn h1
      induction t with
      | nil => simp
      | cons c t ih =>
        have e : jquI (c :: t) = jquB c ++ jquI t := by simp [jquI]
        have hc : 1 ≤ (jquB c).length := by
          rcases quo_ways c with ⟨hq, _⟩ | ⟨x, hq, _⟩ | ⟨x, y, hq, _⟩ <;> rw [hq] <;> simp
        rw [e, List.length_append, List.length_cons]; omega
    omega
  rw [txt_quo s rest t _ (i + 1) [] (drop_tl h') hl]
  simp only [jquM, List.nil_append, List.length_cons, List.length_append, List.length_nil]
  congr 1
  omega

/-! ### numbers -/
theorem dec_dig (u : Nat) : ∀ b ∈ decDigits u, digB b = true := by
  induction u using Nat.strongRecOn with
  | _ u ih =>
    have key : ∀ d, d < 10 → digB (UInt8.ofNat (48 + d)) = true := fun d hd => by
      have h : ∀ i : Fin 10, digB (UInt8.ofNat (48 + i.val)) = true := by decide +kernel
      exact h ⟨d, hd⟩
    intro b hb
    by_cases h : u < 10
    · rw [decDigits, dif_pos h] at hb
      rw [List.mem_singleton] at hb; subst hb; exact key u h
    · rw [decDigits, dif_neg h] at hb
      simp only [List.mem_append, List.mem_singleton] at hb
      rcases hb with hb | hb
      · exact ih (u / 10) (by omega) b hb
      · subst hb; exact key _ (by omega)
theorem dec_valN (u : Nat) : valN (decDigits u) = u := by
  induction u using Nat.strongRecOn with
  | _ u ih =>
    have key : ∀ d, d < 10 → (UInt8.ofNat (48 + d)).toNat - 48 = d := fun d hd => by
      have h : ∀ i : Fin 10, (UInt8.ofNat (48 + i.val)).toNat - 48 = i.val := by decide +kernel
      exact h ⟨d, hd⟩
    by_cases h : u < 10
    · rw [decDigits, dif_pos h]
      simp only [valN, List.foldl_cons, List.foldl_nil, key u h]
      omega
    · have := ih (u / 10) (by omega)
      rw [decDigits, dif_neg h]
      unfold valN at this ⊢
      rw [List.foldl_append, this]
      simp only [List.foldl_cons, List.foldl_nil, key (u % 10) (by omega)]
      omega
theorem dec_head (u : Nat) (h1 : 1 ≤ u) : (decDigits u)[0]? ≠ some 48 := by
  induction u using Nat.strongRecOn with
  | _ u ih =>
    have key : ∀ d, d < 10 → 1 ≤ d → (UInt8.ofNat (48 + d)) ≠ 48 := fun d hd => by
      have h : ∀ i : Fin 10, 1 ≤ i.val → UInt8.ofNat (48 + i.val) ≠ 48 := by decide +kernel
      exact h ⟨d, hd⟩
    by_cases h : u < 10
    · rw [decDigits, dif_pos h]
      simp only [List.getElem?_cons_zero, ne_eq, Option.some.injEq]
      exact key u h h1
    · rw [decDigits, dif_neg h]
      have hp := nDigits_pos (u / 10)
      rw [List.getElem?_append_left (by rw [decDigits_length]; omega)]
      exact ih (u / 10) (by omega) (by omega)
theorem nd_le : ∀ k u, u < 10 ^ (k + 1) → nDigits u ≤ k + 1
  | 0, u, h => by rw [nDigits_small (by simpa using h)]; omega
  | k + 1, u, h => by
    by_cases hu : u < 10
    · rw [nDigits_small hu]; omega
    · rw [nDigits_big hu]
      have := nd_le k (u / 10) (by rw [Nat.pow_succ] at h; omega)
      omega
theorem dec_le (u : Nat) (h : u ≤ 999999999999999999) : (decDigits u).length ≤ 18 := by
  rw [decDigits_length]
  exact nd_le 17 u (by have e : (10 : Nat) ^ (17 + 1) = 1000000000000000000 := by decide
                       omega)
theorem take_digs (l rest : List UInt8) (hl : ∀ b ∈ l, digB b = true) (hr : Stop rest) : (l ++ rest).takeWhile digB = l := by
  rw [List.takeWhile_append_of_pos hl]
  cases rest with
  | nil => simp
  | cons c r => rw [List.takeWhile_cons_of_neg (by have := hr c rfl; simp [this])]; simp
theorem num_dec (s rest : List UInt8) (n : Int) (i : Nat) (h1 : -999999999999999999 ≤ n) (h2 : n ≤ 999999999999999999) (h : s.drop i = itoa n ++ rest) (hr : Stop rest) : numP s i = .ok n (i + (itoa n).length) := by
  have go : ∀ (u p : Nat), u ≤ 999999999999999999 → s.drop p = decDigits u ++ rest → (s.drop p).takeWhile digB = decDigits u ∧ digP s p = p + (decDigits u).length ∧ s[p]? = (decDigits u)[0]? ∧ (1 < (decDigits u).length → s[p]? ≠ some 48) ∧ 1 ≤ (decDigits u).length ∧ (decDigits u).length ≤ 18 := fun u p hu hp => by
    have ht := take_digs (decDigits u) rest (dec_dig u) hr
    have hl : 1 ≤ (decDigits u).length := by rw [decDigits_length]; exact nDigits_pos u
    have hh : s[p]? = (decDigits u)[0]? := by have := drop_at hp 0 (by omega); simpa using this
    refine ⟨by rw [hp, ht], by unfold digP; rw [hp, ht], hh, fun h1 => ?_, hl, dec_le u hu⟩
    rw [hh]
    refine dec_head u ?_
    rcases Nat.eq_zero_or_pos u with h0 | h0
    · subst h0; rw [decDigits, dif_pos (by omega)] at h1; simp at h1
    · exact h0
  unfold itoa at h ⊢
  by_cases hn : n < 0
  · rw [if_pos hn] at h ⊢
    have h0 : s[i]? = some 45 := drop_hd (rest := decDigits n.natAbs ++ rest) (by simpa using h)
    have hd : s.drop (i + 1) = decDigits n.natAbs ++ rest := drop_tl (by simpa using h)
    obtain ⟨g1, g2, g3, g4, g5, g6⟩ := go n.natAbs (i + 1) (by omega) hd
    have hf : firstP s i = i + 1 := by unfold firstP; rw [if_pos h0]
    unfold numP
    rw [hf, g2, if_neg (by omega), if_neg (by
      rintro (h | ⟨h, h'⟩)
      · omega
      · exact g4 (by omega) h')]
    unfold numV
    rw [if_pos h0, g1, dec_valN]
    simp only [List.length_cons]
    congr 1 <;> omega
  · rw [if_neg hn] at h ⊢
    obtain ⟨g1, g2, g3, g4, g5, g6⟩ := go n.toNat i (by omega) h
    have h0 : ¬ s[i]? = some 45 := fun e => by
      rw [g3] at e
      have hm := List.mem_of_getElem? e
      have := dec_dig n.toNat 45 hm
      revert this; decide
    have hf : firstP s i = i := by unfold firstP; rw [if_neg h0]
    unfold numP
    rw [hf, g2, if_neg (by omega), if_neg (by
      rintro (h | ⟨h, h'⟩)
      · omega
      · exact g4 (by omega) h')]
    unfold numV
    rw [if_neg h0, g1, dec_valN]
    congr 1 <;> omega
theorem itoa_head (n : Int) : ∃ c r, itoa n = c :: r ∧ (c = 45 ∨ digB c = true) := by
  unfold itoa
  split
  · exact ⟨45, _, rfl, .inl rfl⟩
  · have hp := nDigits_pos n.toNat
    cases hd : decDigits n.toNat with
    | nil => have := decDigits_length n.toNat; rw [hd] at this; simp at this; omega
    | cons c r => exact ⟨c, r, rfl, .inr (dec_dig n.toNat c (by rw [hd]; simp))⟩
end Go.Proofs.YtgpjcjnimheglaaGreatDoor.Jp
/-
  THE PLAIN LAW of WireBack: what is printed of a value is read as that value (lists, maps, values).
-/
namespace Go.Proofs.YtgpjcjnimheglaaGreatDoor.Jp
open Go.Lib

theorem stop_cons {c : UInt8} {l : List UInt8} (h : digB c = false) : Stop (c :: l) := fun x hx => by
  simp at hx; subst hx; exact h
theorem print_eq' (r : Nat) (j : JT) : printM r j = if jright j = false then (3, []) else if j.kind = 0 then (0, [110, 117, 108, 108]) else if j.kind = 1 then (0, if j.num = 1 then [116, 114, 117, 101] else [102, 97, 108, 115, 101]) else if j.kind = 2 then (0, Lib.itoa j.num) else if j.kind = 3 then (0, jquM j.text) else (match r with
    | 0 => (12, [])
    | r + 1 => if (itemsM (printM r) (decide (j.kind = 5)) j.keys 0 j.kids).1 ≠ 0 then ((itemsM (printM r) (decide (j.kind = 5)) j.keys 0 j.kids).1, []) else (0, (if decide (j.kind = 5) then [123] else [91]) ++ (itemsM (printM r) (decide (j.kind = 5)) j.keys 0 j.kids).2 ++ (if decide (j.kind = 5) then [125] else [93]))) := by
  cases r <;> rfl
theorem nil_of_len {α : Type} {l : List α} (h : l.length = 0) : l = [] := List.eq_nil_of_length_eq_zero h
theorem jright_eq (kind num : Int) (t : List UInt8) (keys : List (List UInt8)) (kids : List JT) : jright (.mk kind num t keys kids) =
    if kind = 0 then decide (num = 0) && decide (t = []) && decide (keys.length = 0) && decide (kids.length = 0)
    else if kind = 1 then decide (num = 0 ∨ num = 1) && decide (t = []) && decide (keys.length = 0) && decide (kids.length = 0)
    else if kind = 2 then decide (-999999999999999999 ≤ num ∧ num ≤ 999999999999999999) && decide (t = []) && decide (keys.length = 0) && decide (kids.length = 0)
    else if kind = 3 then decide (num = 0) && decide (keys.length = 0) && decide (kids.length = 0)
    else if kind = 4 then decide (num = 0) && decide (t = []) && decide (keys.length = 0)
    else if kind = 5 then decide (num = 0) && decide (t = []) && decide (keys.length = kids.length)
    else false := rfl
/-- what a right value is -/
theorem right_is {kind num : Int} {t : List UInt8} {keys : List (List UInt8)} {kids : List JT} (h : jright (.mk kind num t keys kids) = true) :
    (kind = 0 ∧ num = 0 ∧ t = [] ∧ keys = [] ∧ kids = []) ∨ (kind = 1 ∧ (num = 0 ∨ num = 1) ∧ t = [] ∧ keys = [] ∧ kids = []) ∨ (kind = 2 ∧ (-999999999999999999 ≤ num ∧ num ≤ 999999999999999999) ∧ t = [] ∧ keys = [] ∧ kids = []) ∨
    (kind = 3 ∧ num = 0 ∧ keys = [] ∧ kids = []) ∨ (kind = 4 ∧ num = 0 ∧ t = [] ∧ keys = []) ∨ (kind = 5 ∧ num = 0 ∧ t = [] ∧ keys.length = kids.length) := by
  rw [jright_eq] at h
  by_cases k0 : kind = 0
  · rw [if_pos k0] at h
    simp only [Bool.and_eq_true, decide_eq_true_eq] at h
    exact .inl ⟨k0, h.1.1.1, h.1.1.2, nil_of_len h.1.2, nil_of_len h.2⟩
  rw [if_neg k0] at h
  by_cases k1 : kind = 1
  · rw [if_pos k1] at h
    simp only [Bool.and_eq_true, decide_eq_true_eq] at h
    exact .inr (.inl ⟨k1, h.1.1.1, h.1.1.2, nil_of_len h.1.2, nil_of_len h.2⟩)
  rw [if_neg k1] at h
  by_cases k2 : kind = 2
  · rw [if_pos k2] at h
    simp only [Bool.and_eq_true, decide_eq_true_eq] at h
    exact .inr (.inr (.inl ⟨k2, h.1.1.1, h.1.1.2, nil_of_len h.1.2, nil_of_len h.2⟩))
  rw [if_neg k2] at h
  by_cases k3 : kind = 3
  · rw [if_pos k3] at h
    simp only [Bool.and_eq_true, decide_eq_true_eq] at h
    exact .inr (.inr (.inr (.inl ⟨k3, h.1.1, nil_of_len h.1.2, nil_of_len h.2⟩)))
  rw [if_neg k3] at h
  by_cases k4 : kind = 4
  · rw [if_pos k4] at h
    simp only [Bool.and_eq_true, decide_eq_true_eq] at h
    exact .inr (.inr (.inr (.inr (.inl ⟨k4, h.1.1, h.1.2, nil_of_len h.2⟩))))
  rw [if_neg k4] at h
  by_cases k5 : kind = 5
  · rw [if_pos k5] at h
    simp only [Bool.and_eq_true, decide_eq_true_eq] at h
    exact .inr (.inr (.inr (.inr (.inr ⟨k5, h.1.1, h.1.2, h.2⟩))))
  rw [if_neg k5] at h
  cases h
theorem print_l (r : Nat) (kids : List JT) : printM (r + 1) (.mk 4 0 [] [] kids) = if (itemsM (printM r) false [] 0 kids).1 ≠ 0 then ((itemsM (printM r) false [] 0 kids).1, []) else (0, [91] ++ (itemsM (printM r) false [] 0 kids).2 ++ [93]) := by
  rw [print_eq']; rfl
theorem print_m (r : Nat) (keys : List (List UInt8)) (kids : List JT) (h : keys.length = kids.length) : printM (r + 1) (.mk 5 0 [] keys kids) = if (itemsM (printM r) true keys 0 kids).1 ≠ 0 then ((itemsM (printM r) true keys 0 kids).1, []) else (0, [123] ++ (itemsM (printM r) true keys 0 kids).2 ++ [125]) := by
  have hR : jright (.mk 5 0 [] keys kids) = true := by simp [jright, JT.kind, JT.num, JT.text, JT.keys, JT.kids, h]
  rw [print_eq', hR]; rfl
theorem word_at (s w rest : List UInt8) (j : JT) (i : Nat) (h : s.drop i = w ++ rest) : wordP s w j i = .ok j (i + w.length) := by
  unfold wordP
  rw [h, if_pos (by rw [List.isPrefixOf_iff_prefix]; exact List.prefix_append _ _)]

/-- one value after the other -/
def Reads (s : List UInt8) (val : Nat → Rs JT) (f : JT → Nat × List UInt8) : Prop := ∀ (k : JT) (t rest : List UInt8) (i : Nat), f k = (0, t) → s.drop i = t ++ rest → Stop rest → val i = .ok k (i + t.length)

theorem items_head {f : JT → Nat × List UInt8} {m : Bool} {keys : List (List UInt8)} {n : Nat} {k : JT} {ks : List JT} (h : (itemsM f m keys n (k :: ks)).1 = 0) :
    ¬ (m = true ∧ keys.getD n [] ∈ keys.take n) ∧ (f k).1 = 0 ∧ (itemsM f m keys (n + 1) ks).1 = 0 ∧
    (itemsM f m keys n (k :: ks)).2 = (if n = 0 then [] else [44]) ++ (if m then jquM (keys.getD n []) ++ [58] else []) ++ (f k).2 ++ (itemsM f m keys (n + 1) ks).2 := by
  rw [itemsM] at h ⊢
  split at h
  · simp at h
  · rename_i h1
    rw [if_neg h1]
    split at h
    · rename_i h2; exact absurd h h2
    · rename_i h2
      rw [if_neg h2]
      exact ⟨h1, by simpa using h2, h, rfl⟩
theorem rest_stop {f : JT → Nat × List UInt8} {m : Bool} {keys : List (List UInt8)} {n : Nat} {ks : List JT} {e : UInt8} {rest : List UInt8} (he : digB e = false) (h : (itemsM f m keys (n + 1) ks).1 = 0) : Stop ((itemsM f m keys (n + 1) ks).2 ++ e :: rest) := by
  cases ks with
  | nil => simpa [itemsM] using stop_cons he
  | cons k ks =>
    obtain ⟨_, _, _, e4⟩ := items_head h
    rw [e4, if_neg (by omega)]
    exact stop_cons (c := 44) (by decide)

theorem many_list (s rest : List UInt8) (val : Nat → Rs JT) (f : JT → Nat × List UInt8) (hv : Reads s val f) : ∀ (ks : List JT) (k : JT) (keys : List (List UInt8)) (n fu i : Nat) (st : KK), (f k).1 = 0 → (itemsM f false keys (n + 1) ks).1 = 0 → s.drop i = (f k).2 ++ ((itemsM f false keys (n + 1) ks).2 ++ 93 :: rest) → ks.length < fu →
    manyF (oneL val) 93 s fu st i = .ok (st.1, st.2 ++ k :: ks) (i + ((f k).2.length + (itemsM f false keys (n + 1) ks).2.length) + 1)
  | [], k, keys, n, fu, i, st, h1, h2, hd, hf => by
    obtain ⟨fu, rfl⟩ : ∃ g, fu = g + 1 := ⟨fu - 1, by omega⟩
    have hval := hv k (f k).2 _ i (by rw [← h1]) hd (rest_stop (by decide) h2)
    have hd2 := drop_next hd
    simp only [itemsM, List.nil_append] at hd2
    have h0 := drop_hd hd2
    have hsk := get_skip_not s _ 93 h0 (by decide)
    unfold manyF oneL
    rw [hval]
    simp only
    rw [hsk, h0, if_neg (by decide), if_pos rfl]
    simp [itemsM]
  | k2 :: ks, k, keys, n, fu, i, st, h1, h2, hd, hf => by
    obtain ⟨fu, rfl⟩ : ∃ g, fu = g + 1 := ⟨fu - 1, by omega⟩
    have hval := hv k (f k).2 _ i (by rw [← h1]) hd (rest_stop (by decide) h2)
    obtain ⟨_, g1, g2, e4⟩ := items_head h2
    rw [if_neg (by omega)] at e4
    simp only [if_false, List.append_nil, Bool.false_eq_true] at e4
    have hd2 := drop_next hd
    rw [e4] at hd2
    simp only [List.append_assoc, List.cons_append, List.nil_append] at hd2
    have h0 := drop_hd hd2
    have hsk := get_skip_not s _ 44 h0 (by decide)
    have ih := many_list s rest val f hv ks k2 keys (n + 1) fu (i + (f k).2.length + 1) (st.1, st.2 ++ [k]) g1 g2 (drop_tl hd2) (by simp only [List.length_cons] at hf; omega)
    unfold manyF
    have ho : oneL val st i = .ok (st.1, st.2 ++ [k]) (i + (f k).2.length) := by unfold oneL; rw [hval]
    rw [ho]
    simp only
    rw [hsk, h0, if_pos rfl, ih, e4]
    simp only [List.append_assoc, List.cons_append, List.nil_append, List.length_cons, List.length_append]
    congr 1
    omega

theorem take_getD {α : Type} (l : List α) (n : Nat) (d : α) (h : n < l.length) : l.take (n + 1) = l.take n ++ [l.getD n d] := by
  rw [List.take_succ_eq_append_getElem h, List.getD_eq_getElem?_getD, List.getElem?_eq_getElem h]; rfl
theorem one_map (s rest : List UInt8) (val : Nat → Rs JT) (f : JT → Nat × List UInt8) (hv : Reads s val f) (k : JT) (key : List UInt8) (i : Nat) (st : KK) (h1 : (f k).1 = 0) (hr : Stop rest) (hn : key ∉ st.1)
    (hd : s.drop i = jquM key ++ ([58] ++ ((f k).2 ++ rest))) : oneM s val st i = .ok (st.1 ++ [key], st.2 ++ [k]) (i + ((jquM key).length + 1 + (f k).2.length)) := by
  have h0 : s[i]? = some 34 := drop_hd (rest := jquI key ++ [34] ++ ([58] ++ ((f k).2 ++ rest))) (by rw [hd]; simp [jquM])
  have hsk := get_skip_not s i 34 h0 (by decide)
  have ht := text_quo s _ key i hd
  have hd2 := drop_next hd
  have h58 : s[i + (jquM key).length]? = some 58 := drop_hd hd2
  have hsk2 := get_skip_not s _ 58 h58 (by decide)
  have hn58 : needP s 58 (i + (jquM key).length) = .ok () (i + (jquM key).length + 1) := by unfold needP; rw [hsk2, if_pos h58]
  have hval := hv k (f k).2 rest (i + (jquM key).length + 1) (by rw [← h1]) (drop_tl hd2) hr
  unfold oneM
  rw [hsk, ht]
  simp only
  rw [if_neg hn, hn58]
  simp only
  rw [hval]
  simp only
  congr 1
  omega
theorem many_map (s rest : List UInt8) (val : Nat → Rs JT) (f : JT → Nat × List UInt8) (hv : Reads s val f) (keys : List (List UInt8)) : ∀ (ks : List JT) (k : JT) (n fu i : Nat) (st : KK), st.1 = keys.take n → n + 1 + ks.length ≤ keys.length → keys.getD n [] ∉ keys.take n → (f k).1 = 0 → (itemsM f true keys (n + 1) ks).1 = 0 →
    s.drop i = jquM (keys.getD n []) ++ ([58] ++ ((f k).2 ++ ((itemsM f true keys (n + 1) ks).2 ++ 125 :: rest))) → ks.length < fu →
    manyF (oneM s val) 125 s fu st i = .ok (keys.take (n + 1 + ks.length), st.2 ++ k :: ks) (i + ((jquM (keys.getD n [])).length + 1 + (f k).2.length + (itemsM f true keys (n + 1) ks).2.length) + 1)
  | [], k, n, fu, i, st, hst, hlen, hno, h1, h2, hd, hf => by
    obtain ⟨fu, rfl⟩ : ∃ g, fu = g + 1 := ⟨fu - 1, by omega⟩
    have ho := one_map s _ val f hv k (keys.getD n []) i st h1 (rest_stop (by decide) h2) (by rw [hst]; exact hno) hd
    have hd2 := drop_next (t := jquM (keys.getD n []) ++ ([58] ++ (f k).2)) (rest := (itemsM f true keys (n + 1) []).2 ++ 125 :: rest) (by rw [hd]; simp only [List.append_assoc])
    simp only [itemsM, List.nil_append, List.length_append, List.length_cons, List.length_nil] at hd2
    have el : i + ((jquM (keys.getD n [])).length + (0 + 1 + (f k).2.length)) = i + ((jquM (keys.getD n [])).length + 1 + (f k).2.length) := by omega
    rw [el] at hd2
    have h0 := drop_hd hd2
    have hsk := get_skip_not s _ 125 h0 (by decide)
    unfold manyF
    rw [ho]
    simp only
    rw [hsk, h0, if_neg (by decide), if_pos rfl, hst]
    simp only [itemsM, List.length_nil, Nat.add_zero]
    rw [take_getD keys n [] (by simp at hlen; omega)]
  | k2 :: ks, k, n, fu, i, st, hst, hlen, hno, h1, h2, hd, hf => by
    obtain ⟨fu, rfl⟩ : ∃ g, fu = g + 1 := ⟨fu - 1, by omega⟩
    have ho := one_map s _ val f hv k (keys.getD n []) i st h1 (rest_stop (by decide) h2) (by rw [hst]; exact hno) hd
    obtain ⟨g0, g1, g2, e4⟩ := items_head h2
    rw [if_neg (by omega)] at e4
    simp only [if_true] at e4
    have hd2 := drop_next (t := jquM (keys.getD n []) ++ ([58] ++ (f k).2)) (rest := (itemsM f true keys (n + 1) (k2 :: ks)).2 ++ 125 :: rest) (by rw [hd]; simp only [List.append_assoc])
    simp only [List.length_append, List.length_cons, List.length_nil] at hd2 hlen
    have el : i + ((jquM (keys.getD n [])).length + (0 + 1 + (f k).2.length)) = i + ((jquM (keys.getD n [])).length + 1 + (f k).2.length) := by omega
    rw [el, e4] at hd2
    simp only [List.append_assoc, List.cons_append, List.nil_append] at hd2
    have h0 := drop_hd hd2
    have hsk := get_skip_not s _ 44 h0 (by decide)
    have ih := many_map s rest val f hv keys ks k2 (n + 1) fu (i + ((jquM (keys.getD n [])).length + 1 + (f k).2.length) + 1) (st.1 ++ [keys.getD n []], st.2 ++ [k]) (by rw [hst, take_getD keys n [] (by omega)]) (by omega) (fun h => g0 ⟨rfl, h⟩) g1 g2 (by rw [drop_tl hd2]; simp only [List.cons_append, List.nil_append]) (by simp only [List.length_cons] at hf; omega)
    unfold manyF
    rw [ho]
    simp only
    rw [hsk, h0, if_pos rfl, ih, e4]
    simp only [List.append_assoc, List.cons_append, List.nil_append, List.length_cons, List.length_append]
    congr 1
    · congr 2; omega
    · omega

theorem itemsM_len (f : JT → Nat × List UInt8) (m : Bool) (keys : List (List UInt8)) : ∀ (ks : List JT) (n : Nat), (itemsM f m keys (n + 1) ks).1 = 0 → ks.length ≤ (itemsM f m keys (n + 1) ks).2.length
  | [], _, _ => by simp
  | k :: ks, n, h => by
    obtain ⟨_, _, g2, e4⟩ := items_head h
    have := itemsM_len f m keys ks (n + 1) g2
    rw [e4, if_neg (by omega)]
    simp only [List.length_append, List.length_cons, List.length_nil]
    omega
theorem drop_len {s t rest : List UInt8} {i : Nat} (h : s.drop i = t ++ rest) : t.length ≤ s.length := by
  have h1 := congrArg List.length h
  simp only [List.length_drop, List.length_append] at h1
  omega

/-- no value begins with a blank or a sign that closes -/
theorem first_not (t : List UInt8) {r : Nat} {j : JT} (h : printM r j = (0, t)) : ∃ c q, t = c :: q ∧ blankB c = false ∧ c ≠ 93 ∧ c ≠ 125 := by
  rw [print_eq'] at h
  split at h
  · injection h with h _; exact absurd h (by decide)
  split at h
  · injection h with _ h; subst h; exact ⟨110, [117, 108, 108], rfl, by decide, by decide, by decide⟩
  split at h
  · injection h with _ h
    split at h
    · subst h; exact ⟨116, [114, 117, 101], rfl, by decide, by decide, by decide⟩
    · subst h; exact ⟨102, [97, 108, 115, 101], rfl, by decide, by decide, by decide⟩
  split at h
  · injection h with _ h; subst h
    obtain ⟨c, q, hc, hcd⟩ := itoa_head j.num
    have hfin : ∀ x : Fin 256, (UInt8.ofNat x.val = 45 ∨ digB (UInt8.ofNat x.val) = true) → blankB (UInt8.ofNat x.val) = false ∧ UInt8.ofNat x.val ≠ 93 ∧ UInt8.ofNat x.val ≠ 125 := by decide +kernel
    have hx := hfin ⟨c.toNat, c.toNat_lt⟩
    simp only [UInt8.ofNat_toNat] at hx
    exact ⟨c, q, hc, hx hcd⟩
  split at h
  · injection h with _ h; subst h; exact ⟨34, jquI j.text ++ [34], rfl, by decide, by decide, by decide⟩
  · cases r with
    | zero => injection h with h _; exact absurd h (by decide)
    | succ r =>
      simp only at h
      split at h
      · rename_i hx; injection h with h _; exact absurd h hx
      · injection h with _ h
        by_cases h5 : decide (j.kind = 5) = true
        · rw [if_pos h5, if_pos h5] at h
          subst h
          exact ⟨123, _, rfl, by decide, by decide, by decide⟩
        · rw [if_neg h5, if_neg h5] at h
          subst h
          exact ⟨91, _, rfl, by decide, by decide, by decide⟩

theorem val_step (s : List UInt8) (r d : Nat) (hd : r + d = 40) (ih : ∀ r', r = r' + 1 → Reads s (valF s r (d + 1)) (printM r')) : Reads s (valF s (r + 1) d) (printM r) := by
  intro j t rest i hp h hr
  have hp0 := hp
  rw [print_eq'] at hp
  have hR : jright j = true := by
    cases hj : jright j with
    | true => rfl
    | false => rw [hj] at hp; simp at hp
  rw [hR] at hp
  obtain ⟨kind, num, tx, keys, kids⟩ := j
  have hw := right_is hR
  simp only [JT.kind, JT.num, JT.text, JT.keys, JT.kids] at hp
  have hcase : ∀ (c : UInt8), s[i]? = some c → blankB c = false → valF s (r + 1) d i = valP s (valF s r (d + 1)) d c i := fun c h0 hb => by
    have hsk := get_skip_not s i c h0 hb
    conv => lhs; unfold valF
    rw [hsk, h0]
  rcases hw with ⟨rfl, rfl, rfl, rfl, rfl⟩ | ⟨rfl, hn, rfl, rfl, rfl⟩ | ⟨rfl, hn, rfl, rfl, rfl⟩ | ⟨rfl, rfl, rfl, rfl⟩ | ⟨rfl, rfl, rfl, rfl⟩ | ⟨rfl, rfl, rfl, hkl⟩
  · simp at hp; subst hp
    rw [hcase 110 (drop_hd h) (by decide)]
    unfold valP
    rw [if_neg (by simp), if_pos rfl]
    exact word_at s wN rest _ i h
  · simp at hp; subst hp
    rcases hn with rfl | rfl
    · simp at h
      rw [hcase 102 (drop_hd h) (by decide)]
      unfold valP
      rw [if_neg (by simp), if_neg (by decide), if_neg (by decide), if_pos rfl]
      exact word_at s wF rest _ i h
    · simp at h
      rw [hcase 116 (drop_hd h) (by decide)]
      unfold valP
      rw [if_neg (by simp), if_neg (by decide), if_pos rfl]
      exact word_at s wT rest _ i h
  · simp at hp; subst hp
    obtain ⟨c, q, hc, hcd⟩ := itoa_head num
    have hnum := num_dec s rest num i hn.1 hn.2 h hr
    have h0 : s[i]? = some c := drop_hd (by rw [h, hc]; rfl)
    have hfin : ∀ x : Fin 256, (UInt8.ofNat x.val = 45 ∨ digB (UInt8.ofNat x.val) = true) → blankB (UInt8.ofNat x.val) = false ∧ UInt8.ofNat x.val ≠ 91 ∧ UInt8.ofNat x.val ≠ 123 ∧ UInt8.ofNat x.val ≠ 110 ∧ UInt8.ofNat x.val ≠ 116 ∧ UInt8.ofNat x.val ≠ 102 ∧ UInt8.ofNat x.val ≠ 34 := by decide +kernel
    have hx := hfin ⟨c.toNat, c.toNat_lt⟩
    simp only [UInt8.ofNat_toNat] at hx
    obtain ⟨x1, x2, x3, x4, x5, x6, x7⟩ := hx hcd
    rw [hcase c h0 x1]
    unfold valP
    rw [if_neg (by simp [x2, x3]), if_neg x4, if_neg x5, if_neg x6, if_neg x7, if_pos hcd, hnum]
  · simp at hp; subst hp
    have ht := text_quo s rest tx i h
    have h0 : s[i]? = some 34 := drop_hd (rest := jquI tx ++ [34] ++ rest) (by rw [h]; simp [jquM])
    rw [hcase 34 h0 (by decide)]
    unfold valP
    rw [if_neg (by simp), if_neg (by decide), if_neg (by decide), if_neg (by decide), if_pos rfl, ht]
  · cases r with
    | zero => simp at hp
    | succ r =>
      have hv := ih r rfl
      rw [print_l] at hp0
      by_cases hx : (itemsM (printM r) false [] 0 kids).1 = 0
      · rw [if_neg (by simpa using hx)] at hp0
        injection hp0 with _ hp0
        subst hp0
        have h' : s.drop i = 91 :: ((itemsM (printM r) false [] 0 kids).2 ++ 93 :: rest) := by rw [h]; simp
        rw [hcase 91 (drop_hd h') (by decide)]
        have hd1 := drop_tl h'
        have hit : itemsP (oneL (valF s (r + 1) (d + 1))) 93 s ([], []) i = .ok ([], kids) (i + ((itemsM (printM r) false [] 0 kids).2.length + 2)) := by
          cases kids with
          | nil =>
            simp only [itemsM, List.nil_append] at hd1
            have h0 := drop_hd hd1
            have hsk := get_skip_not s _ 93 h0 (by decide)
            unfold itemsP
            rw [hsk, if_pos h0]
            simp [itemsM]
          | cons k ks =>
            obtain ⟨_, g1, g2, e4⟩ := items_head hx
            simp only [if_true, List.nil_append, Bool.false_eq_true, if_false, List.append_nil] at e4
            have e4 : (itemsM (printM r) false [] 0 (k :: ks)).2 = (printM r k).2 ++ (itemsM (printM r) false [] (0 + 1) ks).2 := e4
            rw [e4, List.append_assoc] at hd1
            have hml := itemsM_len (printM r) false [] ks 0 g2
            have hdl := drop_len (t := (printM r k).2 ++ (itemsM (printM r) false [] (0 + 1) ks).2) (by rw [hd1, List.append_assoc])
            rw [List.length_append] at hdl
            have hm := many_list s rest (valF s (r + 1) (d + 1)) (printM r) hv ks k [] 0 (s.length + 1) (i + 1) ([], []) g1 g2 hd1 (by omega)
            -- what is next is no closing sign, and no blank
            have hval := hv k (printM r k).2 _ (i + 1) (by rw [← g1]) hd1 (rest_stop (by decide) g2)
            obtain ⟨c, q, hc, hcb, hce⟩ := first_not (printM r k).2 (r := r) (j := k) (by rw [← g1])
            have h0 : s[i + 1]? = some c := drop_hd (by rw [hd1, hc]; rfl)
            have hsk := get_skip_not s _ c h0 hcb
            unfold itemsP
            rw [hsk, h0, if_neg (by intro e; injection e with e; exact hce.1 e), hm, e4, List.length_append]
            simp only [List.nil_append]
            congr 1
            omega
        unfold valP
        rw [if_neg (by simp; omega), if_neg (by decide), if_neg (by decide), if_neg (by decide), if_neg (by decide), if_neg (by decide), if_pos rfl, hit]
        simp only [listP, List.length_append, List.length_cons, List.length_nil]
        congr 1
        omega
      · rw [if_pos hx] at hp0
        injection hp0 with hp0 _
        exact absurd hp0 hx
  · cases r with
    | zero => simp at hp
    | succ r =>
      have hv := ih r rfl
      rw [print_m r keys kids hkl] at hp0
      by_cases hx : (itemsM (printM r) true keys 0 kids).1 = 0
      · rw [if_neg (by simpa using hx)] at hp0
        injection hp0 with _ hp0
        subst hp0
        have h' : s.drop i = 123 :: ((itemsM (printM r) true keys 0 kids).2 ++ 125 :: rest) := by rw [h]; simp
        rw [hcase 123 (drop_hd h') (by decide)]
        have hd1 := drop_tl h'
        have hit : itemsP (oneM s (valF s (r + 1) (d + 1))) 125 s ([], []) i = .ok (keys, kids) (i + ((itemsM (printM r) true keys 0 kids).2.length + 2)) := by
          cases kids with
          | nil =>
            have hk : keys = [] := nil_of_len hkl
            subst hk
            simp only [itemsM, List.nil_append] at hd1
            have h0 := drop_hd hd1
            have hsk := get_skip_not s _ 125 h0 (by decide)
            unfold itemsP
            rw [hsk, if_pos h0]
            simp [itemsM]
          | cons k ks =>
            obtain ⟨_, g1, g2, e4⟩ := items_head hx
            have e4 : (itemsM (printM r) true keys 0 (k :: ks)).2 = jquM (keys.getD 0 []) ++ ([58] ++ ((printM r k).2 ++ (itemsM (printM r) true keys (0 + 1) ks).2)) := by rw [e4]; simp
            rw [e4] at hd1
            simp only [List.append_assoc] at hd1
            have hml := itemsM_len (printM r) true keys ks 0 g2
            have hdl := drop_len (t := jquM (keys.getD 0 []) ++ ([58] ++ ((printM r k).2 ++ (itemsM (printM r) true keys (0 + 1) ks).2))) (rest := 125 :: rest) (by rw [hd1]; simp only [List.append_assoc])
            simp only [List.length_append] at hdl
            simp only [List.length_cons] at hkl
            have hm := many_map s rest (valF s (r + 1) (d + 1)) (printM r) hv keys ks k 0 (s.length + 1) (i + 1) ([], []) (by simp) (by omega) (by simp) g1 g2 hd1 (by omega)
            have h0 : s[i + 1]? = some 34 := drop_hd (by rw [hd1]; unfold jquM; rfl)
            have hsk := get_skip_not s _ 34 h0 (by decide)
            unfold itemsP
            rw [hsk, h0, if_neg (by decide), hm, e4]
            have htk : keys.take (0 + 1 + ks.length) = keys := List.take_of_length_le (by omega)
            rw [htk]
            simp only [List.nil_append, List.length_append, List.length_cons, List.length_nil]
            congr 1
            omega
        unfold valP
        rw [if_neg (by rintro ⟨h, _⟩; omega), if_neg (by decide), if_neg (by decide), if_neg (by decide), if_neg (by decide), if_neg (by decide), if_neg (by decide), if_pos rfl, hit]
        simp only [listP, List.length_append, List.length_cons, List.length_nil]
        congr 1
        omega
      · rw [if_pos hx] at hp0
        injection hp0 with hp0 _
        exact absurd hp0 hx

/-- what is printed is read -/
theorem val_print (s : List UInt8) : ∀ (r d : Nat), r + d = 40 → Reads s (valF s (r + 1) d) (printM r)
  | 0, d, h => val_step s 0 d h fun r' e => by omega
  | r + 1, d, h => val_step s (r + 1) d h fun r' e => by
    obtain rfl : r' = r := by omega
    exact val_print s r' (d + 1) (by omega)
theorem parse_print {j : JT} {t : List UInt8} (h : printM 40 j = (0, t)) : parseP t = .ok j 0 := by
  have hv := val_print t 40 0 (by omega) j t [] 0 h (by simp) (fun c hc => by simp at hc)
  unfold parseP
  rw [hv]
  simp only [Nat.zero_add]
  rw [skip_end t t.length (Nat.le_refl _), if_neg (by omega)]
end Go.Proofs.YtgpjcjnimheglaaGreatDoor.Jp
/-
  THE PLAIN LAW of WireBack: what is read of a text can be printed, and how much it may weigh.
-/
namespace Go.Proofs.YtgpjcjnimheglaaGreatDoor.Jp
open Go.Lib

/-- what holds before each of many, and what behind -/
theorem many_pos {σ : Type} {one : σ → Nat → Rs σ} {e : UInt8} {s : List UInt8} (P Q : σ → Nat → Prop) (h1 : ∀ st i st' k, P st i → one st i = .ok st' k → Q st' k) (h2 : ∀ st k k', Q st k → k < k' → P st k') :
    ∀ (f : Nat) (st : σ) (i : Nat) (st' : σ) (K : Nat), P st i → manyF one e s f st i = .ok st' K → ∃ k, Q st' k ∧ k < K
  | 0, st, i, st', K, _, h => by simp [manyF] at h
  | f + 1, st, i, st', K, hp, h => by
    unfold manyF at h
    split at h
    · exact absurd h (by simp)
    · rename_i st1 k1 ho
      have hq := h1 st i st1 k1 hp ho
      have hg := skip_ge s k1
      split at h
      · exact many_pos P Q h1 h2 f st1 (skipP s k1 + 1) st' K (h2 st1 k1 _ hq (by omega)) h
      · split at h
        · injection h with h3 h4
          subst h3
          exact ⟨k1, hq, by omega⟩
        · exact absurd h (by simp)
theorem items_pos {σ : Type} {one : σ → Nat → Rs σ} {e : UInt8} {s : List UInt8} (P Q : σ → Nat → Prop) (h1 : ∀ st i st' k, P st i → one st i = .ok st' k → Q st' k) (h2 : ∀ st k k', Q st k → k < k' → P st k')
    {st : σ} {i : Nat} {st' : σ} {K : Nat} (hp : ∀ i', i + 1 ≤ i' → P st i') (h : itemsP one e s st i = .ok st' K) : (st' = st ∧ i + 2 ≤ K) ∨ ∃ k, Q st' k ∧ k < K := by
  have hg := skip_ge s (i + 1)
  unfold itemsP at h
  split at h
  · injection h with h3 h4
    exact .inl ⟨h3.symm, by omega⟩
  · exact .inr (many_pos P Q h1 h2 _ _ _ _ _ (hp _ hg) h)

theorem word_ok {s w : List UInt8} {j0 j : JT} {i k : Nat} (h : wordP s w j0 i = .ok j k) : j = j0 ∧ k = i + w.length := by
  unfold wordP at h
  split at h
  · injection h with h1 h2; exact ⟨h1.symm, h2.symm⟩
  · exact absurd h (by simp)
theorem num_ok {s : List UInt8} {i : Nat} {n : Int} {k : Nat} (h : numP s i = .ok n k) : (-999999999999999999 ≤ n ∧ n ≤ 999999999999999999) ∧ i + 1 ≤ k := by
  have hf : i ≤ firstP s i := by unfold firstP; split <;> omega
  have hd := dig_ge s (firstP s i)
  unfold numP at h
  split at h
  · exact absurd h (by simp)
  · rename_i h0
    split at h
    · exact absurd h (by simp)
    · rename_i h1
      injection h with h3 h4
      have hb := numV_bound s i (fun h => h1 (.inl h))
      rw [h3] at hb
      exact ⟨by omega, by omega⟩

/-- keys that are none of those before -/
def Distinct (ks : List (List UInt8)) : Prop := ∀ n, n < ks.length → ks.getD n [] ∉ ks.take n
theorem Distinct.nil : Distinct [] := fun n h => by simp at h
theorem Distinct.snoc {ks : List (List UInt8)} {k : List UInt8} (h : Distinct ks) (hk : k ∉ ks) : Distinct (ks ++ [k]) := fun n hn => by
  simp only [List.length_append, List.length_cons, List.length_nil] at hn
  by_cases hl : n < ks.length
  · have := h n hl
    rw [List.take_append_of_le_length (by omega)]
    rw [List.getD_eq_getElem?_getD] at this ⊢
    rw [List.getElem?_append_left hl]
    exact this
  · obtain rfl : n = ks.length := by omega
    rw [List.take_append_of_le_length (Nat.le_refl _), List.take_length, List.getD_eq_getElem?_getD, List.getElem?_append_right (Nat.le_refl _)]
    simpa using hk
theorem items_zero (f : JT → Nat × List UInt8) (m : Bool) (keys : List (List UInt8)) : ∀ (ks : List JT) (n : Nat), (∀ k ∈ ks, (f k).1 = 0) → (m = true → Distinct keys ∧ n + ks.length ≤ keys.length) → (itemsM f m keys n ks).1 = 0
  | [], _, _, _ => by simp [itemsM]
  | k :: ks, n, h, hm => by
    rw [itemsM, if_neg, if_neg (by simpa using h k (by simp))]
    · exact items_zero f m keys ks (n + 1) (fun x hx => h x (by simp [hx])) fun e => ⟨(hm e).1, by have := (hm e).2; simp only [List.length_cons] at this; omega⟩
    · rintro ⟨e, hn⟩
      have := hm e
      exact this.1 n (by have := this.2; simp only [List.length_cons] at this; omega) hn
theorem oneL_ok {val : Nat → Rs JT} {st st' : KK} {i k : Nat} (h : oneL val st i = .ok st' k) : ∃ j, val i = .ok j k ∧ st' = (st.1, st.2 ++ [j]) := by
  unfold oneL at h
  split at h
  · exact absurd h (by simp)
  · rename_i j k1 hv
    injection h with h1 h2
    subst h2
    exact ⟨j, hv, h1.symm⟩
theorem oneM_ok {s : List UInt8} {val : Nat → Rs JT} {st st' : KK} {i k : Nat} (h : oneM s val st i = .ok st' k) :
    ∃ key k1 j, textP s (skipP s i) = .ok key k1 ∧ key ∉ st.1 ∧ val (skipP s k1 + 1) = .ok j k ∧ st' = (st.1 ++ [key], st.2 ++ [j]) := by
  unfold oneM at h
  split at h
  · exact absurd h (by simp)
  · rename_i key k1 ht
    split at h
    · exact absurd h (by simp)
    · rename_i hn
      split at h
      · exact absurd h (by simp)
      · rename_i k2 hk2
        have e2 : k2 = skipP s k1 + 1 := by
          unfold needP at hk2
          split at hk2
          · injection hk2 with _ h2; exact h2.symm
          · exact absurd hk2 (by simp)
        subst e2
        split at h
        · exact absurd h (by simp)
        · rename_i j k3 hv
          injection h with h1 h2
          subst h2
          exact ⟨key, k1, j, ht, hn, hv, h1.symm⟩

theorem print_list {r : Nat} {kids : List JT} (h : ∀ k ∈ kids, (printM r k).1 = 0) : (printM (r + 1) (.mk 4 0 [] [] kids)).1 = 0 := by
  have hz := items_zero (printM r) false [] kids 0 h (fun e => by cases e)
  rw [print_eq']
  have hR : jright (.mk 4 0 [] [] kids) = true := by simp [jright, JT.kind, JT.num, JT.text, JT.keys]
  rw [hR]
  simp [JT.kind, JT.keys, JT.kids, hz]
theorem print_map {r : Nat} {keys : List (List UInt8)} {kids : List JT} (h : ∀ k ∈ kids, (printM r k).1 = 0) (hl : keys.length = kids.length) (hd : Distinct keys) : (printM (r + 1) (.mk 5 0 [] keys kids)).1 = 0 := by
  have hz := items_zero (printM r) true keys kids 0 h (fun _ => ⟨hd, by omega⟩)
  rw [print_eq']
  have hR : jright (.mk 5 0 [] keys kids) = true := by simp [jright, JT.kind, JT.num, JT.text, JT.keys, JT.kids, hl]
  rw [hR]
  simp [JT.kind, JT.keys, JT.kids, hz]
theorem listP_ok {r : Rs KK} {kind : Int} {j : JT} {k : Nat} (h : listP r kind = .ok j k) : ∃ st, r = .ok st k ∧ j = .mk kind 0 [] st.1 st.2 := by
  unfold listP at h
  split at h
  · exact absurd h (by simp)
  · rename_i st k1
    injection h with h1 h2
    subst h2
    exact ⟨st, rfl, h1.symm⟩
theorem mem_snoc {α : Type} {l : List α} {a : α} {P : α → Prop} (h : ∀ x ∈ l, P x) (ha : P a) : ∀ x ∈ l ++ [a], P x := fun x hx => by
  rcases List.mem_append.1 hx with hx | hx
  · exact h x hx
  · rw [List.mem_singleton.1 hx]; exact ha
theorem kk_eq {st : KK} {a : List (List UInt8)} {b : List JT} (h : st = (a, b)) : st.1 = a ∧ st.2 = b := by subst h; exact ⟨rfl, rfl⟩

/-- what is read can be printed -/
theorem val_right (s : List UInt8) : ∀ (f d i : Nat) (j : JT) (k : Nat), f + d = 41 → valF s f d i = .ok j k → (printM (f - 1) j).1 = 0
  | 0, d, i, j, k, _, h => by simp [valF] at h
  | f + 1, d, i, j, k, hd, h => by
    rw [Nat.add_sub_cancel]
    unfold valF at h
    split at h
    · exact absurd h (by simp)
    · rename_i c hc
      unfold valP at h
      split at h
      · exact absurd h (by simp)
      · rename_i hfull
        split at h
        · obtain ⟨rfl, _⟩ := word_ok h
          rw [print_eq']; simp [jright, JT.kind, JT.num, JT.text, JT.keys, JT.kids]
        split at h
        · obtain ⟨rfl, _⟩ := word_ok h
          rw [print_eq']; simp [jright, JT.kind, JT.num, JT.text, JT.keys, JT.kids]
        split at h
        · obtain ⟨rfl, _⟩ := word_ok h
          rw [print_eq']; simp [jright, JT.kind, JT.num, JT.text, JT.keys, JT.kids]
        split at h
        · split at h
          · exact absurd h (by simp)
          · injection h with h _; subst h
            rw [print_eq']; simp [jright, JT.kind, JT.num, JT.text, JT.keys, JT.kids]
        split at h
        · split at h
          · exact absurd h (by simp)
          · rename_i n e hn
            injection h with h _; subst h
            have hb := (num_ok hn).1
            rw [print_eq']; simp [jright, JT.kind, JT.num, JT.text, JT.keys, JT.kids, hb]
        split at h
        · rename_i h91
          obtain ⟨f, rfl⟩ : ∃ g, f = g + 1 := ⟨f - 1, by
            have : ¬ 40 ≤ d := fun h => hfull ⟨h, .inl h91⟩
            omega⟩
          obtain ⟨st, hst, rfl⟩ := listP_ok h
          have hq := items_pos (fun (st : KK) _ => st.1 = [] ∧ ∀ x ∈ st.2, (printM f x).1 = 0) (fun st _ => st.1 = [] ∧ ∀ x ∈ st.2, (printM f x).1 = 0)
            (fun st i st' k hp ho => by
              obtain ⟨j, hv, rfl⟩ := oneL_ok ho
              exact ⟨hp.1, mem_snoc hp.2 (by have := val_right s (f + 1) (d + 1) i j k (by omega) hv; simpa using this)⟩)
            (fun st k k' h _ => h) (fun i' _ => ⟨rfl, fun x hx => by simp at hx⟩) hst
          have hq2 : st.1 = [] ∧ ∀ x ∈ st.2, (printM f x).1 = 0 := by
            rcases hq with ⟨e, _⟩ | ⟨k, h, _⟩
            · obtain ⟨e1, e2⟩ := kk_eq e
              exact ⟨e1, fun x hx => by rw [e2] at hx; simp at hx⟩
            · exact h
          rw [hq2.1]
          exact print_list hq2.2
        split at h
        · rename_i h123
          obtain ⟨f, rfl⟩ : ∃ g, f = g + 1 := ⟨f - 1, by
            have : ¬ 40 ≤ d := fun h => hfull ⟨h, .inr h123⟩
            omega⟩
          obtain ⟨st, hst, rfl⟩ := listP_ok h
          have hq := items_pos (fun (st : KK) _ => st.1.length = st.2.length ∧ Distinct st.1 ∧ ∀ x ∈ st.2, (printM f x).1 = 0) (fun st _ => st.1.length = st.2.length ∧ Distinct st.1 ∧ ∀ x ∈ st.2, (printM f x).1 = 0)
            (fun st i st' k hp ho => by
              obtain ⟨key, k1, j, _, hn, hv, rfl⟩ := oneM_ok ho
              exact ⟨by simp [hp.1], hp.2.1.snoc hn, mem_snoc hp.2.2 (by have := val_right s (f + 1) (d + 1) _ j k (by omega) hv; simpa using this)⟩)
            (fun st k k' h _ => h) (fun i' _ => ⟨rfl, Distinct.nil, fun x hx => by simp at hx⟩) hst
          have hq2 : st.1.length = st.2.length ∧ Distinct st.1 ∧ ∀ x ∈ st.2, (printM f x).1 = 0 := by
            rcases hq with ⟨e, _⟩ | ⟨k, h, _⟩
            · obtain ⟨e1, e2⟩ := kk_eq e
              exact ⟨by rw [e1, e2]; rfl, by rw [e1]; exact Distinct.nil, fun x hx => by rw [e2] at hx; simp at hx⟩
            · exact h
          exact print_map hq2.2.2 hq2.1 hq2.2.1
        · exact absurd h (by simp)

/-! ### weights -/
set_option maxRecDepth 100000 in
theorem enc_le4 (c : Nat) : (Lx.enc c).length ≤ 4 := by
  unfold Lx.enc Utf8.encode
  generalize (if Utf8.valid (c : Int) = true then (c : Int).toNat else Utf8.runeError) = n
  by_cases h1 : n < 0x80
  · simp only [if_pos h1]; simp
  · by_cases h2 : n < 0x800
    · simp only [if_neg h1, if_pos h2]; simp
    · by_cases h3 : n < 0x10000
      · simp only [if_neg h1, if_neg h2, if_pos h3]; simp
      · simp only [if_neg h1, if_neg h2, if_neg h3]; simp
theorem esc_grow {s : List UInt8} {i k : Nat} {b : List UInt8} (h : escP s i = .ok b k) : b.length + i ≤ k := by
  unfold escP at h
  split at h
  · exact absurd h (by simp)
  · split at h
    · injection h with h1 h2; subst h1; subst h2; simp; omega
    · split at h
      · unfold uniP at h
        split at h
        · exact absurd h (by simp)
        · split at h
          · exact absurd h (by simp)
          · split at h
            · injection h with h1 h2
              have h3 : b.length ≤ 4 := by rw [← h1]; exact enc_le4 _
              omega
            · unfold lowP at h
              split at h
              · split at h
                · split at h
                  · injection h with h1 h2
                    have h3 : b.length ≤ 4 := by rw [← h1]; exact enc_le4 _
                    omega
                  · exact absurd h (by simp)
                · exact absurd h (by simp)
              · exact absurd h (by simp)
      · exact absurd h (by simp)
theorem txt_len (s : List UInt8) : ∀ (f i : Nat) (acc t : List UInt8) (k : Nat), txtF s f i acc = .ok t k → t.length + i + 1 ≤ k + acc.length
  | 0, i, acc, t, k, h => by simp [txtF] at h
  | f + 1, i, acc, t, k, h => by
    unfold txtF at h
    split at h
    · exact absurd h (by simp)
    · split at h
      · exact absurd h (by simp)
      · split at h
        · injection h with h1 h2; subst h1; omega
        · split at h
          · split at h
            · exact absurd h (by simp)
            · rename_i b k1 he
              have h1 := esc_grow he
              have h2 := txt_len s f k1 (acc ++ b) t k h
              rw [List.length_append] at h2
              omega
          · have h2 := txt_len s f (i + 1) (acc ++ [_]) t k h
            rw [List.length_append, List.length_cons, List.length_nil] at h2
            omega
theorem text_len {s : List UInt8} {i k : Nat} {t : List UInt8} (h : textP s i = .ok t k) : t.length + i + 2 ≤ k := by
  have hg := skip_ge s i
  unfold textP at h
  split at h
  · exact absurd h (by simp)
  · rename_i k1 hk1
    have e2 : k1 = skipP s i + 1 := by
      unfold needP at hk1
      split at hk1
      · injection hk1 with _ h2; exact h2.symm
      · exact absurd hk1 (by simp)
    have := txt_len s _ _ _ _ _ h
    simp only [List.length_nil] at this
    omega
theorem keyW_snoc (ks : List (List UInt8)) (k : List UInt8) : JT.keyW (ks ++ [k]) = JT.keyW ks + (6 * k.length + 8) := by
  unfold JT.keyW
  simp
theorem wts_snoc (l : List JT) (j : JT) : JT.wts (l ++ [j]) = JT.wts l + (j.wt + 2) := by
  induction l with
  | nil => simp [JT.wts]
  | cons a l ih => simp only [List.cons_append, JT.wts, ih]; omega

/-- how much it weighs -/
theorem val_wt (s : List UInt8) : ∀ (f d i : Nat) (j : JT) (k : Nat), valF s f d i = .ok j k → j.wt + 48 * i ≤ 48 * k
  | 0, d, i, j, k, h => by simp [valF] at h
  | f + 1, d, i, j, k, h => by
    have hg := skip_ge s i
    unfold valF at h
    split at h
    · exact absurd h (by simp)
    · rename_i c hc
      unfold valP at h
      split at h
      · exact absurd h (by simp)
      · split at h
        · obtain ⟨rfl, rfl⟩ := word_ok h
          simp [JT.wt, JT.keyW, JT.wts, wN]; omega
        split at h
        · obtain ⟨rfl, rfl⟩ := word_ok h
          simp [JT.wt, JT.keyW, JT.wts, wT]; omega
        split at h
        · obtain ⟨rfl, rfl⟩ := word_ok h
          simp [JT.wt, JT.keyW, JT.wts, wF]; omega
        split at h
        · split at h
          · exact absurd h (by simp)
          · rename_i t e ht
            injection h with h h2; subst h; subst h2
            have := text_len ht
            simp [JT.wt, JT.keyW, JT.wts]; omega
        split at h
        · split at h
          · exact absurd h (by simp)
          · rename_i n e hn
            injection h with h h2; subst h; subst h2
            have := (num_ok hn).2
            simp [JT.wt, JT.keyW, JT.wts]; omega
        split at h
        · obtain ⟨st, hst, rfl⟩ := listP_ok h
          have hq := items_pos (fun (st : KK) i' => st.1 = [] ∧ JT.wts st.2 + 48 * skipP s i + 48 ≤ 48 * i') (fun st k => st.1 = [] ∧ JT.wts st.2 + 48 * skipP s i + 46 ≤ 48 * k)
            (fun st i' st' k hp ho => by
              obtain ⟨j, hv, rfl⟩ := oneL_ok ho
              have hw := val_wt s f (d + 1) i' j k hv
              refine ⟨hp.1, ?_⟩
              have := hp.2
              show JT.wts (st.2 ++ [j]) + 48 * skipP s i + 46 ≤ 48 * k
              rw [wts_snoc]
              omega)
            (fun st k k' h _ => ⟨h.1, by have := h.2; omega⟩) (fun i' _ => ⟨rfl, by simp only [JT.wts]; omega⟩) hst
          have hq2 : st.1 = [] ∧ JT.wts st.2 + 48 * skipP s i + 46 ≤ 48 * k := by
            rcases hq with ⟨e, hk⟩ | ⟨k, h, hk⟩
            · obtain ⟨e1, e2⟩ := kk_eq e
              exact ⟨e1, by rw [e2]; simp only [JT.wts]; omega⟩
            · exact ⟨h.1, by have := h.2; omega⟩
          obtain ⟨q1, q2⟩ := hq2
          simp only [JT.wt, q1, JT.keyW, List.map_nil, List.sum_nil, List.length_nil]
          omega
        split at h
        · obtain ⟨st, hst, rfl⟩ := listP_ok h
          have hq := items_pos (fun (st : KK) i' => JT.keyW st.1 + JT.wts st.2 + 48 * skipP s i + 48 ≤ 48 * i') (fun st k => JT.keyW st.1 + JT.wts st.2 + 48 * skipP s i + 46 ≤ 48 * k)
            (fun st i' st' k hp ho => by
              obtain ⟨key, k1, j, ht, _, hv, rfl⟩ := oneM_ok ho
              have hw := val_wt s f (d + 1) _ j k hv
              have ht := text_len ht
              have g1 := skip_ge s i'
              have g2 := skip_ge s k1
              show JT.keyW (st.1 ++ [key]) + JT.wts (st.2 ++ [j]) + 48 * skipP s i + 46 ≤ 48 * k
              rw [wts_snoc, keyW_snoc]
              omega)
            (fun st k k' h _ => by omega) (fun i' _ => by simp only [JT.wts, JT.keyW, List.map_nil, List.sum_nil]; omega) hst
          have hq2 : JT.keyW st.1 + JT.wts st.2 + 48 * skipP s i + 46 ≤ 48 * k := by
            rcases hq with ⟨e, hk⟩ | ⟨k, h, hk⟩
            · obtain ⟨e1, e2⟩ := kk_eq e
              rw [e1, e2]; simp only [JT.wts, JT.keyW, List.map_nil, List.sum_nil]; omega
            · omega
          simp only [JT.wt, List.length_nil]
          omega
        · exact absurd h (by simp)

/-- what is parsed of a text: it can be printed, and weighs so much -/
theorem parse_right {s : List UInt8} {j : JT} {k : Nat} (h : parseP s = .ok j k) : (printM 40 j).1 = 0 ∧ j.wt ≤ 48 * s.length ∧ k = 0 := by
  unfold parseP at h
  split at h
  · exact absurd h (by simp)
  · rename_i j' k' hv
    split at h
    · exact absurd h (by simp)
    · rename_i hs
      injection h with h1 h2
      subst h1
      have hr := val_right s 41 0 0 j' k' (by omega) hv
      have hw := val_wt s 41 0 0 j' k' hv
      have ha := val_ahead s 41 0 0 (Nat.zero_le _)
      rw [hv] at ha
      have hk := ha.2
      exact ⟨hr, by omega, h2.symm⟩
end Go.Proofs.YtgpjcjnimheglaaGreatDoor.Jp
/-
  WALKS of package wire's reader: value's second closure.
-/
namespace Go.Proofs.YtgpjcjnimheglaaGreatDoor
open Go.RowKit

/-- what the second closure works on, with a key more than the value tells yet -/
structure JMid (w0 : World) (g gj br bd d dep : Nat) (kind : Int) (w : World) (st : Jp.KK) (vK0 vK vD : Value) (xs : List Value) : Prop where
  aft : AftR g w0 w
  obj : Blk w gj 70 #[.int .i64 kind, .int .i64 0, .string ⟨#[]⟩, vK0, vD]
  rbox : Blk w br 135 #[.pointer (some ⟨g, 0, none⟩)]
  dbox : Blk w bd 3 #[.int .i64 dep]
  keys : w.ownsRow (w0.heap.size + 3) 9 1 vK st.1.length (txtV st.1)
  kids : w.ownsRow (w0.heap.size + 3) 70 5 vD st.2.length xs
  rows : KidsF w (fun b => w0.heap.size + 3 ≤ b ∧ b ≠ gj ∧ b ≠ br ∧ b ≠ bd ∧ vK.ownBlock ≠ some b ∧ vD.ownBlock ≠ some b) d st.2 xs
  gl : g < w0.heap.size
  lj : w0.heap.size + 3 ≤ gj
  lr : w0.heap.size ≤ br
  ld : w0.heap.size ≤ bd
  nej : vD.ownBlock ≠ some gj
  res : Blk w (w0.heap.size + 2) 70 #[.int .i64 0, .int .i64 0, .string ⟨#[]⟩, .slice none 0 0, .slice none 0 0]
theorem JMid.after {w0 : World} {g gj br bd d dep : Nat} {kind : Int} {w w' : World} {st : Jp.KK} {vK0 vK vD : Value} {xs : List Value} (h : JMid w0 g gj br bd d dep kind w st vK0 vK vD xs) (ha : AftR g w w') : JMid w0 g gj br bd d dep kind w' st vK0 vK vD xs := by
  have hgl := h.gl
  have hlj := h.lj
  have hlr := h.lr
  have hld := h.ld
  refine ⟨h.aft.trans ha, ?_, ?_, ?_, ?_, ?_, h.rows.keep ⟨ha.bel.size, fun b hb hl => ha.oth b hl (by have := hb.1; omega)⟩ (fun b hb _ => hb), hgl, hlj, hlr, hld, h.nej, (ha.oth _ h.res.lt (by omega)).trans h.res⟩
  · exact (ha.oth gj h.obj.lt (by omega)).trans h.obj
  · exact (ha.oth br h.rbox.lt (by omega)).trans h.rbox
  · exact (ha.oth bd h.dbox.lt (by omega)).trans h.dbox
  · exact own_of_block h.keys fun b hb => ha.oth b (h.keys.lt b hb).2 (by have := (h.keys.lt b hb).1; omega)
  · exact own_of_block h.kids fun b hb => ha.oth b (h.kids.lt b hb).2 (by have := (h.kids.lt b hb).1; omega)
/-- a key more -/
theorem JSt.key {w0 : World} {g gj br bd f dep : Nat} {kind : Int} {w5 w6 : World} {st : Jp.KK} {vK vD : Value} {xs : List Value} {g1 cap : Nat} {key : Bs}
    (hJ : JSt w0 g gj br bd f dep kind w5 st vK vD xs) (hgrow : w5.grownBy w6 vK.ownBlock) (hat : vK.ownBlock = some g1 ∨ g1 = w5.heap.size) (hown : w6.ownsRow (w0.heap.size + 3) 9 1 (.slice (some ⟨g1, 0, none⟩) (st.1.length + 1) cap) (st.1.length + 1) (txtV st.1 ++ [.string ⟨key.toArray⟩])) :
    JMid w0 g gj br bd f dep kind w6 (st.1 ++ [key], st.2) vK (.slice (some ⟨g1, 0, none⟩) (st.1.length + 1) cap) vD xs := by
  have hF : ∀ b, (w0.heap.size + 3 ≤ b ∧ b ≠ gj ∧ b ≠ br ∧ b ≠ bd ∧ vK.ownBlock ≠ some b ∧ vD.ownBlock ≠ some b) → b < w5.heap.size → (w0.heap.size + 3 ≤ b ∧ b ≠ gj ∧ b ≠ br ∧ b ≠ bd ∧ (Value.slice (some ⟨g1, 0, none⟩) (st.1.length + 1) cap).ownBlock ≠ some b ∧ vD.ownBlock ≠ some b) := fun b hb hl =>
    ⟨hb.1, hb.2.1, hb.2.2.1, hb.2.2.2.1, fun e => by
      have e : g1 = b := by simpa [Value.ownBlock] using e
      rcases hat with h | h
      · exact hb.2.2.2.2.1 (by rw [h, e])
      · omega, hb.2.2.2.2.2⟩
  refine ⟨hJ.aft.grown hgrow (fun k hk => Nat.le_trans (Nat.le_add_right _ 3) (hJ.keys.lt k hk).1) hJ.gl, hJ.obj.grown hgrow (own_ne hJ.keys hJ.obj (by decide)), hJ.rbox.grown hgrow (own_ne hJ.keys hJ.rbox (by decide)), hJ.dbox.grown hgrow (own_ne hJ.keys hJ.dbox (by decide)), ?_,
    own_far hJ.kids hJ.keys hgrow (by decide), hJ.rows.keep ⟨hgrow.size, fun b hb hl => hgrow.block b hl (fun e => hb.2.2.2.2.1 e.symm)⟩ hF, hJ.gl, hJ.lj, hJ.lr, hJ.ld, hJ.nej, hJ.res.grown hgrow (fun e => by have := (hJ.keys.lt _ e.symm).1; omega)⟩
  rw [List.length_append, show txtV (st.1 ++ [key]) = txtV st.1 ++ [.string ⟨key.toArray⟩] by simp [txtV, strV]]
  exact hown
/-- both told -/
theorem JMid.told {w0 : World} {g gj br bd f dep : Nat} {kind : Int} {w5 w6 : World} {st : Jp.KK} {vK0 vK vD : Value} {xs : List Value} {g1 cap B k : Nat} {s : Bs} {j : JT} {Ak Ad : Option Addr} {ck cd : Nat}
    (hJ : JMid w0 g gj br bd f dep kind w5 st vK0 vK vD xs) (hj : JInF w5 (fun b => B ≤ b) f j Ak ck Ad) (_hB0 : w0.heap.size ≤ B) (hBj : gj < B) (hBr : br < B) (hBd : bd < B) (hBK : ∀ b, vK.ownBlock = some b → b < B) (hBD : ∀ b, vD.ownBlock = some b → b < B)
    (hgrow : w5.grownBy w6 vD.ownBlock) (hat : vD.ownBlock = some g1 ∨ g1 = w5.heap.size) (hown : w6.ownsRow (w0.heap.size + 3) 70 5 (.slice (some ⟨g1, 0, none⟩) (st.2.length + 1) cap) (st.2.length + 1) (xs ++ jcells j Ak ck Ad cd)) (hrd : RdrAt w5 g s k) :
    RdrAt ((w6.setCell ⟨gj, 3, none⟩ vK).setCell ⟨gj, 4, none⟩ (.slice (some ⟨g1, 0, none⟩) (st.2.length + 1) cap)) g s k ∧
    JSt w0 g gj br bd f dep kind ((w6.setCell ⟨gj, 3, none⟩ vK).setCell ⟨gj, 4, none⟩ (.slice (some ⟨g1, 0, none⟩) (st.2.length + 1) cap)) (st.1, st.2 ++ [j]) vK (.slice (some ⟨g1, 0, none⟩) (st.2.length + 1) cap) (xs ++ jcells j Ak ck Ad cd) := by
  have hobj6 := hJ.obj.grown hgrow (fun e => hJ.nej e.symm)
  have hr6 := hJ.rbox.grown hgrow (own_ne hJ.kids hJ.rbox (by decide))
  have hd6 := hJ.dbox.grown hgrow (own_ne hJ.kids hJ.dbox (by decide))
  have hrd6 := Blk.grown hrd hgrow (own_ne hJ.kids hrd (by decide))
  have hK6 := own_far hJ.keys hJ.kids hgrow (by decide)
  have hggj : g ≠ gj := blk_neJ hrd hJ.obj (by decide)
  have n3 : br ≠ gj := blk_neJ hJ.rbox hJ.obj (by decide)
  have n4 : bd ≠ gj := blk_neJ hJ.dbox hJ.obj (by decide)
  have hg1 : gj ≠ g1 := fun e => by
    rcases hat with h | h
    · exact hJ.nej (by rw [h, e])
    · have := hJ.obj.lt; omega
  have hoth : ∀ b, b ≠ gj → ((w6.setCell ⟨gj, 3, none⟩ vK).setCell ⟨gj, 4, none⟩ (.slice (some ⟨g1, 0, none⟩) (st.2.length + 1) cap)).heap[b]? = w6.heap[b]? := fun b hb => (Below.heap_setCell _ _ _ b hb).trans (Below.heap_setCell _ _ _ b hb)
  have hsz : ((w6.setCell ⟨gj, 3, none⟩ vK).setCell ⟨gj, 4, none⟩ (.slice (some ⟨g1, 0, none⟩) (st.2.length + 1) cap)).heap.size = w6.heap.size := by simp [World.setCell]
  have hobj7 := (hobj6.set_ 3 vK).set_ 4 (.slice (some ⟨g1, 0, none⟩) (st.2.length + 1) cap)
  have haft := ((hJ.aft.grown hgrow (fun k hk => Nat.le_trans (Nat.le_add_right _ 3) (hJ.kids.lt k hk).1) hJ.gl).far (Nat.le_trans (Nat.le_add_right _ 3) hJ.lj) hJ.gl 3 vK).far (Nat.le_trans (Nat.le_add_right _ 3) hJ.lj) hJ.gl 4 (.slice (some ⟨g1, 0, none⟩) (st.2.length + 1) cap)
  generalize (w6.setCell ⟨gj, 3, none⟩ vK).setCell ⟨gj, 4, none⟩ (.slice (some ⟨g1, 0, none⟩) (st.2.length + 1) cap) = W at *
  have hFF : ∀ b, (w0.heap.size + 3 ≤ b ∧ b ≠ gj ∧ b ≠ br ∧ b ≠ bd ∧ vK.ownBlock ≠ some b ∧ vD.ownBlock ≠ some b) → b < w5.heap.size → (w0.heap.size + 3 ≤ b ∧ b ≠ gj ∧ b ≠ br ∧ b ≠ bd ∧ vK.ownBlock ≠ some b ∧ (Value.slice (some ⟨g1, 0, none⟩) (st.2.length + 1) cap).ownBlock ≠ some b) := fun b hb hl =>
    ⟨hb.1, hb.2.1, hb.2.2.1, hb.2.2.2.1, hb.2.2.2.2.1, fun e => by
      have e : g1 = b := by simpa [Value.ownBlock] using e
      rcases hat with h | h
      · exact hb.2.2.2.2.2 (by rw [h, e])
      · omega⟩
  have hkf : KeepF (fun b => w0.heap.size + 3 ≤ b ∧ b ≠ gj ∧ b ≠ br ∧ b ≠ bd ∧ vK.ownBlock ≠ some b ∧ vD.ownBlock ≠ some b) w5 W :=
    ⟨by rw [hsz]; exact hgrow.size, fun b hb hl => (hoth b hb.2.1).trans (hgrow.block b hl (fun e => hb.2.2.2.2.2 e.symm))⟩
  have hlj := hJ.lj
  have hjF : JInF w5 (fun b => w0.heap.size + 3 ≤ b ∧ b ≠ gj ∧ b ≠ br ∧ b ≠ bd ∧ vK.ownBlock ≠ some b ∧ vD.ownBlock ≠ some b) f j Ak ck Ad :=
    hj.keep (KeepF.refl _ _) fun b hb _ => ⟨by omega, by omega, by omega, by omega, fun e => by have := hBK b e; omega, fun e => by have := hBD b e; omega⟩
  refine ⟨(hoth g hggj).trans hrd6, haft, by simpa using hobj7, (hoth br n3).trans hr6, (hoth bd n4).trans hd6, ?_, ?_, (hJ.rows.snoc hjF).keep hkf hFF, hJ.gl, hJ.lj, hJ.lr, hJ.ld, fun e => hg1 (by simpa [Value.ownBlock] using e.symm), (hoth _ (by have := hJ.lj; omega)).trans (hJ.res.grown hgrow (fun e => by have := (hJ.kids.lt _ e.symm).1; omega))⟩
  · exact own_of_block hK6 fun b hb => hoth b (fun e => own_ne hJ.keys hJ.obj (by decide) (by rw [hb, e]))
  · rw [List.length_append]
    exact own_of_block hown fun b hb => hoth b (fun e => hg1 (by simpa [Value.ownBlock, e] using hb.symm))

set_option maxHeartbeats 8000000 in
set_option maxRecDepth 100000 in
theorem val2_walk (w0 : World) (g gj br bd f dep : Nat) (s : Bs) (hv : ∀ (i : Nat) (w : World), RdrAt w g s i → i ≤ s.length → Calls Tryz.prog 56 #[.pointer (some ⟨g, 0, none⟩), .int .i64 ((dep : Int) + 1)] w (ValE g s w f (Jp.valF s f (dep + 1) i)))
    (hdep : dep ≤ 40) (st : Jp.KK) (k : Nat) (w : World) (hP : ∃ vK vD xs, JSt w0 g gj br bd f dep 5 w st vK vD xs) (hM : 4 * st.1.length ≤ k ∧ st.2.length ≤ k) (hr : RdrAt w g s k) (hk : k ≤ s.length) (hl : s.length ≤ 16777216) :
    Calls Tryz.prog 88 #[.pointer (some ⟨br, 0, none⟩), .pointer (some ⟨gj, 0, none⟩), .pointer (some ⟨bd, 0, none⟩)] w (OneE g s (fun w st => ∃ vK vD xs, JSt w0 g gj br bd f dep 5 w st vK vD xs) (AftR g w0) (Jp.oneM s (Jp.valF s f (dep + 1)) st k)) := by
  obtain ⟨i0, ji, jz0, jz1, jz2⟩ := info_parts infoJ
  obtain ⟨i1, si, sz0, sz1, sz2⟩ := info_parts infoStr
  obtain ⟨vK, vD, xs, hJ⟩ := hP
  obtain ⟨Ao, co, rfl⟩ := own_form hJ.kids
  obtain ⟨Ak0, ck0, rfl⟩ := own_form hJ.keys
  have hlen := hJ.rows.1
  have hsk := jskip_walk g s k w hr hk hl
  have hle := Jp.skip_le s k hk
  have hkl : st.1.length ≤ 4194304 := by omega
  have hnl : st.2.length ≤ 16777216 := by omega
  generalize hRR : Jp.oneM s (Jp.valF s f (dep + 1)) st k = R
  have HR := Lib.hid hRR
  have HV := Lib.hid hv
  clear hRR hv hM
  unfold Jp.oneM at HR
  generalize Jp.skipP s k = q at *
  have htx := fun w h => jtext_walk g s q w h hle hl
  have hta := Jp.text_ahead s q hle
  generalize hT : Jp.textP s q = T at *
  have cr := hJ.rbox.cell 0
  simp at cr
  clear hT
  go_enter Tryz.func88, Tryz.ntmps88
  go_wp2_with fail
  refine hsk.mono ?_
  clear hsk cr
  rintro e w1 ⟨rfl, hr1, ha1⟩
  have hJ1 := hJ.after ha1
  clear hJ hr ha1
  have cr := hJ1.rbox.cell 0
  have c1 := hr1.c1
  simp at cr
  go_wp2_with fail
  cases T with
  | bad p er =>
    have HB : Hid (R = .bad p er) := HR.out.symm
    refine (htx w1 hr1).mono ?_
    intro e w2 h2
    obtain ⟨ha2, rfl⟩ := h2.is_bad
    go_wp2_with fail
    exact ⟨rfl, OneE.bad HB.out (hJ1.aft.trans ha2)⟩
  | ok key k1 =>
    obtain ⟨hk1, hk2⟩ := hta
    refine (htx w1 hr1).mono ?_
    clear htx
    intro e w2 h2
    obtain ⟨ha2, rfl, hr2⟩ := h2.is_ok
    have hJ2 := hJ1.after ha2
    clear h2 hJ1 hr1 ha2 cr c1
    have HR2 : Hid ((if decide (key ∈ st.1) = true then .bad q 5 else match Jp.needP s 58 k1 with | .bad p e => .bad p e | .ok _ k2 => match Jp.valF s f (dep + 1) k2 with | .bad p e => .bad p e | .ok j k3 => .ok (st.1 ++ [key], st.2 ++ [j]) k3) = R) := by
      show _ = _
      rw [← HR.out]
      simp only [decide_eq_true_eq]
      rfl
    clear HR
    have hct := contains_walk Ak0 ck0 st.1 key w2 (Rd.of_own hJ2.keys) hkl
    rw [show st.1.contains key = decide (key ∈ st.1) by simp] at hct
    have hnd := fun w h => jneed_walk g s k1 58 w h hk2 hl
    have hna := Jp.need_ahead s 58 k1 hk2
    generalize decide (key ∈ st.1) = bb at *
    have cr := hJ2.rbox.cell 0
    have c3 := hJ2.obj.cell 3
    simp at cr c3
    go_wp2_with fail
    refine hct.mono ?_
    clear hct
    rintro e w3 ⟨rfl, rfl⟩
    cases bb with
    | true =>
      have HB : Hid (R = .bad q 5) := HR2.out.symm
      clear HR2
      go_wp2_with fail
      refine (fail_walk q 5 _).mono ?_
      rintro e w4 ⟨rfl, rfl⟩
      go_wp2_with fail
      exact ⟨rfl, OneE.bad HB.out hJ2.aft⟩
    | false =>
      have HR3 : Hid ((match Jp.needP s 58 k1 with | .bad p e => .bad p e | .ok _ k2 => match Jp.valF s f (dep + 1) k2 with | .bad p e => .bad p e | .ok j k3 => .ok (st.1 ++ [key], st.2 ++ [j]) k3) = R) := HR2.out
      clear HR2
      generalize Jp.needP s 58 k1 = N at *
      go_wp2_with fail
      refine (hnd _ hr2).mono ?_
      clear hnd
      intro e w h4
      cases N with
      | bad p er =>
        obtain ⟨ha2, rfl⟩ := h4.is_bad
        have HB : Hid (R = .bad p er) := HR3.out.symm
        go_wp2_with fail
        exact ⟨rfl, OneE.bad HB.out (hJ2.aft.trans ha2)⟩
      | ok u k2 =>
        obtain ⟨ha2, rfl, hr⟩ := h4.is_ok
        obtain ⟨hk3, hk4⟩ := hna
        have hJ := hJ2.after ha2
        have hval := fun w h => HV.out k2 w h hk4
        have HR4 : Hid ((match Jp.valF s f (dep + 1) k2 with | .bad p e => .bad p e | .ok j k3 => .ok (st.1 ++ [key], st.2 ++ [j]) k3) = R) := HR3.out
        generalize Jp.valF s f (dep + 1) k2 = O at *
        clear HR3 HV h4 hJ2 hr2 ha2 cr c3
        have hdep1 : (dep : Int) + 1 ≤ 41 := by omega
        have hdep2 : IntKind.i64.wrap ((dep : Int) + 1) = (dep : Int) + 1 := IntWalk.i64_in _ (by omega)
        go_wp2_with fail
        refine wp_region_C (fun j w' => (j ∉ [7, 8, 9, 13, 14, 15, 16] → w'.cell? ⟨gj, 3, none⟩ = some (.slice Ak0 st.1.length ck0) ∧ w'.cell? ⟨gj, 4, none⟩ = some (.slice Ao st.2.length co)) ∧ (j ∉ [15, 16] → w'.cell? ⟨br, 0, none⟩ = some (.pointer (some ⟨g, 0, none⟩)) ∧ w'.cell? ⟨bd, 0, none⟩ = some (.int .i64 dep))) (by kernel_rfl) ?_
        have hJ1 := hJ.after ((AftR.refl g w).drew)
        have hr1 := hr.drew
        clear hJ hr
        generalize World.drew w = w1 at *
        have c3 := hJ1.obj.cell 3
        have c4 := hJ1.obj.cell 4
        have cr := hJ1.rbox.cell 0
        have cb := hJ1.dbox.cell 0
        simp at c3 c4 cr cb
        have hS2 : (fun w' : World => w'.cell? ⟨br, 0, none⟩ = some (.pointer (some ⟨g, 0, none⟩)) ∧ w'.cell? ⟨bd, 0, none⟩ = some (.int .i64 dep)) w1 := ⟨cr, cb⟩
        have hS1 : (fun w' : World => (w'.cell? ⟨gj, 3, none⟩ = some (.slice Ak0 st.1.length ck0) ∧ w'.cell? ⟨gj, 4, none⟩ = some (.slice Ao st.2.length co)) ∧ w'.cell? ⟨br, 0, none⟩ = some (.pointer (some ⟨g, 0, none⟩)) ∧ w'.cell? ⟨bd, 0, none⟩ = some (.int .i64 dep)) w1 := ⟨⟨c3, c4⟩, cr, cb⟩
        refine wpAnyC_take (fun w' : World => w'.cell? ⟨br, 0, none⟩ = some (.pointer (some ⟨g, 0, none⟩)) ∧ w'.cell? ⟨bd, 0, none⟩ = some (.int .i64 dep)) [15, 16] (i := 7) (v := ?_) rfl (by kernel_rfl) (by kernel_rfl) (by kernel_rfl) (by kernel_rfl) (fun _ _ _ h => h) (fun j w' _ _ hL h => h.2 hL) (fun w' h => ⟨fun h' => absurd (by simp) h', fun _ => h⟩) (Or.inl ⟨by rfl, ?_⟩) hS2 ?_; rotate_left; · (intro w hSw; (try dsimp only at hSw); obtain ⟨s0, s1⟩ := hSw; go_simp; try with_reducible rfl)
        simp only [Act.put, List.setIfInBounds_toArray]
        refine wpAnyC_take (fun w' : World => w'.cell? ⟨br, 0, none⟩ = some (.pointer (some ⟨g, 0, none⟩)) ∧ w'.cell? ⟨bd, 0, none⟩ = some (.int .i64 dep)) [15, 16] (i := 8) (v := ?_) rfl (by kernel_rfl) (by kernel_rfl) (by kernel_rfl) (by kernel_rfl) (fun _ _ _ h => h) (fun j w' _ _ hL h => h.2 hL) (fun w' h => ⟨fun h' => absurd (by simp) h', fun _ => h⟩) (Or.inl ⟨by rfl, ?_⟩) hS2 ?_; rotate_left; · (intro w hSw; (try dsimp only at hSw); obtain ⟨s0, s1⟩ := hSw; go_simp; try with_reducible rfl)
        simp only [Act.put]
        refine wpAnyC_take (fun w' : World => w'.cell? ⟨br, 0, none⟩ = some (.pointer (some ⟨g, 0, none⟩)) ∧ w'.cell? ⟨bd, 0, none⟩ = some (.int .i64 dep)) [15, 16] (i := 9) (v := ?_) rfl (by kernel_rfl) (by kernel_rfl) (by kernel_rfl) (by kernel_rfl) (fun _ _ _ h => h) (fun j w' _ _ hL h => h.2 hL) (fun w' h => ⟨fun h' => absurd (by simp) h', fun _ => h⟩) (Or.inl ⟨by rfl, ?_⟩) hS2 ?_; rotate_left; · (intro w hSw; (try dsimp only at hSw); obtain ⟨s0, s1⟩ := hSw; go_simp; try with_reducible rfl)
        simp only [Act.put]
        refine wpAnyC_take (fun w' : World => (w'.cell? ⟨gj, 3, none⟩ = some (.slice Ak0 st.1.length ck0) ∧ w'.cell? ⟨gj, 4, none⟩ = some (.slice Ao st.2.length co)) ∧ w'.cell? ⟨br, 0, none⟩ = some (.pointer (some ⟨g, 0, none⟩)) ∧ w'.cell? ⟨bd, 0, none⟩ = some (.int .i64 dep)) [13, 14, 15, 16] (i := 0) (v := ?_) rfl (by kernel_rfl) (by kernel_rfl) (by kernel_rfl) (by kernel_rfl) (fun _ _ _ h => h) (fun j w' hp _ hL h => ⟨h.1 (fun hm => by simp only [List.mem_cons, List.not_mem_nil, or_false] at hm hL; rcases hm with rfl | rfl | rfl | hm; (exact absurd hp (by decide)); (exact absurd hp (by decide)); (exact absurd hp (by decide)); exact hL hm), h.2 (fun hm => hL (by simp only [List.mem_cons, List.not_mem_nil, or_false] at hm ⊢; omega))⟩) (fun w' h => ⟨fun _ => h.1, fun _ => h.2⟩) (Or.inl ⟨by rfl, ?_⟩) hS1 ?_; rotate_left; · (intro w hSw; (try dsimp only at hSw); obtain ⟨⟨s0, s1⟩, s2, s3⟩ := hSw; go_simp; try with_reducible rfl)
        simp only [Act.put]
        refine wpAnyC_take (fun w' : World => (w'.cell? ⟨gj, 3, none⟩ = some (.slice Ak0 st.1.length ck0) ∧ w'.cell? ⟨gj, 4, none⟩ = some (.slice Ao st.2.length co)) ∧ w'.cell? ⟨br, 0, none⟩ = some (.pointer (some ⟨g, 0, none⟩)) ∧ w'.cell? ⟨bd, 0, none⟩ = some (.int .i64 dep)) [13, 14, 15, 16] (i := 1) (v := ?_) rfl (by kernel_rfl) (by kernel_rfl) (by kernel_rfl) (by kernel_rfl) (fun _ _ _ h => h) (fun j w' hp _ hL h => ⟨h.1 (fun hm => by simp only [List.mem_cons, List.not_mem_nil, or_false] at hm hL; rcases hm with rfl | rfl | rfl | hm; (exact absurd hp (by decide)); (exact absurd hp (by decide)); (exact absurd hp (by decide)); exact hL hm), h.2 (fun hm => hL (by simp only [List.mem_cons, List.not_mem_nil, or_false] at hm ⊢; omega))⟩) (fun w' h => ⟨fun _ => h.1, fun _ => h.2⟩) (Or.inl ⟨by rfl, ?_⟩) hS1 ?_; rotate_left; · (intro w hSw; (try dsimp only at hSw); obtain ⟨⟨s0, s1⟩, s2, s3⟩ := hSw; go_simp; try with_reducible rfl)
        simp only [Act.put]
        refine wpAnyC_take (fun w' : World => (w'.cell? ⟨gj, 3, none⟩ = some (.slice Ak0 st.1.length ck0) ∧ w'.cell? ⟨gj, 4, none⟩ = some (.slice Ao st.2.length co)) ∧ w'.cell? ⟨br, 0, none⟩ = some (.pointer (some ⟨g, 0, none⟩)) ∧ w'.cell? ⟨bd, 0, none⟩ = some (.int .i64 dep)) [13, 14, 15, 16] (i := 2) (v := ?_) rfl (by kernel_rfl) (by kernel_rfl) (by kernel_rfl) (by kernel_rfl) (fun _ _ _ h => h) (fun j w' hp _ hL h => ⟨h.1 (fun hm => by simp only [List.mem_cons, List.not_mem_nil, or_false] at hm hL; rcases hm with rfl | rfl | rfl | hm; (exact absurd hp (by decide)); (exact absurd hp (by decide)); (exact absurd hp (by decide)); exact hL hm), h.2 (fun hm => hL (by simp only [List.mem_cons, List.not_mem_nil, or_false] at hm ⊢; omega))⟩) (fun w' h => ⟨fun _ => h.1, fun _ => h.2⟩) (Or.inl ⟨by rfl, ?_⟩) hS1 ?_; rotate_left; · (intro w hSw; (try dsimp only at hSw); obtain ⟨⟨s0, s1⟩, s2, s3⟩ := hSw; go_simp; try with_reducible rfl)
        simp only [Act.put]
        refine wpAnyC_take (fun w' : World => (w'.cell? ⟨gj, 3, none⟩ = some (.slice Ak0 st.1.length ck0) ∧ w'.cell? ⟨gj, 4, none⟩ = some (.slice Ao st.2.length co)) ∧ w'.cell? ⟨br, 0, none⟩ = some (.pointer (some ⟨g, 0, none⟩)) ∧ w'.cell? ⟨bd, 0, none⟩ = some (.int .i64 dep)) [13, 14, 15, 16] (i := 5) (v := ?_) rfl (by kernel_rfl) (by kernel_rfl) (by kernel_rfl) (by kernel_rfl) (fun _ _ _ h => h) (fun j w' hp _ hL h => ⟨h.1 (fun hm => by simp only [List.mem_cons, List.not_mem_nil, or_false] at hm hL; rcases hm with rfl | rfl | rfl | hm; (exact absurd hp (by decide)); (exact absurd hp (by decide)); (exact absurd hp (by decide)); exact hL hm), h.2 (fun hm => hL (by simp only [List.mem_cons, List.not_mem_nil, or_false] at hm ⊢; omega))⟩) (fun w' h => ⟨fun _ => h.1, fun _ => h.2⟩) (Or.inl ⟨by rfl, ?_⟩) hS1 ?_; rotate_left; · (intro w hSw; (try dsimp only at hSw); obtain ⟨⟨s0, s1⟩, s2, s3⟩ := hSw; go_simp; try with_reducible rfl)
        simp only [Act.put]
        refine wpAnyC_take (fun w' : World => (w'.cell? ⟨gj, 3, none⟩ = some (.slice Ak0 st.1.length ck0) ∧ w'.cell? ⟨gj, 4, none⟩ = some (.slice Ao st.2.length co)) ∧ w'.cell? ⟨br, 0, none⟩ = some (.pointer (some ⟨g, 0, none⟩)) ∧ w'.cell? ⟨bd, 0, none⟩ = some (.int .i64 dep)) [13, 14, 15, 16] (i := 6) (v := ?_) rfl (by kernel_rfl) (by kernel_rfl) (by kernel_rfl) (by kernel_rfl) (fun _ _ _ h => h) (fun j w' hp _ hL h => ⟨h.1 (fun hm => by simp only [List.mem_cons, List.not_mem_nil, or_false] at hm hL; rcases hm with rfl | rfl | rfl | hm; (exact absurd hp (by decide)); (exact absurd hp (by decide)); (exact absurd hp (by decide)); exact hL hm), h.2 (fun hm => hL (by simp only [List.mem_cons, List.not_mem_nil, or_false] at hm ⊢; omega))⟩) (fun w' h => ⟨fun _ => h.1, fun _ => h.2⟩) (Or.inl ⟨by rfl, ?_⟩) hS1 ?_; rotate_left; · (intro w hSw; (try dsimp only at hSw); obtain ⟨⟨s0, s1⟩, s2, s3⟩ := hSw; go_simp; try with_reducible rfl)
        simp only [Act.put]
        clear hS1 hS2
        refine wpAnyC_one (i := 3) (by kernel_rfl) rfl (fun K hK => ?_)
        go_simp
        obtain ⟨T, hT⟩ : ∃ T, T = w1.heap.size := ⟨_, rfl⟩
        rw [← hT]
        have hBT : Blk (World.alloc w1 (.cells #[.string ⟨key.toArray⟩] 9)) T 9 #[.string ⟨key.toArray⟩] := by rw [hT]; exact Blk.new _ _ _
        have hbl : Below w1.heap.size w1 (World.alloc w1 (.cells #[.string ⟨key.toArray⟩] 9)) := (Below.refl _ _).alloc (Nat.le_refl _) _
        have hJ2 := hJ1.after (AftR.of_below (g := g) hbl (Nat.le_of_lt hr1.lt))
        have hr2 := hr1.below hbl
        clear hT hJ1 hr1 hbl c3 c4 cr cb
        generalize World.alloc w1 (.cells #[.string ⟨key.toArray⟩] 9) = w2 at *
        have c3 := hJ2.obj.cell 3
        have c4 := hJ2.obj.cell 4
        have cr := hJ2.rbox.cell 0
        have cb := hJ2.dbox.cell 0
        simp at c3 c4 cr cb
        refine hK.out _ _ ⟨fun _ => ⟨c3, c4⟩, fun _ => ⟨cr, cb⟩⟩ ?_
        clear hK K
        have hbX : w0.heap.size + 3 ≤ w2.heap.size := by have h1 := hJ2.lj; have h2 := hJ2.obj.lt; omega
        refine wpAnyC_one (i := 4) (by kernel_rfl) rfl (fun K hK => ?_)
        refine step_append_lies _ (by rfl) _ _ _ (by rfl) (w0.heap.size + 3) 9 i1 _ 1 16 Tryz.underlying67 si sz0 sz1 sz2 rfl (by omega) (.slice Ak0 st.1.length ck0) st.1.length (txtV st.1) (by rfl) hJ2.keys ⟨T, 0, none⟩ 1 1 [.string ⟨key.toArray⟩] (by rfl) (by rfl) (World.news_of_block (cs := #[.string ⟨key.toArray⟩]) (t := 9) (fr := (0, 0)) hBT) (by simp [Value.oneCell']) (by omega) (by unfold maxLen; omega) (by omega) hbX _ rfl ?_; intro g1 cap1 w3 hown hgrow hat hlt
        have hM3 := hJ2.key hgrow hat hown
        have hr3 : RdrAt w3 g s k2 := Blk.grown hr2 hgrow (own_ne hJ2.keys hr2 (by decide))
        clear hJ2 hr2 c3 c4 cr cb hgrow hat hown hBT hbX hlt
        have c3 := hM3.obj.cell 3
        have c4 := hM3.obj.cell 4
        have cr := hM3.rbox.cell 0
        have cb := hM3.dbox.cell 0
        simp at c3 c4 cr cb
        refine hK.out _ _ ⟨fun _ => ⟨c3, c4⟩, fun _ => ⟨cr, cb⟩⟩ ?_
        clear hK K
        refine wpAnyC_take (fun w' : World => w'.cell? ⟨br, 0, none⟩ = some (.pointer (some ⟨g, 0, none⟩)) ∧ w'.cell? ⟨bd, 0, none⟩ = some (.int .i64 dep)) [14, 15, 16] (i := 13) (v := ?_) rfl (by kernel_rfl) (by kernel_rfl) (by kernel_rfl) (by kernel_rfl) (fun _ _ _ h => h) (fun j w' _ _ hL h => h.2 (fun hm => hL (by simp only [List.mem_cons, List.not_mem_nil, or_false] at hm ⊢; omega))) (fun w' h => ⟨fun h' => absurd (by simp) h', fun _ => h⟩) (Or.inl ⟨by rfl, ?_⟩) ⟨cr, cb⟩ ?_; rotate_left; · (intro w hSw; go_simp; try with_reducible rfl)
        simp only [Act.put]
        have hB1 := hM3.obj.lt
        have hB2 := hM3.rbox.lt
        have hB3 := hM3.dbox.lt
        have HBK : Hid (∀ b, (Value.slice (some ⟨g1, 0, none⟩) (st.1.length + 1) cap1).ownBlock = some b → b < w3.heap.size) := fun b h => (hM3.keys.lt b h).2
        have HBD : Hid (∀ b, (Value.slice Ao st.2.length co).ownBlock = some b → b < w3.heap.size) := fun b h => (hM3.kids.lt b h).2
        have hB0 : w0.heap.size ≤ w3.heap.size := hM3.aft.bel.size
        refine wpAnyC_one (i := 10) (by kernel_rfl) rfl (fun K hK => ?_)
        go_simp
        ((with_reducible refine (hval w3 hr3).mono ?_))
        intro e w4 h2
        cases O with
        | bad p er =>
          obtain ⟨ha2, rfl⟩ := h2.is_bad
          exact ⟨rfl, OneE.bad HR4.out.symm (hM3.aft.trans ha2)⟩
        | ok j k5 =>
          obtain ⟨ha2, hr4, Ak, ck, Ad, cd, rfl, hj⟩ := h2.is_ok
          have HB : Hid (R = .ok (st.1 ++ [key], st.2 ++ [j]) k5) := HR4.out.symm
          have hM4 := hM3.after ha2
          clear c3 c4 cr cb hval h2 hM3 hr3 HR4
          have c3 := hM4.obj.cell 3
          have c4 := hM4.obj.cell 4
          have cr := hM4.rbox.cell 0
          have cb := hM4.dbox.cell 0
          simp at c3 c4 cr cb
          refine hK.out _ _ ⟨fun _ => ⟨c3, c4⟩, fun _ => ⟨cr, cb⟩⟩ ?_
          clear hK K
          refine wpAnyC_one (i := 11) (by kernel_rfl) rfl (fun K hK => ?_)
          unfold jVal strV
          go_simp
          obtain ⟨T, hT⟩ : ∃ T, T = w4.heap.size := ⟨_, rfl⟩
          rw [← hT]
          have hBT : Blk (World.alloc w4 (.cells #[.int .i64 j.kind, .int .i64 j.num, .string ⟨j.text.toArray⟩, .slice Ak j.keys.length ck, .slice Ad j.kids.length cd] 70)) T 70 #[.int .i64 j.kind, .int .i64 j.num, .string ⟨j.text.toArray⟩, .slice Ak j.keys.length ck, .slice Ad j.kids.length cd] := by rw [hT]; exact Blk.new _ _ _
          have hbl : Below w4.heap.size w4 (World.alloc w4 (.cells #[.int .i64 j.kind, .int .i64 j.num, .string ⟨j.text.toArray⟩, .slice Ak j.keys.length ck, .slice Ad j.kids.length cd] 70)) := (Below.refl _ _).alloc (Nat.le_refl _) _
          have hMX := hM4.after (AftR.of_below (g := g) hbl (Nat.le_of_lt hr4.lt))
          have hrX := hr4.below hbl
          have hjX := hj.keep (F' := fun b => w3.heap.size ≤ b) (KeepF.below hbl) (fun b hb _ => hb)
          clear hT hM4 hr4 hj hbl c3 c4 cr cb
          generalize World.alloc w4 (.cells #[.int .i64 j.kind, .int .i64 j.num, .string ⟨j.text.toArray⟩, .slice Ak j.keys.length ck, .slice Ad j.kids.length cd] 70) = wX at *
          have c3 := hMX.obj.cell 3
          have c4 := hMX.obj.cell 4
          have cr := hMX.rbox.cell 0
          have cb := hMX.dbox.cell 0
          simp at c3 c4 cr cb
          refine hK.out _ _ ⟨fun _ => ⟨c3, c4⟩, fun _ => ⟨cr, cb⟩⟩ ?_
          clear hK K
          have hbX : w0.heap.size + 3 ≤ wX.heap.size := by have h1 := hMX.lj; have h2 := hMX.obj.lt; omega
          refine wpAnyC_one (i := 12) (by kernel_rfl) rfl (fun K hK => ?_)
          refine step_append_lies _ (by rfl) _ _ _ (by rfl) (w0.heap.size + 3) 70 i0 _ 5 80 Tryz.underlying68 ji jz0 jz1 jz2 rfl (by omega) (.slice Ao st.2.length co) st.2.length xs (by rfl) hMX.kids ⟨T, 0, none⟩ 1 1 (jcells j Ak ck Ad cd) (by rfl) (by rfl) (World.news_of_block (cs := #[.int .i64 j.kind, .int .i64 j.num, .string ⟨j.text.toArray⟩, .slice Ak j.keys.length ck, .slice Ad j.kids.length cd]) (t := 70) (fr := (0, 0)) hBT) (by simp [jcells, strV, Value.oneCell']) (by omega) (by unfold maxLen; omega) (by omega) hbX _ rfl ?_; intro g2 cap2 w6 hown hgrow hat hlt
          have HE := hMX.told (cd := cd) hjX hB0 hB1 hB2 hB3 HBK.out HBD.out hgrow hat hown hrX
          have hobj6 := hMX.obj.grown hgrow (fun e => hMX.nej e.symm)
          have hr6 := hMX.rbox.grown hgrow (own_ne hMX.kids hMX.rbox (by decide))
          have hd6 := hMX.dbox.grown hgrow (own_ne hMX.kids hMX.dbox (by decide))
          have n3 : br ≠ gj := blk_neJ hMX.rbox hMX.obj (by decide)
          have n4 : bd ≠ gj := blk_neJ hMX.dbox hMX.obj (by decide)
          clear c3 c4 cr cb hMX hrX hjX hBT hown hgrow hat
          have c3 := hobj6.cell 3
          have c4 := hobj6.cell 4
          have cr := hr6.cell 0
          have cb := hd6.cell 0
          simp at c3 c4 cr cb
          refine hK.out _ _ ⟨fun _ => ⟨c3, c4⟩, fun _ => ⟨cr, cb⟩⟩ ?_
          clear hK K
          have f3 := hobj6.frozen 3
          have f4 := hobj6.frozen 4
          refine wpAnyC_one (i := 14) (by kernel_rfl) rfl (fun K hK => ?_)
          go_simp
          refine hK.out _ _ ⟨fun h => absurd (by simp) h, fun _ => ⟨?_, ?_⟩⟩ ?_
          · rw [World.cell?_of_block (a := ⟨br, 0, none⟩) (Below.heap_setCell _ _ _ br n3)]; exact cr
          · rw [World.cell?_of_block (a := ⟨bd, 0, none⟩) (Below.heap_setCell _ _ _ bd n4)]; exact cb
          clear hK K
          refine wpAnyC_take (fun _ => True) [] (i := 15) (v := ?_) rfl (by kernel_rfl) (by kernel_rfl) (by kernel_rfl) (by kernel_rfl) (fun _ _ _ h => h) (fun _ _ _ _ _ _ => trivial) (fun _ _ => ⟨fun h => absurd (by simp) h, fun h => absurd (by simp) h⟩) (Or.inl ⟨by rfl, ?_⟩) trivial ?_; rotate_left; · (intro w hSw; go_simp; try with_reducible rfl)
          simp only [Act.put]
          refine wpAnyC_one (i := 16) (by kernel_rfl) rfl (fun K hK => ?_)
          go_simp
          refine hK.out _ _ ⟨fun h => absurd (by simp) h, fun h => absurd (by simp) h⟩ ?_
          clear hK K
          refine wpAnyC_done (by kernel_rfl) ?_ _
          go_wp2_with fail
          go_end0
          exact OneE.ok HB.out HE.1 ⟨_, _, _, HE.2⟩
end Go.Proofs.YtgpjcjnimheglaaGreatDoor
/-
  WALKS of package wire's reader: value.
-/
namespace Go.Proofs.YtgpjcjnimheglaaGreatDoor
open Go.RowKit

theorem Jp.val_gt {s : List UInt8} {f d i : Nat} {j : JT} {k : Nat} (h : Jp.valF s f d i = .ok j k) : i < k := by
  have h1 := Jp.val_wt s f d i j k h
  rw [JT.wt_eq] at h1
  omega
theorem Jp.oneL_M {s : List UInt8} {f d : Nat} {st st' : Jp.KK} {k k' : Nat} (hM : 4 * st.1.length ≤ k ∧ st.2.length ≤ k) (h : Jp.oneL (Jp.valF s f d) st k = .ok st' k') : 4 * st'.1.length ≤ k' ∧ st'.2.length ≤ k' := by
  obtain ⟨j, hv, rfl⟩ := Jp.oneL_ok h
  have := Jp.val_gt hv
  simp only [List.length_append, List.length_cons, List.length_nil]
  omega
theorem Jp.oneM_M {s : List UInt8} {f d : Nat} {st st' : Jp.KK} {k k' : Nat} (hM : 4 * st.1.length ≤ k ∧ st.2.length ≤ k) (h : Jp.oneM s (Jp.valF s f d) st k = .ok st' k') : 4 * st'.1.length ≤ k' ∧ st'.2.length ≤ k' := by
  obtain ⟨key, k1, j, ht, hn, hv, rfl⟩ := Jp.oneM_ok h
  have h1 := Jp.val_gt hv
  have h2 := Jp.text_len ht
  have h3 := Jp.skip_ge s k
  have h4 := Jp.skip_ge s k1
  simp only [List.length_append, List.length_cons, List.length_nil]
  omega
/-- a value without lists, told -/
theorem ValE.leaf {g : Nat} {s : Bs} {w w' : World} {f k : Nat} {r : Jp.Rs JT} {kn nn : Int} {t : Bs} (h : r = .ok (.mk kn nn t [] []) k) (ha : AftR g w w') (hr : RdrAt w' g s k) (hf : JFit (.mk kn nn t [] [])) : ValE g s w f r (.returned (.agg (jz kn nn t))) w' := by
  subst h
  exact ⟨ha, hr, none, 0, none, 0, rfl, ⟨rfl, fun h => absurd h (by simp [JT.keys])⟩, Nat.le_refl _, by cases f with | zero => rfl | succ f => exact fun h => absurd h (by simp [JT.kids]), hf⟩
theorem enters_v1 : ∀ args w, (callFunc 87 args).run Tryz.prog w = .ok (.enter 87 args) w := enters_of Tryz.func87 (by kernel_rfl) rfl
theorem enters_v2 : ∀ args w, (callFunc 88 args).run Tryz.prog w = .ok (.enter 88 args) w := enters_of Tryz.func88 (by kernel_rfl) rfl

/-- how a list's or a map's reading begins -/
theorem JSt.start {w w1 : World} {g gj br bd d dep : Nat} {kind : Int} (ha : AftR g w w1) (ho : Blk w1 gj 70 (jz kind 0 [])) (hr : Blk w1 br 135 #[.pointer (some ⟨g, 0, none⟩)]) (hd : Blk w1 bd 3 #[.int .i64 dep]) (hg : g < w.heap.size) (h1 : w.heap.size + 3 ≤ gj) (h2 : w.heap.size ≤ br) (h3 : w.heap.size ≤ bd) (h4 : Blk w1 (w.heap.size + 2) 70 (jz 0 0 [])) :
    JSt w g gj br bd d dep kind w1 ([], []) (.slice none 0 0) (.slice none 0 0) [] :=
  ⟨ha, ho, hr, hd, World.ownsRow_nil _ _ _ _, World.ownsRow_nil _ _ _ _, KidsF.nil _ _ _, hg, h1, h2, h3, by simp [Value.ownBlock], h4⟩
/-- .. and ends -/
theorem JSt.end_ {w w1 : World} {g gj br bd d dep : Nat} {kind : Int} {st : Jp.KK} {Ak Ad : Option Addr} {ck cd : Nat} {xs : List Value} (h : JSt w g gj br bd d dep kind w1 st (.slice Ak st.1.length ck) (.slice Ad st.2.length cd) xs) (hk : 0 ≤ kind ∧ kind ≤ 5) :
    JInF w1 (fun b => w.heap.size + 3 ≤ b ∧ b ≠ gj) (d + 1) (.mk kind 0 [] st.1 st.2) Ak st.1.length Ad := by
  refine ⟨⟨(Rd.of_own h.keys).1, fun h0 => ?_⟩, Nat.le_refl _, h.rows.made rfl h.kids (fun b hb _ => ⟨hb.1, hb.2.1⟩) (fun b hb => ⟨(h.kids.lt b hb).1, fun e => h.nej (by rw [hb, e])⟩), ⟨by simp [JT.num], by simp only [JT.kind]; omega⟩⟩
  obtain ⟨b, o, e, hb, hc⟩ := (Rd.of_own h.keys).2 h0
  subst e
  obtain ⟨g', cap, hv, _, hlt⟩ := h.keys.form h0
  refine ⟨b, o, rfl, ?_, hb, hc⟩
  have hbo : (Value.slice (some ⟨b, o, none⟩) st.1.length ck).ownBlock = some b := by
    injection hv with h1 h2 h3
    injection h1 with h1
    injection h1 with h1 h4 h5
    subst h4
    rfl
  exact ⟨(h.keys.lt b hbo).1, fun e => own_ne h.keys h.obj (by decide) (by rw [hbo, e])⟩
theorem own_form2 {w : World} {base : Nat} {e : TypeId} {size n : Nat} {v : Value} {xs : List Value} (h : w.ownsRow base e size v n xs) : ∃ A cap, v = .slice A n cap ∧ n ≤ cap ∧ (A = none → cap = 0) := by
  rcases h.2 with ⟨rfl, rfl⟩ | ⟨g, cap, cur, rfl, _, _, hc, _⟩
  · exact ⟨none, 0, rfl, Nat.le_refl _, fun _ => rfl⟩
  · exact ⟨_, _, rfl, hc, fun h => by cases h⟩

namespace Jp
variable {s : List UInt8} {m : Nat → Rs JT} {d k : Nat}
theorem valP_f (c : UInt8) (h : 40 ≤ d) (hc : c = 91 ∨ c = 123) : valP s m d c k = .bad k 12 := by unfold valP; rw [if_pos ⟨h, hc⟩]
theorem valP_110 : valP s m d 110 k = wordP s wN (.mk 0 0 [] [] []) k := by unfold valP; rw [if_neg (fun h => absurd h.2 (by decide)), if_pos rfl]
theorem valP_116 : valP s m d 116 k = wordP s wT (.mk 1 1 [] [] []) k := by unfold valP; rw [if_neg (fun h => absurd h.2 (by decide)), if_neg (by decide), if_pos rfl]
theorem valP_102 : valP s m d 102 k = wordP s wF (.mk 1 0 [] [] []) k := by unfold valP; rw [if_neg (fun h => absurd h.2 (by decide)), if_neg (by decide), if_neg (by decide), if_pos rfl]
theorem valP_34 : valP s m d 34 k = match textP s k with | .bad p e => .bad p e | .ok t e => .ok (.mk 3 0 t [] []) e := by
  unfold valP; rw [if_neg (fun h => absurd h.2 (by decide)), if_neg (by decide), if_neg (by decide), if_neg (by decide), if_pos rfl]
  rfl
theorem dig_not {c : UInt8} (h : c = 45 ∨ digB c = true) : ¬ (c = 91 ∨ c = 123) ∧ c ≠ 110 ∧ c ≠ 116 ∧ c ≠ 102 ∧ c ≠ 34 := by
  have hall : ∀ i : Fin 256, (UInt8.ofNat i.val = 45 ∨ digB (UInt8.ofNat i.val) = true) → ¬ (UInt8.ofNat i.val = 91 ∨ UInt8.ofNat i.val = 123) ∧ UInt8.ofNat i.val ≠ 110 ∧ UInt8.ofNat i.val ≠ 116 ∧ UInt8.ofNat i.val ≠ 102 ∧ UInt8.ofNat i.val ≠ 34 := by decide +kernel
  have := hall ⟨c.toNat, c.toNat_lt⟩
  simpa using this (by simpa using h)
theorem valP_n (c : UInt8) (h : c = 45 ∨ digB c = true) : valP s m d c k = match numP s k with | .bad p e => .bad p e | .ok n e => .ok (.mk 2 n [] [] []) e := by
  obtain ⟨h1, h2, h3, h4, h5⟩ := dig_not h
  unfold valP; rw [if_neg (fun h => h1 h.2), if_neg h2, if_neg h3, if_neg h4, if_neg h5, if_pos h]
  rfl
theorem valP_91 (h : ¬ 40 ≤ d) : valP s m d 91 k = listP (itemsP (oneL m) 93 s ([], []) k) 4 := by
  unfold valP; rw [if_neg (fun h' => h h'.1), if_neg (by decide), if_neg (by decide), if_neg (by decide), if_neg (by decide), if_neg (by decide), if_pos rfl]
theorem valP_123 (h : ¬ 40 ≤ d) : valP s m d 123 k = listP (itemsP (oneM s m) 125 s ([], []) k) 5 := by
  unfold valP; rw [if_neg (fun h' => h h'.1), if_neg (by decide), if_neg (by decide), if_neg (by decide), if_neg (by decide), if_neg (by decide), if_neg (by decide), if_pos rfl]
theorem valP_x (c : UInt8) (h : ¬ (40 ≤ d ∧ (c = 91 ∨ c = 123))) (h1 : c ≠ 110) (h2 : c ≠ 116) (h3 : c ≠ 102) (h4 : c ≠ 34) (h5 : ¬ (c = 45 ∨ digB c = true)) (h6 : c ≠ 91) (h7 : c ≠ 123) : valP s m d c k = .bad k 3 := by
  unfold valP; rw [if_neg h, if_neg h1, if_neg h2, if_neg h3, if_neg h4, if_neg h5, if_neg h6, if_neg h7]
end Jp

set_option maxHeartbeats 8000000 in
set_option maxRecDepth 100000 in
theorem value_step (g f dep : Nat) (s : Bs) (hl : s.length ≤ 16777216) (hfd : f + dep = 40)
    (ih : 0 < f → ∀ (i : Nat) (w : World), RdrAt w g s i → i ≤ s.length → Calls Tryz.prog 56 #[.pointer (some ⟨g, 0, none⟩), .int .i64 ((dep : Int) + 1)] w (ValE g s w f (Jp.valF s f (dep + 1) i)))
    (i : Nat) (w : World) (h : RdrAt w g s i) (hi : i ≤ s.length) :
    Calls Tryz.prog 56 #[.pointer (some ⟨g, 0, none⟩), .int .i64 dep] w (ValE g s w (f + 1) (Jp.valF s (f + 1) dep i)) := by
  have hgl := h.lt
  have hb3 : Below w.heap.size w (((w.alloc (.cells #[.pointer (some ⟨g, 0, none⟩)] 135)).alloc (.cells #[.int .i64 dep] 3)).alloc (.cells (jz 0 0 []) 70)) := (((Below.refl _ _).alloc (Nat.le_refl _) _).alloc (by simp) _).alloc (by simp; omega) _
  have hBr : Blk (((w.alloc (.cells #[.pointer (some ⟨g, 0, none⟩)] 135)).alloc (.cells #[.int .i64 dep] 3)).alloc (.cells (jz 0 0 []) 70)) w.heap.size 135 #[.pointer (some ⟨g, 0, none⟩)] := ((Blk.new w _ _).alloc _).alloc _
  have hBd : Blk (((w.alloc (.cells #[.pointer (some ⟨g, 0, none⟩)] 135)).alloc (.cells #[.int .i64 dep] 3)).alloc (.cells (jz 0 0 []) 70)) (w.heap.size + 1) 3 #[.int .i64 dep] := by
    have := (Blk.new (w.alloc (.cells #[.pointer (some ⟨g, 0, none⟩)] 135)) 3 #[.int .i64 dep]).alloc (.cells (jz 0 0 []) 70)
    simpa using this
  have hBj : Blk (((w.alloc (.cells #[.pointer (some ⟨g, 0, none⟩)] 135)).alloc (.cells #[.int .i64 dep] 3)).alloc (.cells (jz 0 0 []) 70)) (w.heap.size + 1 + 1) 70 (jz 0 0 []) := by
    have := Blk.new ((w.alloc (.cells #[.pointer (some ⟨g, 0, none⟩)] 135)).alloc (.cells #[.int .i64 dep] 3)) 70 (jz 0 0 [])
    simpa using this
  have h1 := h.below hb3
  have ha1 := AftR.of_below hb3 (Nat.le_of_lt hgl)
  have hsk := jskip_walk g s i _ h1 hi hl
  have hle := Jp.skip_le s i hi
  unfold jz at hBr hBd hBj h1 ha1 hsk
  clear hb3
  obtain ⟨b0, e0⟩ : ∃ b, b = w.heap.size := ⟨_, rfl⟩
  have hg0 : g < b0 := by omega
  rw [← e0] at hBr hBd hBj
  have E0 := Lib.hid e0
  clear e0 h
  generalize hRR : Jp.valF s (f + 1) dep i = R
  have HR : Hid ((match s[Jp.skipP s i]? with
    | none => .bad (Jp.skipP s i) 3
    | some c => Jp.valP s (Jp.valF s f (dep + 1)) dep c (Jp.skipP s i)) = R) := hRR
  clear hRR
  generalize Jp.skipP s i = q at *
  have cr := hBr.cell 0
  simp at cr
  have j1 : (0 : Int) ≤ (q : Int) := by omega
  have jd : (0 : Int) ≤ (dep : Int) := by omega
  go_enter Tryz.func56, Tryz.ntmps56
  go_wp2_with fail
  rw [← E0.out]
  have hg1 : g < b0 + 1 := by omega
  have hg2 : g < b0 + 1 + 1 := by omega
  have E1 : Hid (b0 + 1 = w.heap.size + 1) := by show _ = _; rw [E0.out]
  have E2 : Hid (b0 + 1 + 1 = w.heap.size + 2) := by show _ = _; rw [E0.out]
  have hbl0 : Hid (w.heap.size ≤ b0 ∧ w.heap.size ≤ b0 + 1) := ⟨by rw [E0.out]; exact Nat.le_refl _, by rw [E0.out]; exact Nat.le_succ _⟩
  generalize hb1 : b0 + 1 = b1 at *
  clear hb1
  generalize hb2 : b1 + 1 = b2 at *
  clear hb2
  refine hsk.mono ?_
  clear hsk
  rintro e w2 ⟨rfl, h2, ha2⟩
  have hBr2 := (ha2.oth b0 hBr.lt (by omega)).trans hBr
  have hBd2 := (ha2.oth b1 hBd.lt (by omega)).trans hBd
  have hBj2 := (ha2.oth b2 hBj.lt (by omega)).trans hBj
  have haa := ha1.trans ha2
  clear hBr hBd hBj ha1 ha2 h1 cr
  have hBr : Blk w2 b0 135 #[.pointer (some ⟨g, 0, none⟩)] := hBr2
  have hBd : Blk w2 b1 3 #[.int .i64 dep] := hBd2
  have hBj : Blk w2 b2 70 #[.int .i64 0, .int .i64 0, .string ⟨#[]⟩, .slice none 0 0, .slice none 0 0] := hBj2
  clear hBr2 hBd2 hBj2
  have cr := hBr.cell 0
  have cd := hBd.cell 0
  have c0 := h2.c0
  have c1 := h2.c1
  simp at cr cd
  by_cases hlt : q < s.length
  · have hq0 : s[q]? = some s[q] := List.getElem?_eq_getElem hlt
    have j2 : (q : Int) < (s.length : Int) := by omega
    go_wp2_with fail
    go_quiet (fail)
    have hBr := hBr.drewN nq
    have hBd := hBd.drewN nq
    have hBj := hBj.drewN nq
    have h2 := h2.drewN nq
    have haa := haa.drewN nq
    clear c0 c1 cr cd
    generalize World.drewN w2 nq = w2 at *
    have cr := hBr.cell 0
    have cd := hBd.cell 0
    have c0 := h2.c0
    have c1 := h2.c1
    simp at cr cd
    go_wp2_with fail
    go_quiet (fail)
    go_upto_region 5 with fail
    have hBr := hBr.drewN nq
    have hBd := hBd.drewN nq
    have hBj := hBj.drewN nq
    have h2 := h2.drewN nq
    have haa := haa.drewN nq
    clear c0 c1 cr cd
    generalize World.drewN w2 nq = w2 at *
    have cr := hBr.cell 0
    have cd := hBd.cell 0
    have c0 := h2.c0
    have c1 := h2.c1
    simp at cr cd
    have hce : ((⟨s.toArray⟩ : ByteArray)[q]'(by rw [mk_size]; exact hlt)) = s[q] := rfl
    rw [← hce] at hq0
    clear hce
    generalize ((⟨s.toArray⟩ : ByteArray)[q]'(by rw [mk_size]; exact hlt)) = c at *
    obtain ⟨x, hx⟩ : ∃ x : Int, x = c.toNat := ⟨_, rfl⟩
    rw [← hx]
    have HR2 : Hid (Jp.valP s (Jp.valF s f (dep + 1)) dep c q = R) := by
      show _ = _
      rw [← HR.out, hq0]
    have Hq0 := Lib.hid hq0
    clear HR hq0 j2
    have Hpf1 : Hid (40 ≤ dep ∧ (c = 91 ∨ c = 123) → decide (40 ≤ dep ∧ (c = 91 ∨ c = 123)) = true) := fun h => decide_eq_true h
    have Hpf2 : Hid (¬ (40 ≤ dep ∧ (c = 91 ∨ c = 123)) → decide (40 ≤ dep ∧ (c = 91 ∨ c = 123)) = false) := fun h => decide_eq_false h
    have Hpf3 : Hid (decide (40 ≤ dep ∧ (c = 91 ∨ c = 123)) = true → 40 ≤ dep ∧ (c = 91 ∨ c = 123)) := of_decide_eq_true
    have Hpf4 : Hid (decide (40 ≤ dep ∧ (c = 91 ∨ c = 123)) = false → ¬ (40 ≤ dep ∧ (c = 91 ∨ c = 123))) := of_decide_eq_false
    generalize decide (40 ≤ dep ∧ (c = 91 ∨ c = 123)) = pf at *
    go_cut [42] (fun v wc => v = .bool pf ∧ wc = w2)
    case first =>
      have hways : (40 ≤ dep ∧ c = 91) ∨ (40 ≤ dep ∧ c = 123) ∨ (40 ≤ dep ∧ ¬ c = 91 ∧ ¬ c = 123) ∨ dep < 40 := by
        by_cases h1 : 40 ≤ dep
        · by_cases h2 : c = 91
          · exact .inl ⟨h1, h2⟩
          · by_cases h3 : c = 123
            · exact .inr (.inl ⟨h1, h3⟩)
            · exact .inr (.inr (.inl ⟨h1, h2, h3⟩))
        · exact .inr (.inr (.inr (by omega)))
      rcases hways with ⟨hd, hc⟩ | ⟨hd, hc⟩ | ⟨hd, hc1, hc2⟩ | hd
      · have HP : Hid (pf = true) := Hpf1.out ⟨hd, .inl hc⟩
        have hd1 : (40 : Int) ≤ dep := by omega
        subst hc
        have hx1 : x = 91 := hx
        clear hx Hpf1 Hpf2 Hpf3 Hpf4
        subst hx1
        go_wp2_with fail
        go_meet
        exact ⟨by rw [HP.out], rfl⟩
      · have HP : Hid (pf = true) := Hpf1.out ⟨hd, .inr hc⟩
        have hd1 : (40 : Int) ≤ dep := by omega
        subst hc
        have hx1 : x = 123 := hx
        clear hx Hpf1 Hpf2 Hpf3 Hpf4
        subst hx1
        go_wp2_with fail
        go_meet
        exact ⟨by rw [HP.out], rfl⟩
      · have HP : Hid (pf = false) := Hpf2.out (fun h => by rcases h.2 with h | h; exact hc1 h; exact hc2 h)
        have hd1 : (40 : Int) ≤ dep := by omega
        have n1 : ¬ c.toNat = 91 := fun h => hc1 (UInt8.toNat_inj.1 h)
        have n2 : ¬ c.toNat = 123 := fun h => hc2 (UInt8.toNat_inj.1 h)
        have t1 : (x == 91) = false := by rw [beq_eq_false_iff_ne]; omega
        have t2 : (x == 123) = false := by rw [beq_eq_false_iff_ne]; omega
        clear hx n1 n2 hc1 hc2 Hpf1 Hpf2 Hpf3 Hpf4
        go_wp2_with fail
        go_meet
        exact ⟨by rw [HP.out], rfl⟩
      · have HP : Hid (pf = false) := Hpf2.out (fun h => by have := h.1; omega)
        have hd1 : (dep : Int) < 40 := by omega
        clear hx Hpf1 Hpf2 Hpf3 Hpf4
        go_wp2_with fail
        go_meet
        exact ⟨by rw [HP.out], rfl⟩
    case rest =>
      obtain ⟨rfl, rfl⟩ := hcut
      cases pf with
      | true =>
        have HB : Hid (R = .bad q 12) := by
          have hp := Hpf3.out rfl
          show _ = _
          rw [← HR2.out]
          exact Jp.valP_f _ hp.1 hp.2
        clear hx Hpf1 Hpf2 Hpf3 Hpf4
        go_wp2_with fail
        refine (fail_walk q 12 _).mono ?_
        rintro e w3 ⟨rfl, rfl⟩
        go_wp2_with fail
        exact ⟨rfl, ValE.bad HB.out haa⟩
      | false =>
        have HN := Lib.hid (Hpf4.out rfl)
        clear Hpf1 Hpf2 Hpf3 Hpf4 cr cd c0 c1
        have h2 : RdrAt wc g s q := h2
        go_upto_region 9 with fail
        obtain ⟨bj, hbj⟩ : ∃ b, b = wc.heap.size := ⟨_, rfl⟩
        rw [← hbj]
        have hB4 : Blk (wc.alloc (.cells #[.int .i64 4, .int .i64 0, .string ⟨#[]⟩, .slice none 0 0, .slice none 0 0] 70)) bj 70 #[.int .i64 4, .int .i64 0, .string ⟨#[]⟩, .slice none 0 0, .slice none 0 0] := by rw [hbj]; exact Blk.new _ _ _
        have hbl : Below wc.heap.size wc (wc.alloc (.cells #[.int .i64 4, .int .i64 0, .string ⟨#[]⟩, .slice none 0 0, .slice none 0 0] 70)) := (Below.refl _ _).alloc (Nat.le_refl _) _
        have hgj : Hid (w.heap.size + 3 ≤ bj) := by show _ ≤ _; have h1 := hBj.lt; have h2 := E2.out; omega
        have hgb : g < bj := by have := hgj.out; omega
        have hnj : Hid (b0 ≠ bj ∧ b1 ≠ bj ∧ b2 ≠ bj) := ⟨by have := hBr.lt; omega, by have := hBd.lt; omega, by have := hBj.lt; omega⟩
        have haa := haa.below hbl (Nat.le_of_lt hgl)
        have hBr := hBr.below hbl hBr.lt
        have hBd := hBd.below hbl hBd.lt
        have hBj := hBj.below hbl hBj.lt
        have h2 := h2.below hbl
        clear hbj hbl
        generalize wc.alloc (.cells #[.int .i64 4, .int .i64 0, .string ⟨#[]⟩, .slice none 0 0, .slice none 0 0] 70) = w2 at *
        have cr := hBr.cell 0
        have cd := hBd.cell 0
        have c0 := h2.c0
        have c1 := h2.c1
        simp at cr cd
        by_cases hc110 : c = 110
        · as_aux_lemma =>
          subst hc110
          have hx1 : x = 110 := hx
          clear hx
          subst hx1
          have hw : ∀ w, RdrAt w g s q → Calls Tryz.prog 83 #[.pointer (some ⟨g, 0, none⟩), .string ⟨#[110, 117, 108, 108]⟩, .agg #[.int .i64 0, .int .i64 0, .string ⟨#[]⟩, .slice none 0 0, .slice none 0 0]] w _ := fun w h => jword_walk g s Jp.wN 0 0 q w h hle hl (by decide)
          have HR3 : Hid ((if Jp.wN.isPrefixOf (s.drop q) = true then .ok (.mk 0 0 [] [] []) (q + Jp.wN.length) else .bad q 3) = R) := by
            show _ = _
            rw [← HR2.out]
            rw [Jp.valP_110]
            rfl
          have hq4 : q + Jp.wN.length = q + Jp.wN.length := rfl
          clear hq4 HR2
          generalize Jp.wN.isPrefixOf (s.drop q) = pb at *
          go_wp2_with fail
          refine (hw w2 h2).mono ?_
          clear hw
          cases pb with
          | true =>
            rintro e w3 ⟨ha2, h5⟩
            obtain ⟨rfl, h3⟩ := h5
            simp only [jz]
            have HB : Hid (R = .ok (.mk 0 0 [] [] []) (q + Jp.wN.length)) := HR3.out.symm
            have HF : Hid (JFit (.mk 0 0 [] [] [])) := ⟨by simp [JT.num], by simp [JT.kind]⟩
            have hBr3 : Blk w3 b0 135 #[.pointer (some ⟨g, 0, none⟩)] := (ha2.oth b0 hBr.lt (by omega)).trans hBr
            have hBd3 : Blk w3 b1 3 #[.int .i64 dep] := (ha2.oth b1 hBd.lt (by omega)).trans hBd
            have hB3 : Blk w3 b2 70 #[.int .i64 0, .int .i64 0, .string ⟨#[]⟩, .slice none 0 0, .slice none 0 0] := (ha2.oth b2 hBj.lt (by omega)).trans hBj
            have ha3 := haa.trans ha2
            clear hBr hBd hBj haa h2 ha2 HR3 c0 c1 cr cd hBr3 hBd3
            have d0 := hB3.cell 0
            have d1 := hB3.cell 1
            have d2 := hB3.cell 2
            have d3 := hB3.cell 3
            have d4 := hB3.cell 4
            have f0 := hB3.frozen 0
            have f1 := hB3.frozen 1
            have f2 := hB3.frozen 2
            have f3 := hB3.frozen 3
            have f4 := hB3.frozen 4
            simp at d0 d1 d2 d3 d4
            have hBf := ((((hB3.set_ 0 (.int .i64 0)).set_ 1 (.int .i64 0)).set_ 2 (.string ⟨#[]⟩)).set_ 3 (.slice none 0 0)).set_ 4 (.slice none 0 0)
            have haf := AftR.json (w1 := w) w3 b2 0 0 ⟨#[]⟩ (.slice none 0 0) (.slice none 0 0) (by omega) (by have := E0.out; have := E2.out; omega) ha3
            have hrf := ((((Blk.far h3 (p := ⟨b2, 0, none⟩) (by simp; omega) (.int .i64 0)).far (p := ⟨b2, 1, none⟩) (by simp; omega) (.int .i64 0)).far (p := ⟨b2, 2, none⟩) (by simp; omega) (.string ⟨#[]⟩)).far (p := ⟨b2, 3, none⟩) (by simp; omega) (.slice none 0 0)).far (p := ⟨b2, 4, none⟩) (by simp; omega) (.slice none 0 0)
            go_wp2_with fail
            exact bodyPost_ret (v := .agg #[.int .i64 0, .int .i64 0, .string ⟨#[]⟩, .slice none 0 0, .slice none 0 0]) (results_cell_row (hu := Tryz.underlying70) (h := rfl) (hp := rfl) (hg := hBf) (hd := rfl) (hi := by kernel_rfl)) rfl (ValE.leaf (t := []) HB.out haf hrf HF.out)
          | false =>
            rintro e w3 ⟨ha2, h5⟩
            obtain rfl := h5
            have HB : Hid (R = .bad q 3) := HR3.out.symm
            go_wp2_with fail
            exact ⟨rfl, ValE.bad HB.out (haa.trans ha2)⟩
        by_cases hc116 : c = 116
        · as_aux_lemma =>
          subst hc116
          have hx1 : x = 116 := hx
          clear hx
          subst hx1
          have hw : ∀ w, RdrAt w g s q → Calls Tryz.prog 83 #[.pointer (some ⟨g, 0, none⟩), .string ⟨#[116, 114, 117, 101]⟩, .agg #[.int .i64 1, .int .i64 1, .string ⟨#[]⟩, .slice none 0 0, .slice none 0 0]] w _ := fun w h => jword_walk g s Jp.wT 1 1 q w h hle hl (by decide)
          have HR3 : Hid ((if Jp.wT.isPrefixOf (s.drop q) = true then .ok (.mk 1 1 [] [] []) (q + Jp.wT.length) else .bad q 3) = R) := by
            show _ = _
            rw [← HR2.out]
            rw [Jp.valP_116]
            rfl
          have hq4 : q + Jp.wT.length = q + Jp.wT.length := rfl
          clear hq4 HR2
          generalize Jp.wT.isPrefixOf (s.drop q) = pb at *
          go_wp2_with fail
          refine (hw w2 h2).mono ?_
          clear hw
          cases pb with
          | true =>
            rintro e w3 ⟨ha2, h5⟩
            obtain ⟨rfl, h3⟩ := h5
            simp only [jz]
            have HB : Hid (R = .ok (.mk 1 1 [] [] []) (q + Jp.wT.length)) := HR3.out.symm
            have HF : Hid (JFit (.mk 1 1 [] [] [])) := ⟨by simp [JT.num], by simp [JT.kind]⟩
            have hBr3 : Blk w3 b0 135 #[.pointer (some ⟨g, 0, none⟩)] := (ha2.oth b0 hBr.lt (by omega)).trans hBr
            have hBd3 : Blk w3 b1 3 #[.int .i64 dep] := (ha2.oth b1 hBd.lt (by omega)).trans hBd
            have hB3 : Blk w3 b2 70 #[.int .i64 0, .int .i64 0, .string ⟨#[]⟩, .slice none 0 0, .slice none 0 0] := (ha2.oth b2 hBj.lt (by omega)).trans hBj
            have ha3 := haa.trans ha2
            clear hBr hBd hBj haa h2 ha2 HR3 c0 c1 cr cd hBr3 hBd3
            have d0 := hB3.cell 0
            have d1 := hB3.cell 1
            have d2 := hB3.cell 2
            have d3 := hB3.cell 3
            have d4 := hB3.cell 4
            have f0 := hB3.frozen 0
            have f1 := hB3.frozen 1
            have f2 := hB3.frozen 2
            have f3 := hB3.frozen 3
            have f4 := hB3.frozen 4
            simp at d0 d1 d2 d3 d4
            have hBf := ((((hB3.set_ 0 (.int .i64 1)).set_ 1 (.int .i64 1)).set_ 2 (.string ⟨#[]⟩)).set_ 3 (.slice none 0 0)).set_ 4 (.slice none 0 0)
            have haf := AftR.json (w1 := w) w3 b2 1 1 ⟨#[]⟩ (.slice none 0 0) (.slice none 0 0) (by omega) (by have := E0.out; have := E2.out; omega) ha3
            have hrf := ((((Blk.far h3 (p := ⟨b2, 0, none⟩) (by simp; omega) (.int .i64 1)).far (p := ⟨b2, 1, none⟩) (by simp; omega) (.int .i64 1)).far (p := ⟨b2, 2, none⟩) (by simp; omega) (.string ⟨#[]⟩)).far (p := ⟨b2, 3, none⟩) (by simp; omega) (.slice none 0 0)).far (p := ⟨b2, 4, none⟩) (by simp; omega) (.slice none 0 0)
            go_wp2_with fail
            exact bodyPost_ret (v := .agg #[.int .i64 1, .int .i64 1, .string ⟨#[]⟩, .slice none 0 0, .slice none 0 0]) (results_cell_row (hu := Tryz.underlying70) (h := rfl) (hp := rfl) (hg := hBf) (hd := rfl) (hi := by kernel_rfl)) rfl (ValE.leaf (t := []) HB.out haf hrf HF.out)
          | false =>
            rintro e w3 ⟨ha2, h5⟩
            obtain rfl := h5
            have HB : Hid (R = .bad q 3) := HR3.out.symm
            go_wp2_with fail
            exact ⟨rfl, ValE.bad HB.out (haa.trans ha2)⟩
        by_cases hc102 : c = 102
        · as_aux_lemma =>
          subst hc102
          have hx1 : x = 102 := hx
          clear hx
          subst hx1
          have hw : ∀ w, RdrAt w g s q → Calls Tryz.prog 83 #[.pointer (some ⟨g, 0, none⟩), .string ⟨#[102, 97, 108, 115, 101]⟩, .agg #[.int .i64 1, .int .i64 0, .string ⟨#[]⟩, .slice none 0 0, .slice none 0 0]] w _ := fun w h => jword_walk g s Jp.wF 1 0 q w h hle hl (by decide)
          have HR3 : Hid ((if Jp.wF.isPrefixOf (s.drop q) = true then .ok (.mk 1 0 [] [] []) (q + Jp.wF.length) else .bad q 3) = R) := by
            show _ = _
            rw [← HR2.out]
            rw [Jp.valP_102]
            rfl
          have hq4 : q + Jp.wF.length = q + Jp.wF.length := rfl
          clear hq4 HR2
          generalize Jp.wF.isPrefixOf (s.drop q) = pb at *
          go_wp2_with fail
          refine (hw w2 h2).mono ?_
          clear hw
          cases pb with
          | true =>
            rintro e w3 ⟨ha2, h5⟩
            obtain ⟨rfl, h3⟩ := h5
            simp only [jz]
            have HB : Hid (R = .ok (.mk 1 0 [] [] []) (q + Jp.wF.length)) := HR3.out.symm
            have HF : Hid (JFit (.mk 1 0 [] [] [])) := ⟨by simp [JT.num], by simp [JT.kind]⟩
            have hBr3 : Blk w3 b0 135 #[.pointer (some ⟨g, 0, none⟩)] := (ha2.oth b0 hBr.lt (by omega)).trans hBr
            have hBd3 : Blk w3 b1 3 #[.int .i64 dep] := (ha2.oth b1 hBd.lt (by omega)).trans hBd
            have hB3 : Blk w3 b2 70 #[.int .i64 0, .int .i64 0, .string ⟨#[]⟩, .slice none 0 0, .slice none 0 0] := (ha2.oth b2 hBj.lt (by omega)).trans hBj
            have ha3 := haa.trans ha2
            clear hBr hBd hBj haa h2 ha2 HR3 c0 c1 cr cd hBr3 hBd3
            have d0 := hB3.cell 0
            have d1 := hB3.cell 1
            have d2 := hB3.cell 2
            have d3 := hB3.cell 3
            have d4 := hB3.cell 4
            have f0 := hB3.frozen 0
            have f1 := hB3.frozen 1
            have f2 := hB3.frozen 2
            have f3 := hB3.frozen 3
            have f4 := hB3.frozen 4
            simp at d0 d1 d2 d3 d4
            have hBf := ((((hB3.set_ 0 (.int .i64 1)).set_ 1 (.int .i64 0)).set_ 2 (.string ⟨#[]⟩)).set_ 3 (.slice none 0 0)).set_ 4 (.slice none 0 0)
            have haf := AftR.json (w1 := w) w3 b2 1 0 ⟨#[]⟩ (.slice none 0 0) (.slice none 0 0) (by omega) (by have := E0.out; have := E2.out; omega) ha3
            have hrf := ((((Blk.far h3 (p := ⟨b2, 0, none⟩) (by simp; omega) (.int .i64 1)).far (p := ⟨b2, 1, none⟩) (by simp; omega) (.int .i64 0)).far (p := ⟨b2, 2, none⟩) (by simp; omega) (.string ⟨#[]⟩)).far (p := ⟨b2, 3, none⟩) (by simp; omega) (.slice none 0 0)).far (p := ⟨b2, 4, none⟩) (by simp; omega) (.slice none 0 0)
            go_wp2_with fail
            exact bodyPost_ret (v := .agg #[.int .i64 1, .int .i64 0, .string ⟨#[]⟩, .slice none 0 0, .slice none 0 0]) (results_cell_row (hu := Tryz.underlying70) (h := rfl) (hp := rfl) (hg := hBf) (hd := rfl) (hi := by kernel_rfl)) rfl (ValE.leaf (t := []) HB.out haf hrf HF.out)
          | false =>
            rintro e w3 ⟨ha2, h5⟩
            obtain rfl := h5
            have HB : Hid (R = .bad q 3) := HR3.out.symm
            go_wp2_with fail
            exact ⟨rfl, ValE.bad HB.out (haa.trans ha2)⟩
        by_cases hc34 : c = 34
        · as_aux_lemma =>
          subst hc34
          have hx1 : x = 34 := hx
          clear hx
          subst hx1
          have hw := fun w h => jtext_walk g s q w h hle hl
          have HR3 : Hid ((match Jp.textP s q with | .bad p e => .bad p e | .ok t e => .ok (.mk 3 0 t [] []) e) = R) := by
            show _ = _
            rw [← HR2.out, Jp.valP_34]
          clear HR2
          generalize Jp.textP s q = T at *
          go_wp2_with fail
          refine (hw w2 h2).mono ?_
          clear hw
          cases T with
          | ok t k =>
            intro e w3 h5
            obtain ⟨ha2, rfl, h3⟩ := h5.is_ok
            clear h5
            have HB : Hid (R = .ok (.mk 3 0 t [] []) k) := HR3.out.symm
            have HF : Hid (JFit (.mk 3 0 t [] [])) := ⟨by simp [JT.num], by simp [JT.kind]⟩
            have hBr3 : Blk w3 b0 135 #[.pointer (some ⟨g, 0, none⟩)] := (ha2.oth b0 hBr.lt (by omega)).trans hBr
            have hBd3 : Blk w3 b1 3 #[.int .i64 dep] := (ha2.oth b1 hBd.lt (by omega)).trans hBd
            have hB3 : Blk w3 b2 70 #[.int .i64 0, .int .i64 0, .string ⟨#[]⟩, .slice none 0 0, .slice none 0 0] := (ha2.oth b2 hBj.lt (by omega)).trans hBj
            have ha3 := haa.trans ha2
            clear hBr hBd hBj haa h2 ha2 HR3 c0 c1 cr cd hBr3 hBd3
            have d0 := hB3.cell 0
            have d1 := hB3.cell 1
            have d2 := hB3.cell 2
            have d3 := hB3.cell 3
            have d4 := hB3.cell 4
            have f0 := hB3.frozen 0
            have f1 := hB3.frozen 1
            have f2 := hB3.frozen 2
            have f3 := hB3.frozen 3
            have f4 := hB3.frozen 4
            simp at d0 d1 d2 d3 d4
            have hBf := ((((hB3.set_ 0 (.int .i64 3)).set_ 1 (.int .i64 0)).set_ 2 (.string ⟨t.toArray⟩)).set_ 3 (.slice none 0 0)).set_ 4 (.slice none 0 0)
            have haf := AftR.json (w1 := w) w3 (b2) 3 0 ⟨t.toArray⟩ (.slice none 0 0) (.slice none 0 0) (by omega) (by have := E0.out; have := E2.out; omega) ha3
            have hrf := ((((Blk.far h3 (p := ⟨b2, 0, none⟩) (by simp; omega) (.int .i64 3)).far (p := ⟨b2, 1, none⟩) (by simp; omega) (.int .i64 0)).far (p := ⟨b2, 2, none⟩) (by simp; omega) (.string ⟨t.toArray⟩)).far (p := ⟨b2, 3, none⟩) (by simp; omega) (.slice none 0 0)).far (p := ⟨b2, 4, none⟩) (by simp; omega) (.slice none 0 0)
            go_wp2_with fail
            exact bodyPost_ret (v := .agg #[.int .i64 3, .int .i64 0, .string ⟨t.toArray⟩, .slice none 0 0, .slice none 0 0]) (results_cell_row (hu := Tryz.underlying70) (h := rfl) (hp := rfl) (hg := hBf) (hd := rfl) (hi := by kernel_rfl)) rfl (ValE.leaf (t := t) HB.out haf hrf HF.out)
          | bad p er =>
            intro e w3 h5
            obtain ⟨ha2, rfl⟩ := h5.is_bad
            have HB : Hid (R = .bad p er) := HR3.out.symm
            go_wp2_with fail
            exact ⟨rfl, ValE.bad HB.out (haa.trans ha2)⟩
        by_cases hc45 : c = 45
        · as_aux_lemma =>
          have HD : Hid (c = 45 ∨ Jp.digB c = true) := .inl hc45
          subst hc45
          have hx1 : x = 45 := hx
          clear hx
          subst hx1
          have hw := fun w h => jnum_walk g s q w h hle hl
          have HR3 : Hid ((match Jp.numP s q with | .bad p e => .bad p e | .ok n e => .ok (.mk 2 n [] [] []) e) = R) := by
            show _ = _
            rw [← HR2.out, Jp.valP_n _ HD.out]
          have HBd : Hid (∀ n k, Jp.numP s q = .ok n k → -999999999999999999 ≤ n ∧ n ≤ 999999999999999999) := fun n k h => (Jp.num_ok h).1
          clear HR2
          generalize Jp.numP s q = T at *
          go_wp2_with fail
          refine (hw w2 h2).mono ?_
          clear hw
          cases T with
          | ok n k =>
            intro e w3 h5
            obtain ⟨ha2, rfl, h3⟩ := h5.is_ok
            simp only [jz]
            clear h5
            have HB : Hid (R = .ok (.mk 2 n [] [] []) k) := HR3.out.symm
            have HF : Hid (JFit (.mk 2 n [] [] [])) := by
              have := HBd.out n k rfl
              exact ⟨by simp only [JT.num]; omega, by simp [JT.kind]⟩
            clear HBd
            have hBr3 : Blk w3 b0 135 #[.pointer (some ⟨g, 0, none⟩)] := (ha2.oth b0 hBr.lt (by omega)).trans hBr
            have hBd3 : Blk w3 b1 3 #[.int .i64 dep] := (ha2.oth b1 hBd.lt (by omega)).trans hBd
            have hB3 : Blk w3 b2 70 #[.int .i64 0, .int .i64 0, .string ⟨#[]⟩, .slice none 0 0, .slice none 0 0] := (ha2.oth b2 hBj.lt (by omega)).trans hBj
            have ha3 := haa.trans ha2
            clear hBr hBd hBj haa h2 ha2 HR3 c0 c1 cr cd hBr3 hBd3
            have d0 := hB3.cell 0
            have d1 := hB3.cell 1
            have d2 := hB3.cell 2
            have d3 := hB3.cell 3
            have d4 := hB3.cell 4
            have f0 := hB3.frozen 0
            have f1 := hB3.frozen 1
            have f2 := hB3.frozen 2
            have f3 := hB3.frozen 3
            have f4 := hB3.frozen 4
            simp at d0 d1 d2 d3 d4
            have hBf := ((((hB3.set_ 0 (.int .i64 2)).set_ 1 (.int .i64 n)).set_ 2 (.string ⟨#[]⟩)).set_ 3 (.slice none 0 0)).set_ 4 (.slice none 0 0)
            have haf := AftR.json (w1 := w) w3 (b2) 2 n ⟨#[]⟩ (.slice none 0 0) (.slice none 0 0) (by omega) (by have := E0.out; have := E2.out; omega) ha3
            have hrf := ((((Blk.far h3 (p := ⟨b2, 0, none⟩) (by simp; omega) (.int .i64 2)).far (p := ⟨b2, 1, none⟩) (by simp; omega) (.int .i64 n)).far (p := ⟨b2, 2, none⟩) (by simp; omega) (.string ⟨#[]⟩)).far (p := ⟨b2, 3, none⟩) (by simp; omega) (.slice none 0 0)).far (p := ⟨b2, 4, none⟩) (by simp; omega) (.slice none 0 0)
            go_wp2_with fail
            exact bodyPost_ret (v := .agg #[.int .i64 2, .int .i64 n, .string ⟨#[]⟩, .slice none 0 0, .slice none 0 0]) (results_cell_row (hu := Tryz.underlying70) (h := rfl) (hp := rfl) (hg := hBf) (hd := rfl) (hi := by kernel_rfl)) rfl (ValE.leaf (t := []) HB.out haf hrf HF.out)
          | bad p er =>
            intro e w3 h5
            obtain ⟨ha2, rfl⟩ := h5.is_bad
            have HB : Hid (R = .bad p er) := HR3.out.symm
            go_wp2_with fail
            exact ⟨rfl, ValE.bad HB.out (haa.trans ha2)⟩
        by_cases hdg : Jp.digB c = true
        · as_aux_lemma =>
          have HD : Hid (c = 45 ∨ Jp.digB c = true) := .inr hdg
          have hdn := Jp.dig_not (.inr hdg : c = 45 ∨ Jp.digB c = true)
          have hdr : 48 ≤ c.toNat ∧ c.toNat ≤ 57 := by
            rw [dig_form, Bool.and_eq_true, decide_eq_true_eq, decide_eq_true_eq] at hdg; exact hdg
          have g1 : (48 : Int) ≤ x := by omega
          have g2 : x ≤ (57 : Int) := by omega
          clear hdn hdg hx hdr
          have hw := fun w h => jnum_walk g s q w h hle hl
          have HR3 : Hid ((match Jp.numP s q with | .bad p e => .bad p e | .ok n e => .ok (.mk 2 n [] [] []) e) = R) := by
            show _ = _
            rw [← HR2.out, Jp.valP_n _ HD.out]
          have HBd : Hid (∀ n k, Jp.numP s q = .ok n k → -999999999999999999 ≤ n ∧ n ≤ 999999999999999999) := fun n k h => (Jp.num_ok h).1
          clear HR2
          generalize Jp.numP s q = T at *
          go_wp2_with fail
          refine (hw w2 h2).mono ?_
          clear hw
          cases T with
          | ok n k =>
            intro e w3 h5
            obtain ⟨ha2, rfl, h3⟩ := h5.is_ok
            simp only [jz]
            clear h5
            have HB : Hid (R = .ok (.mk 2 n [] [] []) k) := HR3.out.symm
            have HF : Hid (JFit (.mk 2 n [] [] [])) := by
              have := HBd.out n k rfl
              exact ⟨by simp only [JT.num]; omega, by simp [JT.kind]⟩
            clear HBd
            have hBr3 : Blk w3 b0 135 #[.pointer (some ⟨g, 0, none⟩)] := (ha2.oth b0 hBr.lt (by omega)).trans hBr
            have hBd3 : Blk w3 b1 3 #[.int .i64 dep] := (ha2.oth b1 hBd.lt (by omega)).trans hBd
            have hB3 : Blk w3 b2 70 #[.int .i64 0, .int .i64 0, .string ⟨#[]⟩, .slice none 0 0, .slice none 0 0] := (ha2.oth b2 hBj.lt (by omega)).trans hBj
            have ha3 := haa.trans ha2
            clear hBr hBd hBj haa h2 ha2 HR3 c0 c1 cr cd hBr3 hBd3
            have d0 := hB3.cell 0
            have d1 := hB3.cell 1
            have d2 := hB3.cell 2
            have d3 := hB3.cell 3
            have d4 := hB3.cell 4
            have f0 := hB3.frozen 0
            have f1 := hB3.frozen 1
            have f2 := hB3.frozen 2
            have f3 := hB3.frozen 3
            have f4 := hB3.frozen 4
            simp at d0 d1 d2 d3 d4
            have hBf := ((((hB3.set_ 0 (.int .i64 2)).set_ 1 (.int .i64 n)).set_ 2 (.string ⟨#[]⟩)).set_ 3 (.slice none 0 0)).set_ 4 (.slice none 0 0)
            have haf := AftR.json (w1 := w) w3 (b2) 2 n ⟨#[]⟩ (.slice none 0 0) (.slice none 0 0) (by omega) (by have := E0.out; have := E2.out; omega) ha3
            have hrf := ((((Blk.far h3 (p := ⟨b2, 0, none⟩) (by simp; omega) (.int .i64 2)).far (p := ⟨b2, 1, none⟩) (by simp; omega) (.int .i64 n)).far (p := ⟨b2, 2, none⟩) (by simp; omega) (.string ⟨#[]⟩)).far (p := ⟨b2, 3, none⟩) (by simp; omega) (.slice none 0 0)).far (p := ⟨b2, 4, none⟩) (by simp; omega) (.slice none 0 0)
            go_wp2_with fail
            exact bodyPost_ret (v := .agg #[.int .i64 2, .int .i64 n, .string ⟨#[]⟩, .slice none 0 0, .slice none 0 0]) (results_cell_row (hu := Tryz.underlying70) (h := rfl) (hp := rfl) (hg := hBf) (hd := rfl) (hi := by kernel_rfl)) rfl (ValE.leaf (t := []) HB.out haf hrf HF.out)
          | bad p er =>
            intro e w3 h5
            obtain ⟨ha2, rfl⟩ := h5.is_bad
            have HB : Hid (R = .bad p er) := HR3.out.symm
            go_wp2_with fail
            exact ⟨rfl, ValE.bad HB.out (haa.trans ha2)⟩
        by_cases hc91 : c = 91
        · as_aux_lemma =>
          subst hc91
          have hx1 : x = 91 := hx
          clear hx
          subst hx1
          have hd : ¬ 40 ≤ dep := fun h => HN.out ⟨h, by decide⟩
          have hf0 : 0 < f := by omega
          have HR3 : Hid (Jp.listP (Jp.itemsP (Jp.oneL (Jp.valF s f (dep + 1))) 93 s ([], []) q) 4 = R) := by
            show _ = _
            rw [← HR2.out, Jp.valP_91 hd]
          clear HR2
          have hst := JSt.start (d := f) haa hB4 hBr hBd hgl hgj.out hbl0.out.1 hbl0.out.2 (by rw [← E2.out]; exact hBj)
          have jw := jitems_walk g s 87 #[.pointer (some ⟨bj, 0, none⟩), .pointer (some ⟨b0, 0, none⟩), .pointer (some ⟨b1, 0, none⟩)] (Jp.oneL (Jp.valF s f (dep + 1))) (fun w1 st => ∃ vK vD xs, JSt w g bj b0 b1 f dep 4 w1 st vK vD xs) (AftR g w) (fun st k => 4 * st.1.length ≤ k ∧ st.2.length ≤ k) 93 ([], []) q w2 enters_v1
            (fun st k w' hP hM hr hk => val1_walk w g bj b0 b1 f dep s (ih hf0) (by omega) st k w' hP hM.2 hr hk hl) (fun st k hk => Jp.oneL_ahead (fun i hi => Jp.val_ahead s f (dep + 1) i hi) st k hk)
            (fun st k st' k' hM h => Jp.oneL_M hM h) (fun st k k' hM h => ⟨by have := hM.1; omega, by have := hM.2; omega⟩) ⟨by simp, by simp⟩ (fun st w1 w' ⟨vK, vD, xs, h⟩ ha => ⟨vK, vD, xs, h.after ha⟩) (fun st w1 ⟨vK, vD, xs, h⟩ => h.aft) h2 ⟨_, _, _, hst⟩ hlt hl
          clear hst hB4
          generalize Jp.itemsP (Jp.oneL (Jp.valF s f (dep + 1))) 93 s ([], []) q = T at *
          go_wp2_with fail
          refine jw.mono ?_
          clear jw
          cases T with
          | bad p er =>
            intro e w3 h5
            obtain ⟨rfl, hq5⟩ := h5.is_bad
            have HB : Hid (R = .bad p er) := HR3.out.symm
            go_wp2_with fail
            exact ⟨rfl, ValE.bad HB.out hq5⟩
          | ok st k =>
            intro e w5 h5
            obtain ⟨rfl, h3, vK, vD, xs, hJ⟩ := h5.is_ok
            have HB : Hid (R = .ok (.mk 4 0 [] st.1 st.2) k) := HR3.out.symm
            clear h5
            obtain ⟨Ak, ck, rfl, hck, hAk⟩ := own_form2 hJ.keys
            obtain ⟨Ad, cd0, rfl, hcd, hAd⟩ := own_form2 hJ.kids
            have hB2 : Blk w5 b2 70 #[.int .i64 0, .int .i64 0, .string ⟨#[]⟩, .slice none 0 0, .slice none 0 0] := by rw [E2.out]; exact hJ.res
            have hj2 : b2 ≠ bj := fun e => hnj.out.2.2 e
            clear hnj hBr hBd hBj haa h2 cr
            go_wp2_with fail
            refine wp_region_C (fun j w' => j ∉ [6, 7, 8, 9] → w'.cell? ⟨bj, 3, none⟩ = some (.slice Ak st.1.length ck) ∧ w'.cell? ⟨bj, 4, none⟩ = some (.slice Ad st.2.length cd0)) (by kernel_rfl) ?_
            have hJ1 := hJ.after ((AftR.refl g w5).drew)
            have h3 := h3.drew
            have hB2 := hB2.drew
            clear hJ
            generalize World.drew w5 = w6 at *
            have c3 := hJ1.obj.cell 3
            have c4 := hJ1.obj.cell 4
            simp at c3 c4
            have hS0 : (fun w' : World => w'.cell? ⟨bj, 3, none⟩ = some (.slice Ak st.1.length ck) ∧ w'.cell? ⟨bj, 4, none⟩ = some (.slice Ad st.2.length cd0)) w6 := ⟨c3, c4⟩
            refine wpAnyC_take (fun w' : World => w'.cell? ⟨bj, 3, none⟩ = some (.slice Ak st.1.length ck) ∧ w'.cell? ⟨bj, 4, none⟩ = some (.slice Ad st.2.length cd0)) [6, 7, 8, 9] (i := 0) (v := ?_) rfl (by kernel_rfl) (by kernel_rfl) (by kernel_rfl) (by kernel_rfl) (fun _ _ _ h => h) (fun j w' _ _ hL h => h hL) (fun w' h _ => h) (Or.inl ⟨by rfl, ?_⟩) hS0 ?_; rotate_left; · (intro w hSw; (try dsimp only at hSw); obtain ⟨s0, s1⟩ := hSw; go_simp; try with_reducible rfl)
            simp only [Act.put, List.setIfInBounds_toArray]
            refine wpAnyC_take (fun w' : World => w'.cell? ⟨bj, 3, none⟩ = some (.slice Ak st.1.length ck) ∧ w'.cell? ⟨bj, 4, none⟩ = some (.slice Ad st.2.length cd0)) [6, 7, 8, 9] (i := 3) (v := ?_) rfl (by kernel_rfl) (by kernel_rfl) (by kernel_rfl) (by kernel_rfl) (fun _ _ _ h => h) (fun j w' _ _ hL h => h hL) (fun w' h _ => h) (Or.inl ⟨by rfl, ?_⟩) hS0 ?_; rotate_left; · (intro w hSw; (try dsimp only at hSw); obtain ⟨s0, s1⟩ := hSw; go_simp; try with_reducible rfl)
            simp only [Act.put]
            refine wpAnyC_take (fun w' : World => w'.cell? ⟨bj, 3, none⟩ = some (.slice Ak st.1.length ck) ∧ w'.cell? ⟨bj, 4, none⟩ = some (.slice Ad st.2.length cd0)) [6, 7, 8, 9] (i := 1) (v := ?_) rfl (by kernel_rfl) (by kernel_rfl) (by kernel_rfl) (by kernel_rfl) (fun _ _ _ h => h) (fun j w' _ _ hL h => h hL) (fun w' h _ => h) (Or.inl ⟨by rfl, ?_⟩) hS0 ?_; rotate_left; · (intro w hSw; (try dsimp only at hSw); obtain ⟨s0, s1⟩ := hSw; go_simp; try with_reducible rfl)
            simp only [Act.put]
            refine wpAnyC_take (fun w' : World => w'.cell? ⟨bj, 3, none⟩ = some (.slice Ak st.1.length ck) ∧ w'.cell? ⟨bj, 4, none⟩ = some (.slice Ad st.2.length cd0)) [6, 7, 8, 9] (i := 4) (v := ?_) rfl (by kernel_rfl) (by kernel_rfl) (by kernel_rfl) (by kernel_rfl) (fun _ _ _ h => h) (fun j w' _ _ hL h => h hL) (fun w' h _ => h) (Or.inl ⟨by rfl, ?_⟩) hS0 ?_; rotate_left; · (intro w hSw; (try dsimp only at hSw); obtain ⟨s0, s1⟩ := hSw; go_simp; try with_reducible rfl)
            simp only [Act.put]
            clear hS0
            refine wpAnyC_one (i := 2) (by kernel_rfl) rfl (fun K hK => ?_)
            go_simp
            ((with_reducible refine (kclip_walk Ak st.1.length ck w6 hck hAk).mono ?_))
            rintro e w7 ⟨rfl, rfl⟩
            refine hK.out _ _ (fun _ => ⟨c3, c4⟩) ?_
            clear hK K
            refine wpAnyC_take (fun _ => True) [] (i := 6) (v := ?_) rfl (by kernel_rfl) (by kernel_rfl) (by kernel_rfl) (by kernel_rfl) (fun _ _ _ h => h) (fun _ _ _ _ _ _ => trivial) (fun _ _ h => absurd (by simp) h) (Or.inl ⟨by rfl, ?_⟩) trivial ?_; rotate_left; · (intro w hSw; (try dsimp only at hSw); go_simp; try with_reducible rfl)
            simp only [Act.put]
            refine wpAnyC_one (i := 5) (by kernel_rfl) rfl (fun K hK => ?_)
            go_simp
            ((with_reducible refine (jclip_walk Ad st.2.length cd0 w7 hcd hAd).mono ?_))
            rintro e w8 ⟨rfl, rfl⟩
            refine hK.out _ _ (fun _ => ⟨c3, c4⟩) ?_
            clear hK K
            have f3 := hJ1.obj.frozen 3
            have f4 := hJ1.obj.frozen 4
            refine wpAnyC_one (i := 7) (by kernel_rfl) rfl (fun K hK => ?_)
            go_simp
            refine hK.out _ _ (fun h => absurd (by simp) h) ?_
            clear hK K
            refine wpAnyC_take (fun _ => True) [] (i := 8) (v := ?_) rfl (by kernel_rfl) (by kernel_rfl) (by kernel_rfl) (by kernel_rfl) (fun _ _ _ h => h) (fun _ _ _ _ _ _ => trivial) (fun _ _ h => absurd (by simp) h) (Or.inl ⟨by rfl, ?_⟩) trivial ?_; rotate_left; · (intro w hSw; (try dsimp only at hSw); go_simp; try with_reducible rfl)
            simp only [Act.put]
            refine wpAnyC_one (i := 9) (by kernel_rfl) rfl (fun K hK => ?_)
            go_simp
            refine hK.out _ _ (fun h => absurd (by simp) h) ?_
            clear hK K
            refine wpAnyC_done (by kernel_rfl) ?_ _
            have hgj7 : w.heap.size ≤ bj := by have := hgj.out; omega
            have hOb : Blk ((w8.setCell ⟨bj, 3, none⟩ (.slice Ak st.1.length st.1.length)).setCell ⟨bj, 4, none⟩ (.slice Ad st.2.length st.2.length)) bj 70 #[.int .i64 4, .int .i64 0, .string ⟨#[]⟩, .slice Ak st.1.length st.1.length, .slice Ad st.2.length st.2.length] := by
              have := (hJ1.obj.set_ 3 (.slice Ak st.1.length st.1.length)).set_ 4 (.slice Ad st.2.length st.2.length)
              simpa using this
            have hB2f := (hB2.far (p := ⟨bj, 3, none⟩) hj2 (.slice Ak st.1.length st.1.length)).far (p := ⟨bj, 4, none⟩) hj2 (.slice Ad st.2.length st.2.length)
            have h3f : RdrAt ((w8.setCell ⟨bj, 3, none⟩ (.slice Ak st.1.length st.1.length)).setCell ⟨bj, 4, none⟩ (.slice Ad st.2.length st.2.length)) g s k := (Blk.far h3 (p := ⟨bj, 3, none⟩) (by simp; omega) (.slice Ak st.1.length st.1.length)).far (p := ⟨bj, 4, none⟩) (by simp; omega) (.slice Ad st.2.length st.2.length)
            have haf := (hJ1.aft.far hgj7 hgl 3 (.slice Ak st.1.length st.1.length)).far hgj7 hgl 4 (.slice Ad st.2.length st.2.length)
            have hjz := (hJ1.end_ (by decide)).keep (F' := fun b => w.heap.size + 3 ≤ b) (w' := (w8.setCell ⟨bj, 3, none⟩ (.slice Ak st.1.length st.1.length)).setCell ⟨bj, 4, none⟩ (.slice Ad st.2.length st.2.length)) ⟨by simp [World.setCell], fun b hb _ => (Below.heap_setCell _ _ _ b hb.2).trans (Below.heap_setCell _ _ _ b hb.2)⟩ (fun b hb _ => hb.1)
            clear hJ1 hB2 h3 c3 c4 f3 f4 hck hAk hcd hAd HR3 hgj7
            generalize (w8.setCell ⟨bj, 3, none⟩ (.slice Ak st.1.length st.1.length)).setCell ⟨bj, 4, none⟩ (.slice Ad st.2.length st.2.length) = wz at *
            have c0 := hOb.cell 0
            have c1 := hOb.cell 1
            have c2 := hOb.cell 2
            have c3 := hOb.cell 3
            have c4 := hOb.cell 4
            have d0 := hB2f.cell 0
            have d1 := hB2f.cell 1
            have d2 := hB2f.cell 2
            have d3 := hB2f.cell 3
            have d4 := hB2f.cell 4
            have f0 := hB2f.frozen 0
            have f1 := hB2f.frozen 1
            have f2 := hB2f.frozen 2
            have f3 := hB2f.frozen 3
            have f4 := hB2f.frozen 4
            simp at c0 c1 c2 c3 c4 d0 d1 d2 d3 d4
            have hBf := ((((hB2f.set_ 0 (.int .i64 4)).set_ 1 (.int .i64 0)).set_ 2 (.string ⟨#[]⟩)).set_ 3 (.slice Ak st.1.length st.1.length)).set_ 4 (.slice Ad st.2.length st.2.length)
            have haf5 := AftR.json (w1 := w) wz b2 4 0 ⟨#[]⟩ (.slice Ak st.1.length st.1.length) (.slice Ad st.2.length st.2.length) (by omega) (by have := E2.out; omega) haf
            have hrf := ((((Blk.far h3f (p := ⟨b2, 0, none⟩) (by simp; omega) (.int .i64 4)).far (p := ⟨b2, 1, none⟩) (by simp; omega) (.int .i64 0)).far (p := ⟨b2, 2, none⟩) (by simp; omega) (.string ⟨#[]⟩)).far (p := ⟨b2, 3, none⟩) (by simp; omega) (.slice Ak st.1.length st.1.length)).far (p := ⟨b2, 4, none⟩) (by simp; omega) (.slice Ad st.2.length st.2.length)
            have hj5 := hjz.keep (F' := fun b => w.heap.size ≤ b) (w' := five wz b2 0 (.int .i64 4) (.int .i64 0) (.string ⟨#[]⟩) (.slice Ak st.1.length st.1.length) (.slice Ad st.2.length st.2.length)) ⟨by rw [five_size]; exact Nat.le_refl _, fun b hb _ => far5 _ _ _ b _ _ _ _ _ (by have := E2.out; omega)⟩ (fun b hb _ => by omega)
            go_wp2_with fail
            exact bodyPost_ret (v := .agg #[.int .i64 4, .int .i64 0, .string ⟨#[]⟩, .slice Ak st.1.length st.1.length, .slice Ad st.2.length st.2.length]) (results_cell_row (hu := Tryz.underlying70) (h := rfl) (hp := rfl) (hg := hBf) (hd := rfl) (hi := by kernel_rfl)) rfl (ValE.ok (cd := st.2.length) HB.out haf5 hrf hj5)
        by_cases hc123 : c = 123
        · as_aux_lemma =>
          subst hc123
          have hx1 : x = 123 := hx
          clear hx
          subst hx1
          have hd : ¬ 40 ≤ dep := fun h => HN.out ⟨h, by decide⟩
          have hf0 : 0 < f := by omega
          have HR3 : Hid (Jp.listP (Jp.itemsP (Jp.oneM s (Jp.valF s f (dep + 1))) 125 s ([], []) q) 5 = R) := by
            show _ = _
            rw [← HR2.out, Jp.valP_123 hd]
          clear HR2
          have hB5 : Blk (w2.setCell ⟨bj, 0, none⟩ (.int .i64 5)) bj 70 #[.int .i64 5, .int .i64 0, .string ⟨#[]⟩, .slice none 0 0, .slice none 0 0] := by
            have := hB4.set_ 0 (.int .i64 5)
            simpa using this
          have hBr5 := hBr.far (p := ⟨bj, 0, none⟩) hnj.out.1 (.int .i64 5)
          have hBd5 := hBd.far (p := ⟨bj, 0, none⟩) hnj.out.2.1 (.int .i64 5)
          have hBj5 := hBj.far (p := ⟨bj, 0, none⟩) hnj.out.2.2 (.int .i64 5)
          have h5 : RdrAt (w2.setCell ⟨bj, 0, none⟩ (.int .i64 5)) g s q := Blk.far h2 (p := ⟨bj, 0, none⟩) (by simp; omega) (.int .i64 5)
          have haa5 := haa.far (b := bj) (by have := hgj.out; omega) hgl 0 (.int .i64 5)
          have f0 := hB4.frozen 0
          have d0 := hB4.cell 0
          simp at d0
          go_upto_region 23 with fail
          clear hBr hBd hBj h2 haa hB4 f0 d0 cr cd c0 c1
          have hB4 := hB5
          have hBr := hBr5
          have hBd := hBd5
          have hBj := hBj5
          have h2 := h5
          have haa := haa5
          clear hB5 hBr5 hBd5 hBj5 h5 haa5
          generalize w2.setCell ⟨bj, 0, none⟩ (.int .i64 5) = w2 at *
          have cr := hBr.cell 0
          simp at cr
          have hst := JSt.start (d := f) haa hB4 hBr hBd hgl hgj.out hbl0.out.1 hbl0.out.2 (by rw [← E2.out]; exact hBj)
          have jw := jitems_walk g s 88 #[.pointer (some ⟨b0, 0, none⟩), .pointer (some ⟨bj, 0, none⟩), .pointer (some ⟨b1, 0, none⟩)] (Jp.oneM s (Jp.valF s f (dep + 1))) (fun w1 st => ∃ vK vD xs, JSt w g bj b0 b1 f dep 5 w1 st vK vD xs) (AftR g w) (fun st k => 4 * st.1.length ≤ k ∧ st.2.length ≤ k) 125 ([], []) q w2 enters_v2
            (fun st k w' hP hM hr hk => val2_walk w g bj b0 b1 f dep s (ih hf0) (by omega) st k w' hP hM hr hk hl) (fun st k hk => Jp.oneM_ahead (fun i hi => Jp.val_ahead s f (dep + 1) i hi) st k hk)
            (fun st k st' k' hM h => Jp.oneM_M hM h) (fun st k k' hM h => ⟨by have := hM.1; omega, by have := hM.2; omega⟩) ⟨by simp, by simp⟩ (fun st w1 w' ⟨vK, vD, xs, h⟩ ha => ⟨vK, vD, xs, h.after ha⟩) (fun st w1 ⟨vK, vD, xs, h⟩ => h.aft) h2 ⟨_, _, _, hst⟩ hlt hl
          clear hst hB4
          generalize Jp.itemsP (Jp.oneM s (Jp.valF s f (dep + 1))) 125 s ([], []) q = T at *
          go_wp2_with fail
          refine jw.mono ?_
          clear jw
          cases T with
          | bad p er =>
            intro e w3 h5
            obtain ⟨rfl, hq5⟩ := h5.is_bad
            have HB : Hid (R = .bad p er) := HR3.out.symm
            go_wp2_with fail
            exact ⟨rfl, ValE.bad HB.out hq5⟩
          | ok st k =>
            intro e w5 h5
            obtain ⟨rfl, h3, vK, vD, xs, hJ⟩ := h5.is_ok
            have HB : Hid (R = .ok (.mk 5 0 [] st.1 st.2) k) := HR3.out.symm
            clear h5
            obtain ⟨Ak, ck, rfl, hck, hAk⟩ := own_form2 hJ.keys
            obtain ⟨Ad, cd0, rfl, hcd, hAd⟩ := own_form2 hJ.kids
            have hB2 : Blk w5 b2 70 #[.int .i64 0, .int .i64 0, .string ⟨#[]⟩, .slice none 0 0, .slice none 0 0] := by rw [E2.out]; exact hJ.res
            have hj2 : b2 ≠ bj := fun e => hnj.out.2.2 e
            clear hnj hBr hBd hBj haa h2 cr
            go_wp2_with fail
            refine wp_region_C (fun j w' => j ∉ [6, 7, 8, 9] → w'.cell? ⟨bj, 3, none⟩ = some (.slice Ak st.1.length ck) ∧ w'.cell? ⟨bj, 4, none⟩ = some (.slice Ad st.2.length cd0)) (by kernel_rfl) ?_
            have hJ1 := hJ.after ((AftR.refl g w5).drew)
            have h3 := h3.drew
            have hB2 := hB2.drew
            clear hJ
            generalize World.drew w5 = w6 at *
            have c3 := hJ1.obj.cell 3
            have c4 := hJ1.obj.cell 4
            simp at c3 c4
            have hS0 : (fun w' : World => w'.cell? ⟨bj, 3, none⟩ = some (.slice Ak st.1.length ck) ∧ w'.cell? ⟨bj, 4, none⟩ = some (.slice Ad st.2.length cd0)) w6 := ⟨c3, c4⟩
            refine wpAnyC_take (fun w' : World => w'.cell? ⟨bj, 3, none⟩ = some (.slice Ak st.1.length ck) ∧ w'.cell? ⟨bj, 4, none⟩ = some (.slice Ad st.2.length cd0)) [6, 7, 8, 9] (i := 0) (v := ?_) rfl (by kernel_rfl) (by kernel_rfl) (by kernel_rfl) (by kernel_rfl) (fun _ _ _ h => h) (fun j w' _ _ hL h => h hL) (fun w' h _ => h) (Or.inl ⟨by rfl, ?_⟩) hS0 ?_; rotate_left; · (intro w hSw; (try dsimp only at hSw); obtain ⟨s0, s1⟩ := hSw; go_simp; try with_reducible rfl)
            simp only [Act.put, List.setIfInBounds_toArray]
            refine wpAnyC_take (fun w' : World => w'.cell? ⟨bj, 3, none⟩ = some (.slice Ak st.1.length ck) ∧ w'.cell? ⟨bj, 4, none⟩ = some (.slice Ad st.2.length cd0)) [6, 7, 8, 9] (i := 3) (v := ?_) rfl (by kernel_rfl) (by kernel_rfl) (by kernel_rfl) (by kernel_rfl) (fun _ _ _ h => h) (fun j w' _ _ hL h => h hL) (fun w' h _ => h) (Or.inl ⟨by rfl, ?_⟩) hS0 ?_; rotate_left; · (intro w hSw; (try dsimp only at hSw); obtain ⟨s0, s1⟩ := hSw; go_simp; try with_reducible rfl)
            simp only [Act.put]
            refine wpAnyC_take (fun w' : World => w'.cell? ⟨bj, 3, none⟩ = some (.slice Ak st.1.length ck) ∧ w'.cell? ⟨bj, 4, none⟩ = some (.slice Ad st.2.length cd0)) [6, 7, 8, 9] (i := 1) (v := ?_) rfl (by kernel_rfl) (by kernel_rfl) (by kernel_rfl) (by kernel_rfl) (fun _ _ _ h => h) (fun j w' _ _ hL h => h hL) (fun w' h _ => h) (Or.inl ⟨by rfl, ?_⟩) hS0 ?_; rotate_left; · (intro w hSw; (try dsimp only at hSw); obtain ⟨s0, s1⟩ := hSw; go_simp; try with_reducible rfl)
            simp only [Act.put]
            refine wpAnyC_take (fun w' : World => w'.cell? ⟨bj, 3, none⟩ = some (.slice Ak st.1.length ck) ∧ w'.cell? ⟨bj, 4, none⟩ = some (.slice Ad st.2.length cd0)) [6, 7, 8, 9] (i := 4) (v := ?_) rfl (by kernel_rfl) (by kernel_rfl) (by kernel_rfl) (by kernel_rfl) (fun _ _ _ h => h) (fun j w' _ _ hL h => h hL) (fun w' h _ => h) (Or.inl ⟨by rfl, ?_⟩) hS0 ?_; rotate_left; · (intro w hSw; (try dsimp only at hSw); obtain ⟨s0, s1⟩ := hSw; go_simp; try with_reducible rfl)
            simp only [Act.put]
            clear hS0
            refine wpAnyC_one (i := 2) (by kernel_rfl) rfl (fun K hK => ?_)
            go_simp
            ((with_reducible refine (kclip_walk Ak st.1.length ck w6 hck hAk).mono ?_))
            rintro e w7 ⟨rfl, rfl⟩
            refine hK.out _ _ (fun _ => ⟨c3, c4⟩) ?_
            clear hK K
            refine wpAnyC_take (fun _ => True) [] (i := 6) (v := ?_) rfl (by kernel_rfl) (by kernel_rfl) (by kernel_rfl) (by kernel_rfl) (fun _ _ _ h => h) (fun _ _ _ _ _ _ => trivial) (fun _ _ h => absurd (by simp) h) (Or.inl ⟨by rfl, ?_⟩) trivial ?_; rotate_left; · (intro w hSw; (try dsimp only at hSw); go_simp; try with_reducible rfl)
            simp only [Act.put]
            refine wpAnyC_one (i := 5) (by kernel_rfl) rfl (fun K hK => ?_)
            go_simp
            ((with_reducible refine (jclip_walk Ad st.2.length cd0 w7 hcd hAd).mono ?_))
            rintro e w8 ⟨rfl, rfl⟩
            refine hK.out _ _ (fun _ => ⟨c3, c4⟩) ?_
            clear hK K
            have f3 := hJ1.obj.frozen 3
            have f4 := hJ1.obj.frozen 4
            refine wpAnyC_one (i := 7) (by kernel_rfl) rfl (fun K hK => ?_)
            go_simp
            refine hK.out _ _ (fun h => absurd (by simp) h) ?_
            clear hK K
            refine wpAnyC_take (fun _ => True) [] (i := 8) (v := ?_) rfl (by kernel_rfl) (by kernel_rfl) (by kernel_rfl) (by kernel_rfl) (fun _ _ _ h => h) (fun _ _ _ _ _ _ => trivial) (fun _ _ h => absurd (by simp) h) (Or.inl ⟨by rfl, ?_⟩) trivial ?_; rotate_left; · (intro w hSw; (try dsimp only at hSw); go_simp; try with_reducible rfl)
            simp only [Act.put]
            refine wpAnyC_one (i := 9) (by kernel_rfl) rfl (fun K hK => ?_)
            go_simp
            refine hK.out _ _ (fun h => absurd (by simp) h) ?_
            clear hK K
            refine wpAnyC_done (by kernel_rfl) ?_ _
            have hgj7 : w.heap.size ≤ bj := by have := hgj.out; omega
            have hOb : Blk ((w8.setCell ⟨bj, 3, none⟩ (.slice Ak st.1.length st.1.length)).setCell ⟨bj, 4, none⟩ (.slice Ad st.2.length st.2.length)) bj 70 #[.int .i64 5, .int .i64 0, .string ⟨#[]⟩, .slice Ak st.1.length st.1.length, .slice Ad st.2.length st.2.length] := by
              have := (hJ1.obj.set_ 3 (.slice Ak st.1.length st.1.length)).set_ 4 (.slice Ad st.2.length st.2.length)
              simpa using this
            have hB2f := (hB2.far (p := ⟨bj, 3, none⟩) hj2 (.slice Ak st.1.length st.1.length)).far (p := ⟨bj, 4, none⟩) hj2 (.slice Ad st.2.length st.2.length)
            have h3f : RdrAt ((w8.setCell ⟨bj, 3, none⟩ (.slice Ak st.1.length st.1.length)).setCell ⟨bj, 4, none⟩ (.slice Ad st.2.length st.2.length)) g s k := (Blk.far h3 (p := ⟨bj, 3, none⟩) (by simp; omega) (.slice Ak st.1.length st.1.length)).far (p := ⟨bj, 4, none⟩) (by simp; omega) (.slice Ad st.2.length st.2.length)
            have haf := (hJ1.aft.far hgj7 hgl 3 (.slice Ak st.1.length st.1.length)).far hgj7 hgl 4 (.slice Ad st.2.length st.2.length)
            have hjz := (hJ1.end_ (by decide)).keep (F' := fun b => w.heap.size + 3 ≤ b) (w' := (w8.setCell ⟨bj, 3, none⟩ (.slice Ak st.1.length st.1.length)).setCell ⟨bj, 4, none⟩ (.slice Ad st.2.length st.2.length)) ⟨by simp [World.setCell], fun b hb _ => (Below.heap_setCell _ _ _ b hb.2).trans (Below.heap_setCell _ _ _ b hb.2)⟩ (fun b hb _ => hb.1)
            clear hJ1 hB2 h3 c3 c4 f3 f4 hck hAk hcd hAd HR3 hgj7
            generalize (w8.setCell ⟨bj, 3, none⟩ (.slice Ak st.1.length st.1.length)).setCell ⟨bj, 4, none⟩ (.slice Ad st.2.length st.2.length) = wz at *
            have c0 := hOb.cell 0
            have c1 := hOb.cell 1
            have c2 := hOb.cell 2
            have c3 := hOb.cell 3
            have c4 := hOb.cell 4
            have d0 := hB2f.cell 0
            have d1 := hB2f.cell 1
            have d2 := hB2f.cell 2
            have d3 := hB2f.cell 3
            have d4 := hB2f.cell 4
            have f0 := hB2f.frozen 0
            have f1 := hB2f.frozen 1
            have f2 := hB2f.frozen 2
            have f3 := hB2f.frozen 3
            have f4 := hB2f.frozen 4
            simp at c0 c1 c2 c3 c4 d0 d1 d2 d3 d4
            have hBf := ((((hB2f.set_ 0 (.int .i64 5)).set_ 1 (.int .i64 0)).set_ 2 (.string ⟨#[]⟩)).set_ 3 (.slice Ak st.1.length st.1.length)).set_ 4 (.slice Ad st.2.length st.2.length)
            have haf5 := AftR.json (w1 := w) wz b2 5 0 ⟨#[]⟩ (.slice Ak st.1.length st.1.length) (.slice Ad st.2.length st.2.length) (by omega) (by have := E2.out; omega) haf
            have hrf := ((((Blk.far h3f (p := ⟨b2, 0, none⟩) (by simp; omega) (.int .i64 5)).far (p := ⟨b2, 1, none⟩) (by simp; omega) (.int .i64 0)).far (p := ⟨b2, 2, none⟩) (by simp; omega) (.string ⟨#[]⟩)).far (p := ⟨b2, 3, none⟩) (by simp; omega) (.slice Ak st.1.length st.1.length)).far (p := ⟨b2, 4, none⟩) (by simp; omega) (.slice Ad st.2.length st.2.length)
            have hj5 := hjz.keep (F' := fun b => w.heap.size ≤ b) (w' := five wz b2 0 (.int .i64 5) (.int .i64 0) (.string ⟨#[]⟩) (.slice Ak st.1.length st.1.length) (.slice Ad st.2.length st.2.length)) ⟨by rw [five_size]; exact Nat.le_refl _, fun b hb _ => far5 _ _ _ b _ _ _ _ _ (by have := E2.out; omega)⟩ (fun b hb _ => by omega)
            go_wp2_with fail
            exact bodyPost_ret (v := .agg #[.int .i64 5, .int .i64 0, .string ⟨#[]⟩, .slice Ak st.1.length st.1.length, .slice Ad st.2.length st.2.length]) (results_cell_row (hu := Tryz.underlying70) (h := rfl) (hp := rfl) (hg := hBf) (hd := rfl) (hi := by kernel_rfl)) rfl (ValE.ok (cd := st.2.length) HB.out haf5 hrf hj5)
        have HX := Lib.hid (Jp.valP_x (s := s) (m := Jp.valF s f (dep + 1)) (d := dep) (k := q) c HN.out hc110 hc116 hc102 hc34 (fun h => h.elim hc45 hdg) hc91 hc123)
        have HB : Hid (R = .bad q 3) := by
          show _ = _
          rw [← HR2.out]; exact HX.out
        have e110 : (x == 110) = false := by rw [beq_eq_false_iff_ne]; intro h; exact hc110 (UInt8.toNat_inj.1 (by show c.toNat = 110; omega))
        have e116 : (x == 116) = false := by rw [beq_eq_false_iff_ne]; intro h; exact hc116 (UInt8.toNat_inj.1 (by show c.toNat = 116; omega))
        have e102 : (x == 102) = false := by rw [beq_eq_false_iff_ne]; intro h; exact hc102 (UInt8.toNat_inj.1 (by show c.toNat = 102; omega))
        have e34 : (x == 34) = false := by rw [beq_eq_false_iff_ne]; intro h; exact hc34 (UInt8.toNat_inj.1 (by show c.toNat = 34; omega))
        have e45 : (x == 45) = false := by rw [beq_eq_false_iff_ne]; intro h; exact hc45 (UInt8.toNat_inj.1 (by show c.toNat = 45; omega))
        have e91 : (x == 91) = false := by rw [beq_eq_false_iff_ne]; intro h; exact hc91 (UInt8.toNat_inj.1 (by show c.toNat = 91; omega))
        have e123 : (x == 123) = false := by rw [beq_eq_false_iff_ne]; intro h; exact hc123 (UInt8.toNat_inj.1 (by show c.toNat = 123; omega))
        have hdr : c.toNat < 48 ∨ 57 < c.toNat := by
          rw [dig_form, Bool.and_eq_true, decide_eq_true_eq, decide_eq_true_eq] at hdg; omega
        have hxr : x < 48 ∨ (48 ≤ x ∧ 57 < x) := by omega
        clear hdr hx HX hc110 hc116 hc102 hc34 hc45 hdg hc91 hc123 HR2
        rcases hxr with g1 | ⟨g1, g2⟩
        all_goals
          go_wp2_with fail
          refine (fail_walk q 3 _).mono ?_
          rintro e w3 ⟨rfl, rfl⟩
          go_wp2_with fail
          exact ⟨rfl, ValE.bad HB.out haa⟩
  · obtain rfl : q = s.length := by omega
    have HB : Hid (R = .bad s.length 3) := by
      show _ = _
      rw [← HR.out, List.getElem?_eq_none (Nat.le_refl _)]
    go_wp2_with fail
    go_quiet (fail)
    go_wp2_with fail
    refine (fail_walk s.length 3 _).mono ?_
    rintro e w3 ⟨rfl, rfl⟩
    go_wp2_with fail
    exact ⟨rfl, ValE.bad HB.out (haa.drewN _)⟩

/-- a value, read -/
theorem value_walk (g : Nat) (s : Bs) (hl : s.length ≤ 16777216) : ∀ (f dep : Nat), f + dep = 40 → ∀ (i : Nat) (w : World), RdrAt w g s i → i ≤ s.length →
    Calls Tryz.prog 56 #[.pointer (some ⟨g, 0, none⟩), .int .i64 dep] w (ValE g s w (f + 1) (Jp.valF s (f + 1) dep i))
  | 0, dep, hd, i, w, h, hi => value_step g 0 dep s hl hd (fun h => absurd h (by omega)) i w h hi
  | f + 1, dep, hd, i, w, h, hi => value_step g (f + 1) dep s hl hd (fun _ i w h hi => value_walk g s hl f (dep + 1) (by omega) i w h hi) i w h hi
end Go.Proofs.YtgpjcjnimheglaaGreatDoor
