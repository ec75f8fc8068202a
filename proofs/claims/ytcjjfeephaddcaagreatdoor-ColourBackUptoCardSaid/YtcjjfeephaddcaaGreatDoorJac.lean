/-
  JOINED of the texts LP LR LE LB WM WP WF WL LS LF
-/
import Derived.Test.YtcjjfeephaddcaaGreatDoorJab
import Derived.Lib.ConvBytes
import Derived.Laws.Strings3
import Derived.Laws.Closers25
import Derived.Laws.Closers25b
import Derived.BigCall
import Derived.BigGuard
import Derived.Test.YtcjjfeephaddcaaGreatDoorShelfX
import Derived.Shelf.Spec.BytesIndexFunc
import Derived.Lib.IndexLaws
import Derived.Lib.SlTrimSet
import Derived.Lib.ItoaNum
import Derived.Lib.Atoi
import Derived.Test.YtcjjfeephaddcaaGreatDoorShelfW
import Derived.Shelf.Strings.SlTrimAscii
import Derived.Lib.LaidTab
import Derived.Lib.AtoiAll
set_option linter.all false
namespace Go.Proofs.YtcjjfeephaddcaaGreatDoor.Lx
theorem remM_le : ∀ (l : List UInt8) (d k : Nat), remM d l = some k → 2 ≤ k ∧ k ≤ l.length
 | [], _, _, h => by simp [remM] at h
 | [_], _, _, h => by simp [remM] at h
 | a :: b :: t, d, k, h => by
  simp only [remM] at h
  split at h
  ·rw [Option.map_eq_some_iff] at h
   obtain ⟨j, hj, rfl⟩ := h
   have := remM_le t _ _ hj
   simp only [List.length_cons]; omega
  ·split at h
   ·split at h
    ·injection h with h; subst h; simp
    ·rw [Option.map_eq_some_iff] at h
     obtain ⟨j, hj, rfl⟩ := h
     have := remM_le t _ _ hj
     simp only [List.length_cons]; omega
   ·rw [Option.map_eq_some_iff] at h
    obtain ⟨j, hj, rfl⟩ := h
    have := remM_le (b :: t) _ _ hj
    simp only [List.length_cons] at this ⊢; omega
theorem hex_no (b : UInt8) (d : Nat) (h : hexV b = some d) : b ≠ 10 ∧ b ≠ 125 ∧ b ≠ 34 ∧ b ≠ 92 ∧ d < 16 := by
 unfold hexV at h
 have hn : ∀ n : Nat, n < 256 → b.toNat ≠ n → b ≠ UInt8.ofNat n := fun n hn h1 e => h1 (by rw [e]; simp [UInt8.toNat_ofNat']; omega)
 split at h
 ·injection h with h
  exact ⟨hn 10 (by omega) (by omega), hn 125 (by omega) (by omega), hn 34 (by omega) (by omega), hn 92 (by omega) (by omega), by omega⟩
 ·split at h
  ·injection h with h
   exact ⟨hn 10 (by omega) (by omega), hn 125 (by omega) (by omega), hn 34 (by omega) (by omega), hn 92 (by omega) (by omega), by omega⟩
  ·split at h
   ·injection h with h
    exact ⟨hn 10 (by omega) (by omega), hn 125 (by omega) (by omega), hn 34 (by omega) (by omega), hn 92 (by omega) (by omega), by omega⟩
   ·cases h
theorem hexN_all : ∀ (l : List UInt8) (a n : Nat), hexN a l = some n → ∀ b ∈ l, ∃ d, hexV b = some d
 | [], _, _, _, b, hb => by simp at hb
 | c :: t, a, n, h, b, hb => by
  simp only [hexN] at h
  cases hc : hexV c with
  | none => rw [hc] at h; simp at h
  | some d =>
   rw [hc] at h
   rcases List.mem_cons.1 hb with rfl | hb
   ·exact ⟨d, hc⟩
   ·exact hexN_all t _ _ h b hb
theorem take_while_at (r : List UInt8) (h : (125 : UInt8) ∈ r) : ∃ t, r = r.takeWhile (· != 125) ++ 125 :: t := by
 induction r with
 | nil => simp at h
 | cons a r ih =>
  by_cases ha : a = 125
  ·subst ha; exact ⟨r, by simp⟩
  ·rcases List.mem_cons.1 h with h | h
   ·exact absurd h.symm ha
   ·obtain ⟨t, ht⟩ := ih h
    refine ⟨t, ?_⟩
    have : (a != 125) = true := by simp [ha]
    rw [List.takeWhile_cons, if_pos this, List.cons_append, ← ht]
theorem code_le (l : List UInt8) (c n : Nat) (h : codeM l = some (c, n)) : 3 ≤ n ∧ n ≤ l.length ∧ (10 : UInt8) ∉ l.take n := by
 unfold codeM at h
 split at h
 ·cases h
 ·rename_i a r
  split at h
  ·cases h
  ·rename_i ha
   split at h
   ·cases h
   ·rename_i hm
    simp only at h
    split at h
    ·cases h
    ·rename_i hl
     split at h
     ·cases h
     ·rename_i m hx
      split at h
      ·cases h
      ·injection h with h; injection h with h1 h2
       subst h2
       obtain ⟨t, ht⟩ := take_while_at r (by simpa using hm)
       have hlen : (r.takeWhile (· != 125)).length + 1 + t.length = r.length := by
        have := congrArg List.length ht
        simp only [List.length_append, List.length_cons] at this
        omega
       refine ⟨by omega, by simp only [List.length_cons]; omega, ?_⟩
       have e : (a :: r).take ((r.takeWhile (· != 125)).length + 2) = a :: (r.takeWhile (· != 125) ++ [125]) := by
        rw [List.take_succ_cons]
        have h3 : ∀ D t : List UInt8, (D ++ 125 :: t).take (D.length + 1) = D ++ [125] := fun D t => by rw [List.take_append, List.take_of_length_le (by omega)]; simp
        exact congrArg (List.cons a) ((congrArg (List.take _) ht).trans (h3 _ _))
       rw [e]
       have ha' : a = 123 := by simpa using ha
       subst ha'
       intro hmem
       rcases List.mem_cons.1 hmem with h | h
       ·exact absurd h (by decide)
       ·rcases List.mem_append.1 h with h | h
        ·obtain ⟨d, hd⟩ := hexN_all _ _ _ hx _ h
         exact (hex_no _ _ hd).1 rfl
        ·simp at h
theorem esc_le (l : List UInt8) (c n : Nat) (h : escM l = some (c, n)) : 1 ≤ n ∧ n ≤ l.length ∧ (10 : UInt8) ∉ l.take n := by
 unfold escM at h
 split at h
 ·cases h
 ·rename_i a r
  have one : ∀ x : UInt8, x ≠ 10 → (10 : UInt8) ∉ (x :: r).take 1 := fun x hx hm => by
   simp at hm; exact hx hm.symm
  split at h
  ·rename_i ha; injection h with h; injection h with h1 h2; subst h2 ha; exact ⟨by omega, by simp, one _ (by decide)⟩
  ·split at h
   ·rename_i ha; injection h with h; injection h with h1 h2; subst h2 ha; exact ⟨by omega, by simp, one _ (by decide)⟩
   ·split at h
    ·rename_i ha; injection h with h; injection h with h1 h2; subst h2
     exact ⟨by omega, by simp, one _ (by rcases ha with rfl | rfl <;> decide)⟩
    ·split at h
     ·rename_i ha
      subst ha
      rw [Option.map_eq_some_iff] at h
      obtain ⟨⟨c', n'⟩, hc, he⟩ := h
      injection he with h1 h2
      obtain ⟨k1, k2, k3⟩ := code_le r c' n' hc
      simp only at h2
      subst h2
      refine ⟨by omega, by simp only [List.length_cons]; omega, ?_⟩
      rw [List.take_succ_cons]
      intro hm
      rcases List.mem_cons.1 hm with h | h
      ·exact absurd h (by decide)
      ·exact k3 h
     ·cases h
theorem textF_fuel : ∀ (f g : Nat) (r : Bool) (l : List UInt8), l.length ≤ f → l.length ≤ g → textF f r l = textF g r l
 | 0, 0, _, _, _, _ => rfl
 | 0, g + 1, r, l, h, _ => by
  have : l = [] := List.eq_nil_of_length_eq_zero (by omega)
  subst this; simp [textF]
 | f + 1, 0, r, l, _, h => by
  have : l = [] := List.eq_nil_of_length_eq_zero (by omega)
  subst this; simp [textF]
 | f + 1, g + 1, r, l, h1, h2 => by
  simp only [textF]
  split
  ·rfl
  ·rename_i a t
   simp only [List.length_cons] at h1 h2
   have hd : ∀ n (b : Bool), textF f b (t.drop n) = textF g b (t.drop n) := fun n b => textF_fuel f g b _ (by rw [List.length_drop]; omega) (by rw [List.length_drop]; omega)
   split
   ·rfl
   ·split
    ·rfl
    ·split
     ·split
      ·rw [hd]
      ·simp only [hd]
     ·have := hd 0 r
      rw [List.drop_zero] at this
      rw [this]
def textR (r : Bool) (l : List UInt8) : Nat × Bool × Bool := textF l.length r l
theorem textR_nil (r : Bool) : textR r [] = (0, false, r) := rfl
theorem textR_end (r : Bool) (t : List UInt8) : textR r (10 :: t) = (0, false, r) := by simp [textR, textF]
theorem textR_shut (r : Bool) (t : List UInt8) : textR r (34 :: t) = (1, true, r) := by simp [textR, textF]
theorem textR_plain (r : Bool) (a : UInt8) (t : List UInt8) (h1 : a ≠ 10) (h2 : a ≠ 34) (h3 : a ≠ 92) : textR r (a :: t) = ((textR r t).1 + 1, (textR r t).2) := by
 simp only [textR, List.length_cons, textF, if_neg h1, if_neg h2, if_neg h3]
theorem textR_esc (r : Bool) (t : List UInt8) (c n : Nat) (h : escM t = some (c, n)) : textR r (92 :: t) = ((textR r (t.drop n)).1 + (1 + n), (textR r (t.drop n)).2) := by
 have e : textF t.length r (t.drop n) = textF (t.drop n).length r (t.drop n) := textF_fuel _ _ _ _ (by rw [List.length_drop]; omega) (Nat.le_refl _)
 simp only [textR, List.length_cons, textF, if_neg (by decide : ¬ (92 : UInt8) = 10), if_neg (by decide : ¬ (92 : UInt8) = 34), if_true, h, e]
theorem textR_bad (r : Bool) (t : List UInt8) (h : escM t = none) (n : Nat) (hn : n = if t.isEmpty ∨ byteAt t 0 = 10 then 0 else (dec t).2) : textR r (92 :: t) = ((textR false (t.drop n)).1 + (1 + n), (textR false (t.drop n)).2) := by
 have e : textF t.length false (t.drop n) = textF (t.drop n).length false (t.drop n) := textF_fuel _ _ _ _ (by rw [List.length_drop]; omega) (Nat.le_refl _)
 simp only [textR, List.length_cons, textF, if_neg (by decide : ¬ (92 : UInt8) = 10), if_neg (by decide : ¬ (92 : UInt8) = 34), if_true, h, ← hn, e]
theorem dec_rest (l : List UInt8) (j : Nat) (h1 : 1 ≤ j) (h2 : j < (dec l).2) : ∃ b, l[j]? = some b ∧ b ≠ 10 ∧ b ≠ 34 ∧ b ≠ 92 := by
 obtain ⟨h3, h4⟩ := (dec_size l).2.2 j h1 h2
 have hb : l[j]? = some l[j] := List.getElem?_eq_getElem h3
 refine ⟨l[j], hb, ?_⟩
 have : byteAt l j = l[j].toNat := by unfold byteAt; rw [hb]; rfl
 rw [this] at h4
 refine ⟨?_, ?_, ?_⟩ <;> intro e <;> rw [e] at h4 <;> simp at h4
theorem tw_skip (n : Nat) (l : List UInt8) (hn : n ≤ l.length) (h : (10 : UInt8) ∉ l.take n) : (l.takeWhile (· != 10)).length = n + ((l.drop n).takeWhile (· != 10)).length := by
 induction n generalizing l with
 | zero => simp
 | succ n ih =>
  cases l with
  | nil => simp at hn
  | cons a t =>
   rw [List.take_succ_cons, List.mem_cons, not_or] at h
   have ha : (a != 10) = true := by simp; exact fun e => h.1 e.symm
   rw [List.takeWhile_cons, if_pos ha, List.length_cons, List.drop_succ_cons, ih t (by simpa using hn) h.2]
   omega
theorem textR_line : ∀ (n : Nat) (l : List UInt8) (r : Bool), l.length = n → (textR r l).1 ≤ l.length ∧ ((textR r l).2.1 = false → (textR r l).1 = (l.takeWhile (· != 10)).length) ∧ ((textR r l).2.1 = true → 1 ≤ (textR r l).1) := by
 intro n
 induction n using Nat.strongRecOn with
 | _ n ih =>
  intro l r hl
  cases l with
  | nil => simp [textR_nil]
  | cons a t =>
   simp only [List.length_cons] at hl
   by_cases h1 : a = 10
   ·subst h1; rw [textR_end]; simp
   ·by_cases h2 : a = 34
    ·subst h2; rw [textR_shut]; simp
    ·by_cases h3 : a = 92
     ·subst h3
      have key : ∀ (k : Nat) (b : Bool), k ≤ t.length → (10 : UInt8) ∉ t.take k → textR r (92 :: t) = ((textR b (t.drop k)).1 + (1 + k), (textR b (t.drop k)).2) → _ := fun k b hk hno he => by
       obtain ⟨i1, i2, i3⟩ := ih (t.drop k).length (by rw [List.length_drop]; omega) (t.drop k) b rfl
       have hw := tw_skip k t hk hno
       show (textR r (92 :: t)).1 ≤ (92 :: t).length ∧ ((textR r (92 :: t)).2.1 = false → (textR r (92 :: t)).1 = ((92 :: t).takeWhile (· != 10)).length) ∧ ((textR r (92 :: t)).2.1 = true → 1 ≤ (textR r (92 :: t)).1)
       rw [he]
       rw [List.length_drop] at i1
       refine ⟨by simp only [List.length_cons]; omega, fun hf => ?_, fun _ => by simp only; omega⟩
       rw [List.takeWhile_cons, if_pos (by decide), List.length_cons, hw, ← i2 hf]
       simp only; omega
      cases he : escM t with
      | some x =>
       obtain ⟨c, k⟩ := x
       obtain ⟨k1, k2, k3⟩ := esc_le t c k he
       exact key k r k2 k3 (textR_esc r t c k he)
      | none =>
       refine key (if t.isEmpty ∨ byteAt t 0 = 10 then 0 else (dec t).2) false ?_ ?_ (textR_bad r t he _ rfl)
       ·split
        ·omega
        ·rename_i h; exact dec_le t (by intro e; exact h (Or.inl (by rw [e]; rfl)))
       ·split
        ·simp
        ·rename_i h
         intro hm
         obtain ⟨j, hj, hjb⟩ := List.getElem_of_mem hm
         rw [List.length_take] at hj
         rw [List.getElem_take] at hjb
         rcases Nat.eq_zero_or_pos j with rfl | hj0
         ·refine h (Or.inr ?_)
          unfold byteAt
          rw [List.getElem?_eq_getElem (by omega), hjb]; rfl
         ·obtain ⟨b, hb, hb1, _⟩ := dec_rest t j hj0 (by omega)
          rw [List.getElem?_eq_getElem (by omega), hjb] at hb
          injection hb with hb
          exact hb1 hb.symm
     ·obtain ⟨i1, i2, i3⟩ := ih t.length (by omega) t r rfl
      rw [textR_plain r a t h1 h2 h3]
      refine ⟨by simp only [List.length_cons]; omega, fun hf => ?_, fun _ => by simp only; omega⟩
      have ha : (a != 10) = true := by simp [h1]
      rw [List.takeWhile_cons, if_pos ha, List.length_cons, ← i2 hf]
theorem prefix_two {a b : UInt8} {l : List UInt8} (h : [a, b].isPrefixOf l = true) : ∃ t, l = a :: b :: t := by
 rcases l with _ | ⟨x, _ | ⟨y, t⟩⟩
 ·simp [List.isPrefixOf] at h
 ·simp [List.isPrefixOf] at h
 ·simp [List.isPrefixOf] at h
  exact ⟨t, by rw [h.1, h.2]⟩
theorem run_pos (p : Nat → Bool) {l : List UInt8} (hl : l ≠ []) (hp : p (dec l).1 = true) : 1 ≤ run p l := by
 rw [run_go p hl hp]
 have := (dec_size l).1
 omega
theorem one_le (l : List UInt8) (hl : l ≠ []) : 1 ≤ (oneM l).2 ∧ (oneM l).2 ≤ l.length ∧ 1 ≤ (oneM l).1 ∧ (oneM l).1 ≤ 8 := by
 have h0 : 0 < l.length := List.length_pos_iff.2 hl
 unfold oneM
 split
 ·rename_i h
  exact ⟨run_pos _ hl h, run_le _ _ l rfl, by simp, by simp⟩
 split
 ·rename_i h
  obtain ⟨t, rfl⟩ := prefix_two h
  refine ⟨?_, ?_, by simp, by simp⟩
  ·simp
  ·exact (List.takeWhile_sublist _).length_le
 split
 ·rename_i h
  obtain ⟨t, rfl⟩ := prefix_two h
  split
  ·rename_i k hk
   have := remM_le _ _ _ hk
   simp only [List.drop_succ_cons, List.drop_zero, List.length_cons] at this ⊢
   omega
  ·exact ⟨h0, Nat.le_refl _, by simp, by simp⟩
 split
 ·rename_i h
  refine ⟨run_pos _ hl (by unfold bothB; rw [h]; rfl), run_le _ _ l rfl, ?_, ?_⟩ <;> simp only <;> split <;> omega
 split
 ·rename_i h
  refine ⟨run_pos _ hl h, run_le _ _ l rfl, ?_, ?_⟩ <;> simp only <;> split <;> omega
 split
 ·have h1 := (textR_line _ (l.drop 1) true rfl).1
  rw [List.length_drop] at h1
  have e : textM (l.drop 1) = textR true (l.drop 1) := rfl
  rw [e]
  refine ⟨by simp only; omega, by simp only; omega, ?_, ?_⟩ <;> simp only <;> split <;> omega
 split
 ·rename_i h
  refine ⟨h, ?_, by simp, by simp⟩
  unfold signM
  split
  ·rename_i h2
   have : ∃ a b t, l = a :: b :: t := by
    unfold twoM at h2
    simp only [Bool.or_eq_true] at h2
    rcases h2 with (h2 | h2) | h2 <;> (obtain ⟨t, rfl⟩ := prefix_two h2; exact ⟨_, _, t, rfl⟩)
   obtain ⟨a, b, t, rfl⟩ := this
   simp
  ·split
   ·simp
   ·split <;> simp
 ·exact ⟨(dec_size l).1, dec_le l hl, by simp, by simp⟩
theorem tokF_fuel : ∀ (f g at_ : Nat) (l : List UInt8), l.length ≤ f → l.length ≤ g → tokF f at_ l = tokF g at_ l
 | 0, 0, _, _, _, _ => rfl
 | 0, g + 1, _, l, h, _ => by
  have : l = [] := List.eq_nil_of_length_eq_zero (by omega)
  subst this; simp [tokF]
 | f + 1, 0, _, l, _, h => by
  have : l = [] := List.eq_nil_of_length_eq_zero (by omega)
  subst this; simp [tokF]
 | f + 1, g + 1, at_, l, h1, h2 => by
  simp only [tokF]
  cases hl : l.isEmpty with
  | true => rfl
  | false =>
   have := (one_le l (by intro e; rw [e] at hl; simp at hl)).1
   rw [tokF_fuel f g _ (l.drop (oneM l).2) (by rw [List.length_drop]; omega) (by rw [List.length_drop]; omega)]
def tokR (at_ : Nat) (l : List UInt8) : List (Nat × Nat × Nat) := tokF l.length at_ l
theorem tokR_nil (at_ : Nat) : tokR at_ [] = [] := rfl
theorem tokR_cons (at_ : Nat) {l : List UInt8} (hl : l ≠ []) : tokR at_ l = ((oneM l).1, at_, (oneM l).2) :: tokR (at_ + (oneM l).2) (l.drop (oneM l).2) := by
 have h0 : 0 < l.length := List.length_pos_iff.2 hl
 have h1 := (one_le l hl).1
 unfold tokR
 obtain ⟨f, hf⟩ : ∃ f, l.length = f + 1 := ⟨l.length - 1, by omega⟩
 rw [hf]
 simp only [tokF]
 rw [if_neg (by simpa using hl), tokF_fuel f (l.drop (oneM l).2).length _ _ (by rw [List.length_drop]; omega) (Nat.le_refl _)]
theorem hexN_snoc : ∀ (l : List UInt8) (a n : Nat) (b : UInt8) (d : Nat), hexN a l = some n → hexV b = some d → hexN a (l ++ [b]) = some (n * 16 + d)
 | [], a, n, b, d, h, hb => by simp only [hexN] at h; injection h with h; subst h; simp [hexN, hb]
 | c :: t, a, n, b, d, h, hb => by
  simp only [List.cons_append, hexN] at h ⊢
  cases hc : hexV c with
  | none => rw [hc] at h; simp at h
  | some x => rw [hc] at h; exact hexN_snoc t _ n b d h hb
theorem code_no (l : List UInt8) (h : l.head? ≠ some 123) : codeM l = none := by
 unfold codeM
 cases l with
 | nil => rfl
 | cons a r =>
  simp only
  rw [if_pos]
  intro e; subst e; exact h rfl
end Go.Proofs.YtcjjfeephaddcaaGreatDoor.Lx
namespace Go.Proofs.YtcjjfeephaddcaaGreatDoor
open Go.RowKit
theorem or_hex : ∀ c : Fin 256, (65 ≤ c.val → c.val ≤ 70 → bits .or .u8 (c.val : Int) 32 = (c.val : Int) + 32) ∧ (97 ≤ c.val → c.val ≤ 102 → bits .or .u8 (c.val : Int) 32 = (c.val : Int)) := by decide +kernel
theorem hex_ways (c : UInt8) (d : Nat) (h : Lx.hexV c = some d) : (48 ≤ c.toNat ∧ c.toNat ≤ 57 ∧ d = c.toNat - 48) ∨ (∃ v : Int, bits .or .u8 (c.toNat : Int) 32 = v ∧ v = 87 + (d : Int) ∧ 10 ≤ d ∧ d ≤ 15 ∧ 57 < c.toNat ∧ c.toNat ≠ 95) := by
 have h0 := or_hex ⟨c.toNat, c.toNat_lt⟩
 unfold Lx.hexV at h
 split at h
 ·injection h with h; exact .inl ⟨by omega, by omega, h.symm⟩
 ·split at h
  ·rename_i h2
   injection h with h
   exact .inr ⟨_, rfl, by rw [h0.2 h2.1 h2.2]; show (c.toNat : Int) = _; omega, by omega, by omega, by omega, by omega⟩
  ·split at h
   ·rename_i h2
    injection h with h
    exact .inr ⟨_, rfl, by rw [h0.1 h2.1 h2.2]; show (c.toNat : Int) + 32 = _; omega, by omega, by omega, by omega, by omega⟩
   ·cases h
set_option maxRecDepth 100000 in
theorem lower_walk (c : Int) (w : World) : Calls Tryz.prog 280 #[.int .u8 c] w fun e w' => e = .returned (.int .u8 (bits .or .u8 c 32)) ∧ w' = w := by
 go_enter Tryz.func280, Tryz.ntmps280
 go_wp2
 go_ret
 exact ⟨rfl, rfl⟩
set_option maxHeartbeats 8000000 in
set_option maxRecDepth 100000 in
theorem hexuint_walk (l : Bs) (w : World) (h1 : 1 ≤ l.length) (h6 : l.length ≤ 6) (hall : ∀ b ∈ l, ∃ d, Lx.hexV b = some d) (n : Nat) (hn : Lx.hexN 0 l = some n) :
  Calls Tryz.prog 271 #[.string ⟨l.toArray⟩, .int .i64 16, .int .i64 32] w fun e w' => e = .returned (.tuple #[.int .u64 n, .nilIface]) ∧ Below w.heap.size w w' := by
 have hne : (l == []) = false := by cases l <;> simp at h1 ⊢
 have hcv := Lib.run_convert_string_bytes (P := Tryz.prog) w 9 192 5 ⟨l.toArray⟩ (u := .string) Tryz.underlying9 Tryz.underlying192 Tryz.underlying5
 have hB : ∀ j (h : j < l.length), (Lib.bytesWorld w 5 ⟨l.toArray⟩).cell? ⟨w.heap.size, j, none⟩ = some (.int .u8 l[j].toNat) := fun j hj => by
  have := Lib.bytesWorld_cell w 5 ⟨l.toArray⟩ j (by rw [mk_size]; exact hj)
  rw [this]
  simp [List.getD, hj]
 have hbw : Below w.heap.size w (Lib.bytesWorld w 5 ⟨l.toArray⟩) := Lib.bytesWorld_below _ _ _
 have hsz : (⟨l.toArray⟩ : ByteArray).size = l.length := mk_size l
 rw [hsz] at hcv
 generalize Lib.bytesWorld w 5 ⟨l.toArray⟩ = W1 at *
 have hmv : IntKind.u64.wrap (IntKind.u64.wrap 4294967296 - 1) = 4294967295 := by
  rw [IntKind.wrap_u64, IntKind.wrap_u64]
  decide
 have HB := Lib.hid hB
 have Hall := Lib.hid hall
 have Hn := Lib.hid hn
 clear hB hall hn hsz
 go_enter Tryz.func271, Tryz.ntmps271
 go_wp2
 go_loop [12, 13, 101] (fun vu vn vi => ∃ (k acc : Nat) (a : Int), vu = .bool false ∧ vn = .int .u64 a ∧ vi = .int .i64 k ∧ k ≤ l.length ∧ 0 ≤ a ∧ a < 16777216 ∧ Hid (a = (acc : Int) ∧ Lx.hexN 0 (l.take k) = some acc)) (fun _ _ vi => l.length - (intOf vi).toNat)
 case atStart => exact ⟨0, 0, 0, rfl, rfl, rfl, by omega, by omega, by omega, rfl, rfl⟩
 case round =>
  obtain ⟨k, acc, a, rfl, rfl, rfl, hk, ha0, ha1, hh⟩ := hrel
  by_cases hkn : k < l.length
  ·have hc := HB.out k hkn
   obtain ⟨d, hd⟩ := Hall.out l[k] (List.getElem_mem hkn)
   have hnx : Hid (Lx.hexN 0 (l.take (k + 1)) = some (acc * 16 + d)) := by
    show _ = _
    rw [List.take_succ_eq_append_getElem hkn]
    exact Lx.hexN_snoc _ _ _ _ _ hh.out.2 hd
   have hacc2 : a * 16 + (d : Int) < 16777216 := by
    have hae := hh.out.1
    have h2 : ∀ (t : Bs) (a m : Nat), Lx.hexN a t = some m → m < (a + 1) * 16 ^ t.length := by
     intro t
     induction t with
     | nil => intro a m h; simp only [Lx.hexN] at h; injection h with h; subst h; simp
     | cons b t ih =>
      intro a m h
      simp only [Lx.hexN] at h
      cases hb : Lx.hexV b with
      | none => rw [hb] at h; simp at h
      | some x =>
       rw [hb] at h
       have h3 := ih _ _ h
       have h4 := (Lx.hex_no b x hb).2.2.2.2
       have h5 : (a * 16 + x + 1) * 16 ^ t.length ≤ (a + 1) * 16 * 16 ^ t.length := Nat.mul_le_mul_right _ (by omega)
       rw [List.length_cons, Nat.pow_succ, Nat.mul_comm (16 ^ t.length) 16, ← Nat.mul_assoc]
       omega
    have h3 := h2 _ _ _ hnx.out
    have h4 : (l.take (k + 1)).length ≤ 6 := by rw [List.length_take]; omega
    have h5 : 16 ^ (l.take (k + 1)).length ≤ 16 ^ 6 := Nat.pow_le_pow_right (by omega) h4
    omega
   have hways := hex_ways l[k] d hd
   have hd16' : (d : Int) < 16 := by have := (Lx.hex_no _ _ hd).2.2.2.2; omega
   have hd16 := (Lx.hex_no _ _ hd).2.2.2.2
   have hc256 : l[k].toNat < 256 := l[k].toNat_lt
   generalize l[k] = c at *
   clear hd
   have hlo := lower_walk (c.toNat : Int)
   rcases hways with ⟨g1, g2, g3⟩ | ⟨v, g1, g2, g3, g4, g5, g6⟩
   ·subst g3
    go_wp2
    go_round
    case rel => exact ⟨k + 1, acc * 16 + (c.toNat - 48), a * 16 + ((c.toNat : Int) - 48), rfl, by congr 1 <;> omega, by go_num, by omega, by omega, by omega, by have := hh.out.1; omega, hnx.out⟩
    case measure => simp [intOf]; omega
   ·rw [g1] at hlo
    subst g2
    have hus : ((c.toNat : Int) == 95) = false := by simp; omega
    clear g1 g6
    go_wp2_with (go_at_call 280; refine (hlo _).mono ?_; rintro e w' ⟨rfl, rfl⟩)
    go_round
    case rel => exact ⟨k + 1, acc * 16 + d, a * 16 + (d : Int), rfl, by congr 1 <;> omega, by go_num, by omega, by omega, by omega, by have := hh.out.1; omega, hnx.out⟩
    case measure => simp [intOf]; omega
  ·obtain rfl : k = l.length := by omega
   have hfin : Hid (a = (n : Int)) := by
    have h2 := hh.out.2
    rw [List.take_length, Hn.out] at h2
    injection h2 with h2
    show _ = _
    rw [hh.out.1, h2]
   go_wp2
   go_ret2
   exact ⟨by rw [hfin.out]; rfl, hbw⟩
def T8 (w : World) : Prop := Lib.Utf8Tabs 4 5 w
theorem T8.below {w w' : World} (h : T8 w) (hb : Below w.heap.size w w') : T8 w' := by
 refine ⟨fun c hc => ?_, fun i hi => ?_⟩
 ·have h1 := h.1 c hc
  exact (hb.cell (p := ⟨4, c, none⟩) (World.block_lt_of_cell? w ⟨4, c, none⟩ h1)).trans h1
 ·obtain ⟨h1, h2⟩ := h.2 i hi
  exact ⟨(hb.cell (p := ⟨5, 2 * i, none⟩) (World.block_lt_of_cell? w ⟨5, 2 * i, none⟩ h1)).trans h1,
   (hb.cell (p := ⟨5, 2 * i + 1, none⟩) (World.block_lt_of_cell? w ⟨5, 2 * i + 1, none⟩ h2)).trans h2⟩
theorem dec_walk (l : Bs) (hl : l ≠ []) (w : World) (hT : T8 w) :
  Calls Tryz.prog 155 #[.string ⟨l.toArray⟩] w fun e w' => e = .returned (.tuple #[.int .i32 (dec l).1, .int .i64 (dec l).2]) ∧ Below w.heap.size w w' := by
 have h := Tryz.utf8_DecodeRuneInString ⟨l.toArray⟩ w hT
 have h0 : 0 < (⟨l.toArray⟩ : ByteArray).size := by rw [mk_size]; exact List.length_pos_iff.2 hl
 have h1 := decodeGo_tail ⟨l.toArray⟩ 0 h0
 rw [ByteArray.extract_zero_size, decode_eq, List.drop_zero] at h1
 rw [h1] at h
 exact h
theorem ext_drop (s : Bs) (i : Nat) : Value.string ((⟨s.toArray⟩ : ByteArray).extract i s.length) = .string ⟨(s.drop i).toArray⟩ := by
 have := ext_str s i s.length
 rw [List.take_length] at this
 exact this
set_option maxHeartbeats 1000000 in
set_option maxRecDepth 100000 in
theorem run_walk (s : Bs) (F : Nat) (p : Nat → Bool) (hE : ∀ args w, (callFunc F args).run Tryz.prog w = .ok (.enter F args) w) (hF : ∀ (c : Nat) (w : World), Calls Tryz.prog F #[.int .i32 c] w fun e w' => e = .returned (.bool (p c)) ∧ w = w') (w : World) (hT : T8 w) (hl : s.length ≤ 100000000) :
  Calls Tryz.prog 187 #[.string ⟨s.toArray⟩, .func (.func F) #[] #[]] w fun e w' => e = .returned (.int .i64 (Lx.run p s)) ∧ Below w.heap.size w w' := by
 generalize hR : Lx.run p s = R
 have HR := Lib.hid hR
 clear hR
 go_enter Tryz.func187, Tryz.ntmps187
 go_wp2_with fail
 go_loopw [5] (fun i wr => ∃ k : Nat, i = .int .i64 k ∧ k ≤ s.length ∧ Below w.heap.size w wr ∧ Hid (R = k + Lx.run p (s.drop k))) (fun i _ => s.length - (intOf i).toNat)
 case atStart => exact ⟨0, rfl, Nat.zero_le _, Below.refl _ _, by show _ = _; rw [← HR.out]; simp⟩
 case round =>
  obtain ⟨k, rfl, hk, hb, H⟩ := hrel
  have hbs := hb.size
  by_cases hlt : k < s.length
  ·have hne : s.drop k ≠ [] := by intro e; have := congrArg List.length e; simp at this; omega
   have i1 : (0 : Int) ≤ (k : Int) := by omega
   have i2 : (k : Int) ≤ (s.length : Int) := by omega
   have hd := dec_walk (s.drop k) hne wr (hT.below hb)
   have hsz := dec_size (s.drop k)
   have hle := dec_le (s.drop k) hne
   rw [List.length_drop] at hle
   rw [← ext_drop] at hd
   have Hgo : Hid (p (dec (s.drop k)).1 = true → R = (k + (dec (s.drop k)).2 : Nat) + Lx.run p (s.drop (k + (dec (s.drop k)).2))) := fun hp => by
    rw [H.out, Lx.run_go p hne hp, List.drop_drop]; omega
   have Hstop : Hid (p (dec (s.drop k)).1 = false → R = k) := fun hp => by rw [H.out, Lx.run_stop p hp]; rfl
   have hF1 := hF (dec (s.drop k)).1
   have h1 := hsz.1
   generalize dec (s.drop k) = D at *
   obtain ⟨c, z⟩ := D
   simp only at hd hF1 h1 hle Hgo Hstop
   clear hsz hne hF
   cases hp : p c with
   | true =>
    rw [hp] at hF1
    have Hg := Lib.hid (Hgo.out hp)
    clear Hgo Hstop hp H
    go_wp2_with fail
    refine hd.mono ?_
    clear hd
    rintro e w2 ⟨rfl, hb2⟩
    go_wp2_with fail
    refine (hF1 _).mono ?_
    clear hF1
    rintro e w' ⟨rfl, rfl⟩
    go_wp2_with fail
    go_roundw
    case rel => exact ⟨k + z, by go_num, by omega, hb.trans (hb2.mono hbs), Hg.out⟩
    case measure => simp [intOf]; omega
   | false =>
    rw [hp] at hF1
    have Hs := Lib.hid (Hstop.out hp)
    clear Hgo Hstop hp H
    go_wp2_with fail
    refine hd.mono ?_
    clear hd
    rintro e w2 ⟨rfl, hb2⟩
    go_wp2_with fail
    refine (hF1 _).mono ?_
    clear hF1
    rintro e w' ⟨rfl, rfl⟩
    go_wp2_with fail
    go_ret
    exact ⟨by rw [Hs.out]; rfl, hb.trans (hb2.mono hbs)⟩
  ·obtain rfl : k = s.length := by omega
   have Hs : Hid (R = s.length) := by show _ = _; rw [H.out, List.drop_length]; rfl
   go_wp2_with fail
   go_ret
   exact ⟨by rw [Hs.out]; rfl, hb⟩
end Go.Proofs.YtcjjfeephaddcaaGreatDoor
namespace Go.Proofs.YtcjjfeephaddcaaGreatDoor.Wire
open Go.Lib
def crlf : List UInt8 := [13, 10]
def hd : List UInt8 := [67, 111, 110, 116, 101, 110, 116, 45, 76, 101, 110, 103, 116, 104]
def hdc : List UInt8 := [67, 111, 110, 116, 101, 110, 116, 45, 76, 101, 110, 103, 116, 104, 58, 32]
def dgs : List UInt8 := [48, 49, 50, 51, 52, 53, 54, 55, 56, 57]
def frameL (b : List UInt8) : List UInt8 := hdc ++ itoa b.length ++ crlf ++ crlf ++ b
def flat (bs : List (List UInt8)) : List UInt8 := (bs.map frameL).flatten
structure RS where
 rest : List UInt8
 len : Int
 body : Bool
 err : Int
def lenB (s : List UInt8) : Bool :=
 hasPrefix s hdc && (decide (1 ≤ (s.drop 16).length) && (decide ((s.drop 16).length ≤ 10) && (trimS (s.drop 16) dgs).isEmpty))
def valD (l : List UInt8) : Int := ((decFrom 0 l).getD 0 : Nat)
def lineM (s : List UInt8) (r : RS) : RS :=
 if 1000 < s.length then { r with err := 12 }
 else if s.isEmpty then { r with body := true, err := if r.len < 0 then 3 else 0 }
 else if lenB s then { r with len := valD (s.drop 16), err := 0 }
 else if (cut s [58]).2.2 = false ∨ (cut s [58]).1 = hd then { r with err := 3 }
 else { r with err := 0 }
def stepM (r : RS) : RS × Option (List UInt8) × Bool :=
 if r.body then
  if (r.rest.length : Int) < r.len then (r, none, false)
  else ({ r with rest := r.rest.drop r.len.toNat, body := false, len := -1 }, some (r.rest.take r.len.toNat), true)
 else if (cut r.rest crlf).2.2 = false then
  ({ r with err := if 1000 < (trimSuffix r.rest [13]).length then 12 else r.err }, none, false)
 else (lineM (cut r.rest crlf).1 { r with rest := (cut r.rest crlf).2.1 }, none, (lineM (cut r.rest crlf).1 { r with rest := (cut r.rest crlf).2.1 }).err == 0)
def RS.good (r : RS) : Prop := -1 ≤ r.len ∧ r.len ≤ 9999999999 ∧ (r.body = true → 0 ≤ r.len)
theorem nDigits_le : ∀ (k u : Nat), 1 ≤ k → u < 10 ^ k → nDigits u ≤ k
 | 0, _, h, _ => by omega
 | k + 1, u, _, h => by
  rw [nDigits]
  split
  ·omega
  ·rename_i h1
   by_cases hk : k = 0
   ·subst hk; omega
   ·have := nDigits_le k (u / 10) (by omega) (by rw [Nat.pow_succ] at h; omega)
    omega
theorem itoa_nat (n : Nat) : itoa (n : Int) = decDigits n := by unfold itoa; rw [if_neg (by omega)]; simp
inductive Ph (bs : List (List UInt8)) (r : RS) (U : List UInt8) : Prop
 | a (hb : r.body = false) (hl : r.len = -1) (h : r.rest ++ U = flat bs) : Ph bs r U
 | b (x : List UInt8) (t : List (List UInt8)) (e : bs = x :: t) (hb : r.body = false) (hl : r.len = (x.length : Nat)) (h : r.rest ++ U = 13 :: 10 :: x ++ flat t) : Ph bs r U
 | c (x : List UInt8) (t : List (List UInt8)) (e : bs = x :: t) (hb : r.body = true) (hl : r.len = (x.length : Nat)) (h : r.rest ++ U = x ++ flat t) : Ph bs r U
def r0 : RS := ⟨[], -1, false, 0⟩
theorem frame_len (b : List UInt8) (h : b.length < 1000000000) : (frameL b).length ≤ b.length + 29 := by
 have h1 := nDigits_le 9 b.length (by omega) (by simpa using h)
 have h2 := decDigits_length b.length
 simp only [frameL, itoa_nat, List.length_append, crlf, List.length_cons, List.length_nil]
 have : hdc.length = 16 := rfl
 omega
theorem flat_len (bs : List (List UInt8)) (hs : ∀ b ∈ bs, b.length < 1000000000) : (flat bs).length ≤ (bs.map List.length).sum + 29 * bs.length := by
 induction bs with
 | nil => simp [flat]
 | cons b t ih =>
  have h1 := frame_len b (hs b (by simp))
  have h2 := ih fun x hx => hs x (by simp [hx])
  simp only [flat, List.map_cons, List.flatten_cons, List.length_append, List.sum_cons, List.length_cons] at *
  omega
end Go.Proofs.YtcjjfeephaddcaaGreatDoor.Wire
namespace Go.Proofs.YtcjjfeephaddcaaGreatDoor
open Go.RowKit
open Go.Lib (itoa decDigits_length)
def MaxL (w : World) (m : Int) : Prop := w.cell? ⟨2, 0, none⟩ = some (.int .i64 m)
theorem MaxL.lt {w : World} {m : Int} (h : MaxL w m) : 2 < w.heap.size := World.block_lt_of_cell? w ⟨2, 0, none⟩ h
theorem MaxL.below {w w' : World} {B : Nat} {m : Int} (h : MaxL w m) (hb : Below B w w') (hB : 2 < B) : MaxL w' m := (hb.cell (p := ⟨2, 0, none⟩) hB).trans h
def Tab10 (w : World) : Prop := Lib.TabIs Tryz.prog w "internal/strconv.uint64pow10" .u64 Lib.pow10Tab
theorem g10 : Tryz.prog.globalNamed "internal/strconv.uint64pow10" = some 8 := by kernel_rfl
theorem Tab10.below {w w' : World} {B : Nat} (h : Tab10 w) (hb : Below B w w') (hB : 8 < B) : Tab10 w' := by
 unfold Tab10 Lib.TabIs World.var? at h ⊢
 rw [g10] at h ⊢
 simp only [Option.bind_some] at h ⊢
 rw [hb.block _ hB]; exact h
end Go.Proofs.YtcjjfeephaddcaaGreatDoor
namespace Go.Proofs.YtcjjfeephaddcaaGreatDoor
open Go.RowKit
def Oth1 (p : Nat) (w w' : World) : Prop := ∀ b, b < w.heap.size → b ≠ p → w'.heap[b]? = w.heap[b]?
theorem Oth1.trans {p : Nat} {w w1 w2 : World} (h : Oth1 p w w1) (h' : Oth1 p w1 w2) (hs : w.heap.size ≤ w1.heap.size) : Oth1 p w w2 := fun b hb hn => (h' b (by omega) hn).trans (h b hb hn)
theorem Oth1.set {p : Nat} (w : World) (j : Nat) (u : Value) : Oth1 p w (w.setCell ⟨p, j, none⟩ u) := fun b _ hn => Below.heap_setCell w ⟨p, j, none⟩ u b hn
theorem Oth1.below {p : Nat} {w w' : World} (h : Below w.heap.size w w') : Oth1 p w w' := fun b hb _ => h.block b hb
theorem Oth1.refl (p : Nat) (w : World) : Oth1 p w w := fun _ _ _ => rfl
end Go.Proofs.YtcjjfeephaddcaaGreatDoor
namespace Go.Proofs.YtcjjfeephaddcaaGreatDoor.Lx
open Go.Lib
theorem occ1 (c : UInt8) (s : List UInt8) (i : Nat) : occAt s [c] i = true ↔ s[i]? = some c := by
 unfold occAt
 have h0 : (s.drop i)[0]? = s[i]? := by rw [List.getElem?_drop]; rfl
 rcases h : s.drop i with _ | ⟨a, t⟩
 ·rw [h] at h0; simp only [List.getElem?_nil] at h0; rw [← h0]; simp [List.isPrefixOf]
 ·rw [h] at h0
  simp only [List.getElem?_cons_zero] at h0
  rw [← h0]
  simp [List.isPrefixOf]
  exact ⟨fun h => h.symm, fun h => h.symm⟩
theorem tw_before (c : UInt8) : ∀ (l : List UInt8) (k : Nat), k < (l.takeWhile (· != c)).length → ∃ b, l[k]? = some b ∧ b ≠ c
 | [], k, h => by simp at h
 | a :: t, k, h => by
  by_cases ha : a = c
  ·subst ha; simp at h
  ·have h1 : (a != c) = true := by simp [ha]
   rw [List.takeWhile_cons, if_pos h1, List.length_cons] at h
   cases k with
   | zero => exact ⟨a, rfl, ha⟩
   | succ k =>
    obtain ⟨b, hb, hn⟩ := tw_before c t k (by omega)
    exact ⟨b, by simpa using hb, hn⟩
theorem tw_at (c : UInt8) : ∀ (l : List UInt8), c ∈ l → l[(l.takeWhile (· != c)).length]? = some c
 | [], h => by simp at h
 | a :: t, h => by
  by_cases ha : a = c
  ·subst ha; simp
  ·have h1 : (a != c) = true := by simp [ha]
   rw [List.takeWhile_cons, if_pos h1, List.length_cons]
   have := tw_at c t ((List.mem_cons.1 h).resolve_left fun e => ha e.symm)
   simpa using this
theorem tw_take (c : UInt8) (l : List UInt8) : l.take (l.takeWhile (· != c)).length = l.takeWhile (· != c) := by
 conv => lhs; rw [← List.takeWhile_append_dropWhile (p := (· != c)) (l := l)]
 rw [List.take_append_of_le_length (by simp), List.take_of_length_le (by simp)]
theorem tw_all (c : UInt8) : ∀ (l : List UInt8), c ∉ l → l.takeWhile (· != c) = l
 | [], _ => rfl
 | a :: t, h => by
  rw [List.mem_cons, not_or] at h
  have h1 : (a != c) = true := by simp; exact fun e => h.1 e.symm
  rw [List.takeWhile_cons, if_pos h1, tw_all c t h.2]
theorem cut_byte (c : UInt8) (l : List UInt8) : (cut l [c]).1 = l.takeWhile (· != c) ∧ (cut l [c]).2.2 = decide (c ∈ l) := by
 by_cases h : c ∈ l
 ·have hlen : (l.takeWhile (· != c)).length ≤ l.length := (List.takeWhile_sublist _).length_le
  have hi : index l [c] = ((l.takeWhile (· != c)).length : Nat) := index_first hlen ((occ1 c _ _).2 (tw_at c l h)) fun j hj => by
   cases ho : occAt l [c] j with
   | false => rfl
   | true =>
    obtain ⟨b, hb, hn⟩ := tw_before c l j hj
    rw [(occ1 c _ _).1 ho] at hb
    injection hb with hb
    exact absurd hb.symm hn
  unfold cut
  rw [hi, if_pos (by omega), decide_eq_true h]
  exact ⟨tw_take c l, rfl⟩
 ·have hi : index l [c] = -1 := index_none fun j _ => by
   cases ho : occAt l [c] j with
   | false => rfl
   | true => exact absurd (List.mem_of_getElem? ((occ1 c _ _).1 ho)) h
  have hw : l.takeWhile (· != c) = l := tw_all c l h
  unfold cut
  rw [hi, hw, decide_eq_false h]
  exact ⟨rfl, rfl⟩
def hexs : List UInt8 := [48, 49, 50, 51, 52, 53, 54, 55, 56, 57, 97, 98, 99, 100, 101, 102, 65, 66, 67, 68, 69, 70]
theorem hexs_fin : ∀ i : Fin 256, hexs.contains (UInt8.ofNat i.val) = (hexV (UInt8.ofNat i.val)).isSome := by decide +kernel
theorem hexs_iff (b : UInt8) : hexs.contains b = (hexV b).isSome := by
 have := hexs_fin ⟨b.toNat, b.toNat_lt⟩
 simpa using this
theorem drop_nil (l cs : List UInt8) (h : l.dropWhile (cs.contains ·) = []) : ∀ b ∈ l, cs.contains b = true := by
 induction l with
 | nil => intro b hb; simp at hb
 | cons a t ih =>
  rw [List.dropWhile_cons] at h
  split at h
  ·rename_i ha
   intro b hb
   rcases List.mem_cons.1 hb with rfl | hb
   ·exact ha
   ·exact ih h b hb
  ·cases h
theorem drop_head (l cs : List UInt8) : ∀ a t, l.dropWhile (cs.contains ·) = a :: t → cs.contains a = false := by
 induction l with
 | nil => intro a t h; simp at h
 | cons x l ih =>
  intro a t h
  rw [List.dropWhile_cons] at h
  split at h
  ·exact ih a t h
  ·rename_i hx
   injection h with h1 _
   subst h1
   simpa using hx
theorem trim_nil (l cs : List UInt8) (h : trimS l cs = []) : ∀ b ∈ l, cs.contains b = true := by
 unfold trimS trimLeftS at h
 have h1 := drop_nil _ _ h
 unfold trimRightS at h1
 cases hd : l.reverse.dropWhile (cs.contains ·) with
 | nil =>
  intro b hb
  exact drop_nil _ _ hd b (List.mem_reverse.2 hb)
 | cons a t =>
  have h2 := drop_head _ _ a t hd
  rw [hd] at h1
  have h3 := h1 a (List.mem_reverse.2 (by simp))
  rw [h2] at h3; cases h3
theorem trim_all (l cs : List UInt8) (h : ∀ b ∈ l, cs.contains b = true) : trimS l cs = [] := by
 have h1 : trimRightS l cs = l.take 0 := trimRightS_take _ _ 0 (Nat.zero_le _) (fun j b _ hb => h b (List.mem_of_getElem? hb)) (fun b h => by omega)
 unfold trimS
 rw [h1]; rfl
theorem hexN_of_all : ∀ (l : List UInt8) (a : Nat), (∀ b ∈ l, ∃ d, hexV b = some d) → ∃ n, hexN a l = some n
 | [], a, _ => ⟨a, rfl⟩
 | b :: t, a, h => by
  obtain ⟨d, hd⟩ := h b (by simp)
  obtain ⟨n, hn⟩ := hexN_of_all t (a * 16 + d) fun x hx => h x (by simp [hx])
  exact ⟨n, by simp only [hexN, hd]; exact hn⟩
theorem hexN_lt : ∀ (t : List UInt8) (a m : Nat), hexN a t = some m → m < (a + 1) * 16 ^ t.length := by
 intro t
 induction t with
 | nil => intro a m h; simp only [hexN] at h; injection h with h; subst h; simp
 | cons b t ih =>
  intro a m h
  simp only [hexN] at h
  cases hb : hexV b with
  | none => rw [hb] at h; simp at h
  | some x =>
   rw [hb] at h
   have h3 := ih _ _ h
   have h4 := (hex_no b x hb).2.2.2.2
   have h5 : (a * 16 + x + 1) * 16 ^ t.length ≤ (a + 1) * 16 * 16 ^ t.length := Nat.mul_le_mul_right _ (by omega)
   rw [List.length_cons, Nat.pow_succ, Nat.mul_comm (16 ^ t.length) 16, ← Nat.mul_assoc]
   omega
theorem hex_way (D : List UInt8) : (trimS D hexs = [] ∧ (∀ b ∈ D, ∃ d, hexV b = some d) ∧ ∃ n, hexN 0 D = some n) ∨ (trimS D hexs ≠ [] ∧ hexN 0 D = none) := by
 by_cases h : trimS D hexs = []
 ·have h1 : ∀ b ∈ D, ∃ d, hexV b = some d := fun b hb => by
   have := trim_nil D hexs h b hb
   rw [hexs_iff] at this
   exact Option.isSome_iff_exists.1 this
  exact .inl ⟨h, h1, hexN_of_all D 0 h1⟩
 ·refine .inr ⟨h, ?_⟩
  cases hn : hexN 0 D with
  | none => rfl
  | some n =>
   exfalso
   apply h
   refine trim_all D hexs fun b hb => ?_
   obtain ⟨d, hd⟩ := hexN_all D 0 n hn b hb
   rw [hexs_iff, hd]; rfl
theorem ix_sign (b : UInt8) : (decide (0 ≤ indexByte signs b)) = signs.contains b := by
 have h : ∀ i : Fin 256, (decide (0 ≤ indexByte signs (UInt8.ofNat i.val))) = signs.contains (UInt8.ofNat i.val) := by decide +kernel
 have := h ⟨b.toNat, b.toNat_lt⟩
 simpa using this
end Go.Proofs.YtcjjfeephaddcaaGreatDoor.Lx
namespace Go.Proofs.YtcjjfeephaddcaaGreatDoor
open Go.RowKit
set_option maxHeartbeats 2000000 in
set_option maxRecDepth 100000 in
theorem hexint0_walk (l : Bs) (w : World) (h1 : 1 ≤ l.length) (h6 : l.length ≤ 6) (hall : ∀ b ∈ l, ∃ d, Lx.hexV b = some d) (n : Nat) (hn : Lx.hexN 0 l = some n) (hlt : (n : Int) < 16777216) :
  Calls Tryz.prog 265 #[.string ⟨l.toArray⟩, .int .i64 16, .int .i64 32] w fun e w' => e = .returned (.tuple #[.int .i64 n, .nilIface]) ∧ Below w.heap.size w w' := by
 have hU := hexuint_walk l w h1 h6 hall n hn
 have hne : (l == []) = false := by cases l <;> simp at h1 ⊢
 have h0 : 0 < l.length := by omega
 obtain ⟨d, hd⟩ := hall l[0] (List.getElem_mem h0)
 have hw := hex_ways l[0] d hd
 have f1 : ((((⟨l.toArray⟩ : ByteArray)[0]'(by rw [mk_size]; exact h0)).toNat : Int) == 43) = false := by
  rw [show ((⟨l.toArray⟩ : ByteArray)[0]'(by rw [mk_size]; exact h0)).toNat = l[0].toNat from rfl]
  simp; rcases hw with h | ⟨v, _, _, _, _, h, _⟩ <;> omega
 have f2 : ((((⟨l.toArray⟩ : ByteArray)[0]'(by rw [mk_size]; exact h0)).toNat : Int) == 45) = false := by
  rw [show ((⟨l.toArray⟩ : ByteArray)[0]'(by rw [mk_size]; exact h0)).toNat = l[0].toNat from rfl]
  simp; rcases hw with h | ⟨v, _, _, _, _, h, _⟩ <;> omega
 have hcv : IntKind.u64.wrap 2147483648 = 2147483648 := by rw [IntKind.wrap_u64]; decide
 obtain ⟨a, ha⟩ : ∃ a : Int, a = (n : Int) := ⟨_, rfl⟩
 have a0 : 0 ≤ a := by omega
 have a1 : a < 16777216 := by omega
 rw [← ha] at hU ⊢
 clear hw hd hall hn hlt ha
 go_enter Tryz.func265, Tryz.ntmps265
 go_wp2_with fail
 refine hU.mono ?_
 clear hU
 rintro e w' ⟨rfl, hb⟩
 go_wp2_with fail
 go_ret2
 exact ⟨rfl, hb⟩
set_option maxRecDepth 100000 in
theorem hexint_walk (l : Bs) (w : World) (h1 : 1 ≤ l.length) (h6 : l.length ≤ 6) (hall : ∀ b ∈ l, ∃ d, Lx.hexV b = some d) (n : Nat) (hn : Lx.hexN 0 l = some n) (hlt : (n : Int) < 16777216) :
  Calls Tryz.prog 252 #[.string ⟨l.toArray⟩, .int .i64 16, .int .i64 32] w fun e w' => e = .returned (.tuple #[.int .i64 n, .nilIface]) ∧ Below w.heap.size w w' := by
 have hU := hexint0_walk l w h1 h6 hall n hn hlt
 obtain ⟨a, ha⟩ : ∃ a : Int, a = (n : Int) := ⟨_, rfl⟩
 rw [← ha] at hU ⊢
 clear hall hn hlt ha
 go_enter Tryz.func252, Tryz.ntmps252
 go_wp2_with fail
 refine hU.mono ?_
 clear hU
 rintro e w' ⟨rfl, hb⟩
 go_wp2_with fail
 go_ret2
 exact ⟨rfl, hb⟩
def codeV : Option (Nat × Nat) → Value
 | some (c, n) => .tuple #[.int .i32 c, .int .i64 n]
 | none => .tuple #[.int .i32 0, .int .i64 0]
theorem htrim_walk (s : Bs) (w : World) (hs : s.length ≤ 100000000) : Calls Tryz.prog 251 #[.string ⟨s.toArray⟩, .string ⟨#[48, 49, 50, 51, 52, 53, 54, 55, 56, 57, 97, 98, 99, 100, 101, 102, 65, 66, 67, 68, 69, 70]⟩] w fun e w' => e = .returned (.string ⟨(Lib.trimS s Lx.hexs).toArray⟩) ∧ Below w.heap.size w w' :=
 Any.strings_Trim_laid Tryz.lays160 (by kernel_rfl) ⟨s.toArray⟩ ⟨#[48, 49, 50, 51, 52, 53, 54, 55, 56, 57, 97, 98, 99, 100, 101, 102, 65, 66, 67, 68, 69, 70]⟩ w (by rw [mk_size]; omega) (by decide) (ascii_of_all (by decide))
theorem cut_walk1 (c : UInt8) (s : Bs) (m : Int) (w : World) (hM : MaxL w m) (hs : s.length ≤ 100000000) : Calls Tryz.prog 188 #[.string ⟨s.toArray⟩, .string ⟨#[c]⟩] w fun e w' => e = .returned (.tuple #[.string ⟨(s.takeWhile (· != c)).toArray⟩, .string ⟨(Lib.cut s [c]).2.1.toArray⟩, .bool (decide (c ∈ s))]) ∧ ∃ n, w' = w.drewN n := by
 have h := Tryz.strings_Cut ⟨s.toArray⟩ ⟨#[c]⟩ m w (by rw [mk_size]; omega) hM
 have h1 := (Lx.cut_byte c s).1
 have h2 := (Lx.cut_byte c s).2
 rw [show (⟨s.toArray⟩ : ByteArray).data.toList = s from rfl, show (⟨#[c]⟩ : ByteArray).data.toList = [c] from rfl, h1, h2] at h
 exact h
theorem pre_walk (s p : Bs) (w : World) : Calls Tryz.prog 181 #[.string ⟨s.toArray⟩, .string ⟨p.toArray⟩] w fun e w' => e = .returned (.bool (p.isPrefixOf s)) ∧ w' = w :=
 Tryz.strings_HasPrefix ⟨s.toArray⟩ ⟨p.toArray⟩ w
theorem six_lt (D : Bs) (n : Nat) (h : Lx.hexN 0 D = some n) (h6 : D.length ≤ 6) : (n : Int) < 16777216 := by
 have hn := Lx.hexN_lt D 0 n h
 have h5 : 16 ^ D.length ≤ 16 ^ 6 := Nat.pow_le_pow_right (by omega) h6
 have h7 : (16 : Nat) ^ 6 = 16777216 := by decide
 rw [h7] at h5
 omega
set_option maxHeartbeats 1000000 in
set_option maxRecDepth 100000 in
theorem code_walk (l : Bs) (m : Int) (w : World) (hM : MaxL w m) (hl : l.length ≤ 100000000) :
  Calls Tryz.prog 243 #[.string ⟨l.toArray⟩] w fun e w' => e = .returned (codeV (Lx.codeM l)) ∧ Below w.heap.size w w' := by
 have hP : Calls Tryz.prog 181 #[.string ⟨l.toArray⟩, .string ⟨#[123]⟩] w fun e w' => e = .returned (.bool ([123].isPrefixOf l)) ∧ w' = w := pre_walk l [123] w
 generalize hC : Lx.codeM l = C
 have HC := Lib.hid hC
 clear hC
 cases hp : [(123 : UInt8)].isPrefixOf l with
 | false =>
  have hN : Hid (C = none) := by
   show _ = _
   rw [← HC.out]
   refine Lx.code_no l fun h => ?_
   cases l with
   | nil => simp at h
   | cons a t => simp at h; subst h; simp [List.isPrefixOf] at hp
  rw [hp] at hP
  clear hp HC
  go_enter Tryz.func243, Tryz.ntmps243
  go_wp2_with fail
  refine hP.mono ?_
  rintro e w' ⟨rfl, rfl⟩
  go_wp2_with fail
  go_ret2
  rw [hN.out]
  exact ⟨rfl, Below.refl _ _⟩
 | true =>
  rw [hp] at hP
  obtain ⟨r, rfl⟩ : ∃ r, l = 123 :: r := by
   cases l with
   | nil => simp [List.isPrefixOf] at hp
   | cons a t => simp [List.isPrefixOf] at hp; exact ⟨t, by rw [hp]⟩
  have hlen : (123 :: r).length = r.length + 1 := rfl
  have hcut := cut_walk1 125 r m w hM (by omega)
  have hex := ext_drop (123 :: r) 1
  rw [show List.drop 1 (123 :: r) = r from rfl] at hex
  rw [← hex] at hcut
  have hge : 1 ≤ (123 :: r).length := by omega
  have Hlen := Lib.hid hlen
  have hdl : (r.takeWhile (· != 125)).length ≤ r.length := (List.takeWhile_sublist _).length_le
  have HCe : Hid (C = if ¬ ((125 : UInt8) ∈ r) then none else if (r.takeWhile (· != 125)).length < 1 ∨ 6 < (r.takeWhile (· != 125)).length then none else match Lx.hexN 0 (r.takeWhile (· != 125)) with | none => none | some n => if n > 1114111 ∨ (55296 ≤ n ∧ n ≤ 57343) then none else some (n, (r.takeWhile (· != 125)).length + 2)) := by
   show _ = _
   rw [← HC.out]
   rfl
  have hway := Lx.hex_way (r.takeWhile (· != 125))
  have htr := fun w => htrim_walk (r.takeWhile (· != 125)) w (by omega)
  have hpi := fun w => hexint_walk (r.takeWhile (· != 125)) w
  generalize hL : (123 :: r : Bs) = L at *
  generalize r.takeWhile (· != 125) = D at *
  generalize (Lib.cut r [125]).2.1 = Y at *
  have Hex := Lib.hid hex
  clear hp hex HC hlen
  by_cases hf : (125 : UInt8) ∈ r
  ·have H1 := HCe.out
   rw [if_neg (by simpa using hf)] at H1
   rw [decide_eq_true hf] at hcut
   clear HCe hf
   by_cases h1 : D.length < 1
   ·have hN : Hid (C = none) := by show _ = _; rw [H1, if_pos (.inl h1)]
    have h1' : D.length = 0 := by omega
    clear H1 hway htr hpi
    go_enter Tryz.func243, Tryz.ntmps243
    go_wp2_with fail
    refine hP.mono ?_
    rintro e w' ⟨rfl, rfl⟩
    go_wp2_with fail
    refine hcut.mono ?_
    rintro e w2 ⟨rfl, n, rfl⟩
    go_wp2_with fail
    go_ret2
    rw [hN.out]
    exact ⟨rfl, below_drewN (Below.refl _ _) n⟩
   ·by_cases h6 : 6 < D.length
    ·have hN : Hid (C = none) := by show _ = _; rw [H1, if_pos (.inr h6)]
     clear H1 hway htr hpi
     go_enter Tryz.func243, Tryz.ntmps243
     go_wp2_with fail
     refine hP.mono ?_
     rintro e w' ⟨rfl, rfl⟩
     go_wp2_with fail
     refine hcut.mono ?_
     rintro e w2 ⟨rfl, n, rfl⟩
     go_wp2_with fail
     go_ret2
     rw [hN.out]
     exact ⟨rfl, below_drewN (Below.refl _ _) n⟩
    ·rw [if_neg (by omega)] at H1
     rcases hway with ⟨g1, g2, n, g3⟩ | ⟨g1, g2⟩
     ·rw [g3] at H1
      have hnI : (n : Int) < 16777216 := six_lt D n g3 (by omega)
      have hi := fun w => hpi w (by omega) (by omega) g2 n g3 hnI
      have H2 : Hid (C = if n > 1114111 ∨ (55296 ≤ n ∧ n ≤ 57343) then none else some (n, D.length + 2)) := H1
      rw [g1] at htr
      clear H1 hpi g1 g2 g3
      obtain ⟨a, ha⟩ : ∃ a : Int, a = (n : Int) := ⟨_, rfl⟩
      rw [← ha] at hi hnI
      have a0 : 0 ≤ a := by omega
      have Ha := Lib.hid ha
      have hcase : (1114111 < a) ∨ (¬ 1114111 < a ∧ 55296 ≤ a ∧ a ≤ 57343) ∨ (¬ 1114111 < a ∧ ¬ 55296 ≤ a) ∨ (¬ 1114111 < a ∧ 55296 ≤ a ∧ ¬ a ≤ 57343) := by omega
      clear ha
      rcases hcase with q | ⟨q, q2, q3⟩ | ⟨q, q2⟩ | ⟨q, q2, q3⟩
      ·have hN : Hid (C = none) := by show _ = _; rw [H2.out, if_pos (by have := Ha.out; omega)]
       clear H2
       go_enter Tryz.func243, Tryz.ntmps243
       go_wp2_with fail
       refine hP.mono ?_
       rintro e w' ⟨rfl, rfl⟩
       go_wp2_with fail
       refine hcut.mono ?_
       rintro e w2 ⟨rfl, k, rfl⟩
       go_wp2_with fail
       refine (htr _).mono ?_
       rintro e w3 ⟨rfl, hb3⟩
       go_wp2_with fail
       refine (hi _).mono ?_
       rintro e w4 ⟨rfl, hb4⟩
       go_wp2_with fail
       go_ret2
       rw [hN.out]
       exact ⟨rfl, (below_drewN (Below.refl _ _) k).trans (hb3.trans (hb4.mono hb3.size))⟩
      ·have hN : Hid (C = none) := by show _ = _; rw [H2.out, if_pos (by have := Ha.out; omega)]
       clear H2
       go_enter Tryz.func243, Tryz.ntmps243
       go_wp2_with fail
       refine hP.mono ?_
       rintro e w' ⟨rfl, rfl⟩
       go_wp2_with fail
       refine hcut.mono ?_
       rintro e w2 ⟨rfl, k, rfl⟩
       go_wp2_with fail
       refine (htr _).mono ?_
       rintro e w3 ⟨rfl, hb3⟩
       go_wp2_with fail
       refine (hi _).mono ?_
       rintro e w4 ⟨rfl, hb4⟩
       go_wp2_with fail
       go_ret2
       rw [hN.out]
       exact ⟨rfl, (below_drewN (Below.refl _ _) k).trans (hb3.trans (hb4.mono hb3.size))⟩
      all_goals
       have hN : Hid (C = some (n, D.length + 2)) := by show _ = _; rw [H2.out, if_neg (by have := Ha.out; omega)]
       clear H2
       go_enter Tryz.func243, Tryz.ntmps243
       go_wp2_with fail
       refine hP.mono ?_
       rintro e w' ⟨rfl, rfl⟩
       go_wp2_with fail
       refine hcut.mono ?_
       rintro e w2 ⟨rfl, k, rfl⟩
       go_wp2_with fail
       refine (htr _).mono ?_
       rintro e w3 ⟨rfl, hb3⟩
       go_wp2_with fail
       refine (hi _).mono ?_
       rintro e w4 ⟨rfl, hb4⟩
       go_wp2_with fail
       go_ret2
       rw [hN.out]
       exact ⟨by show _ = Ending.returned (.tuple #[.int .i32 (n : Int), .int .i64 ((D.length + 2 : Nat) : Int)]); rw [← Ha.out]; rfl, (below_drewN (Below.refl _ _) k).trans (hb3.trans (hb4.mono hb3.size))⟩
     ·rw [g2] at H1
      have hN : Hid (C = none) := H1
      have g1' : (Lib.trimS D Lx.hexs == []) = false := by simpa using g1
      clear H1 hpi g1 g2
      generalize Lib.trimS D Lx.hexs = TT at *
      go_enter Tryz.func243, Tryz.ntmps243
      go_wp2_with fail
      refine hP.mono ?_
      rintro e w' ⟨rfl, rfl⟩
      go_wp2_with fail
      refine hcut.mono ?_
      rintro e w2 ⟨rfl, k, rfl⟩
      go_wp2_with fail
      refine (htr _).mono ?_
      rintro e w3 ⟨rfl, hb3⟩
      go_wp2_with fail
      go_ret2
      rw [hN.out]
      exact ⟨rfl, (below_drewN (Below.refl _ _) k).trans hb3⟩
  ·have hN : Hid (C = none) := by show _ = _; rw [HCe.out, if_pos (by simpa using hf)]
   rw [decide_eq_false hf] at hcut
   clear HCe hf hway htr hpi
   go_enter Tryz.func243, Tryz.ntmps243
   go_wp2_with fail
   refine hP.mono ?_
   rintro e w' ⟨rfl, rfl⟩
   go_wp2_with fail
   refine hcut.mono ?_
   rintro e w2 ⟨rfl, n, rfl⟩
   go_wp2_with fail
   go_ret2
   rw [hN.out]
   exact ⟨rfl, below_drewN (Below.refl _ _) n⟩
end Go.Proofs.YtcjjfeephaddcaaGreatDoor
