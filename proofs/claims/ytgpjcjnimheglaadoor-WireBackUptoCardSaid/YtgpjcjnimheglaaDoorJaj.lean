/-
  JOINED of the texts NX NY
-/
import Derived.Test.YtgpjcjnimheglaaDoorJai
import Derived.Lib.ItoaNum
import Derived.Lib.RuneBytes
import Derived.Lib.Strings
import Derived.Lib.AtoiAll
import Derived.Lib.IndexMore
import Derived.Lib.IndexLaws
import Derived.Lib.SlTrimSet
import Derived.Lib.Atoi
import Derived.Test.YtgpjcjnimheglaaDoorJah
/-
  THE PLAIN LAW of WireBack: what is printed of a value is read as that value (lists, maps, values).
-/
namespace Go.Proofs.YtgpjcjnimheglaaDoor.Jp
open Go.Lib

theorem stop_cons {c : UInt8} {l : List UInt8} (h : digB c = false) : Stop (c :: l) := fun x hx => by
  simp at hx; subst hx; exact h
theorem print_eq' (r : Nat) (j : JT) : printM r j = if jright j = false then (3, []) else if j.kind = 0 then (0, [110, 117, 108, 108]) else if j.kind = 1 then (0, if j.num = 1 then [116, 114, 117, 101] else [102, 97, 108, 115, 101]) else if j.kind = 2 then (0, Lib.itoa j.num) else if j.kind = 3 then (0, jquM j.text) else (match r with
    | 0 => (12, [])
    | r + 1 => if (itemsM (printM r) (decide (j.kind = 5)) j.keys 0 j.kids).1 ≠ 0 then ((itemsM (printM r) (decide (j.kind = 5)) j.keys 0 j.kids).1, []) else (0, (if decide (j.kind = 5) then [123] else [91]) ++ (itemsM (printM r) (decide (j.kind = 5)) j.keys 0 j.kids).2 ++ (if decide (j.kind = 5) then [125] else [93]))) := by
  cases r <;> rfl
theorem nil_of_len {α : Type} {l : List α} (h : l.length = 0) : l = [] := List.eq_nil_of_length_eq_zero h
theorem jright_eq (kind num : Int) (t : List UInt8) (keys : List (List UInt8)) (kids : List JT) : jright (.mk kind num t keys kids) =
    if kind = 0 then decide (num = 0) && decide (t = []) && decide (keys.length = 0) && decide (kids.length = 0)
    else if kind = 1 then decide (num = 0 ∨ num = 1) && decide (t = []) && decide (keys.length = 0) && decide (kids.length = 0)
    else if kind = 2 then decide (-999999999999999999 ≤ num ∧ num ≤ 999999999999999999) && decide (t = []) && decide (keys.length = 0) && decide (kids.length = 0)
    else if kind = 3 then decide (num = 0) && decide (keys.length = 0) && decide (kids.length = 0)
    else if kind = 4 then decide (num = 0) && decide (t = []) && decide (keys.length = 0)
    else if kind = 5 then decide (num = 0) && decide (t = []) && decide (keys.length = kids.length)
    else false := rfl
/-- what a right value is -/
theorem right_is {kind num : Int} {t : List UInt8} {keys : List (List UInt8)} {kids : List JT} (h : jright (.mk kind num t keys kids) = true) :
    (kind = 0 ∧ num = 0 ∧ t = [] ∧ keys = [] ∧ kids = []) ∨ (kind = 1 ∧ (num = 0 ∨ num = 1) ∧ t = [] ∧ keys = [] ∧ kids = []) ∨ (kind = 2 ∧ (-999999999999999999 ≤ num ∧ num ≤ 999999999999999999) ∧ t = [] ∧ keys = [] ∧ kids = []) ∨
    (kind = 3 ∧ num = 0 ∧ keys = [] ∧ kids = []) ∨ (kind = 4 ∧ num = 0 ∧ t = [] ∧ keys = []) ∨ (kind = 5 ∧ num = 0 ∧ t = [] ∧ keys.length = kids.length) := by
  rw [jright_eq] at h
  by_cases k0 : kind = 0
  · rw [if_pos k0] at h
    simp only [Bool.and_eq_true, decide_eq_true_eq] at h
    exact .inl ⟨k0, h.1.1.1, h.1.1.2, nil_of_len h.1.2, nil_of_len h.2⟩
  rw [if_neg k0] at h
  by_cases k1 : kind = 1
  · rw [if_pos k1] at h
    simp only [Bool.and_eq_true, decide_eq_true_eq] at h
    exact .inr (.inl ⟨k1, h.1.1.1, h.1.1.2, nil_of_len h.1.2, nil_of_len h.2⟩)
  rw [if_neg k1] at h
  by_cases k2 : kind = 2
  · rw [if_pos k2] at h
    simp only [Bool.and_eq_true, decide_eq_true_eq] at h
    exact .inr (.inr (.inl ⟨k2, h.1.1.1, h.1.1.2, nil_of_len h.1.2, nil_of_len h.2⟩))
  rw [if_neg k2] at h
  by_cases k3 : kind = 3
  · rw [if_pos k3] at h
    simp only [Bool.and_eq_true, decide_eq_true_eq] at h
    exact .inr (.inr (.inr (.inl ⟨k3, h.1.1, nil_of_len h.1.2, nil_of_len h.2⟩)))
  rw [if_neg k3] at h
  by_cases k4 : kind = 4
  · rw [if_pos k4] at h
    simp only [Bool.and_eq_true, decide_eq_true_eq] at h
    exact .inr (.inr (.inr (.inr (.inl ⟨k4, h.1.1, h.1.2, nil_of_len h.2⟩))))
  rw [if_neg k4] at h
  by_cases k5 : kind = 5
  · rw [if_pos k5] at h
    simp only [Bool.and_eq_true, decide_eq_true_eq] at h
    exact .inr (.inr (.inr (.inr (.inr ⟨k5, h.1.1, h.1.2, h.2⟩))))
  rw [if_neg k5] at h
  cases h
theorem print_l (r : Nat) (kids : List JT) : printM (r + 1) (.mk 4 0 [] [] kids) = if (itemsM (printM r) false [] 0 kids).1 ≠ 0 then ((itemsM (printM r) false [] 0 kids).1, []) else (0, [91] ++ (itemsM (printM r) false [] 0 kids).2 ++ [93]) := by
  rw [print_eq']; rfl
theorem print_m (r : Nat) (keys : List (List UInt8)) (kids : List JT) (h : keys.length = kids.length) : printM (r + 1) (.mk 5 0 [] keys kids) = if (itemsM (printM r) true keys 0 kids).1 ≠ 0 then ((itemsM (printM r) true keys 0 kids).1, []) else (0, [123] ++ (itemsM (printM r) true keys 0 kids).2 ++ [125]) := by
  have hR : jright (.mk 5 0 [] keys kids) = true := by simp [jright, JT.kind, JT.num, JT.text, JT.keys, JT.kids, h]
  rw [print_eq', hR]; rfl
theorem word_at (s w rest : List UInt8) (j : JT) (i : Nat) (h : s.drop i = w ++ rest) : wordP s w j i = .ok j (i + w.length) := by
  unfold wordP
  rw [h, if_pos (by rw [List.isPrefixOf_iff_prefix]; exact List.prefix_append _ _)]

/-- one value after the other -/
def Reads (s : List UInt8) (val : Nat → Rs JT) (f : JT → Nat × List UInt8) : Prop := ∀ (k : JT) (t rest : List UInt8) (i : Nat), f k = (0, t) → s.drop i = t ++ rest → Stop rest → val i = .ok k (i + t.length)

theorem items_head {f : JT → Nat × List UInt8} {m : Bool} {keys : List (List UInt8)} {n : Nat} {k : JT} {ks : List JT} (h : (itemsM f m keys n (k :: ks)).1 = 0) :
    ¬ (m = true ∧ keys.getD n [] ∈ keys.take n) ∧ (f k).1 = 0 ∧ (itemsM f m keys (n + 1) ks).1 = 0 ∧
    (itemsM f m keys n (k :: ks)).2 = (if n = 0 then [] else [44]) ++ (if m then jquM (keys.getD n []) ++ [58] else []) ++ (f k).2 ++ (itemsM f m keys (n + 1) ks).2 := by
  rw [itemsM] at h ⊢
  split at h
  · simp at h
  · rename_i h1
    rw [if_neg h1]
    split at h
    · rename_i h2; exact absurd h h2
    · rename_i h2
      rw [if_neg h2]
      exact ⟨h1, by simpa using h2, h, rfl⟩
theorem rest_stop {f : JT → Nat × List UInt8} {m : Bool} {keys : List (List UInt8)} {n : Nat} {ks : List JT} {e : UInt8} {rest : List UInt8} (he : digB e = false) (h : (itemsM f m keys (n + 1) ks).1 = 0) : Stop ((itemsM f m keys (n + 1) ks).2 ++ e :: rest) := by
  cases ks with
  | nil => simpa [itemsM] using stop_cons he
  | cons k ks =>
    obtain ⟨_, _, _, e4⟩ := items_head h
    rw [e4, if_neg (by omega)]
    exact stop_cons (c := 44) (by decide)

theorem many_list (s rest : List UInt8) (val : Nat → Rs JT) (f : JT → Nat × List UInt8) (hv : Reads s val f) : ∀ (ks : List JT) (k : JT) (keys : List (List UInt8)) (n fu i : Nat) (st : KK), (f k).1 = 0 → (itemsM f false keys (n + 1) ks).1 = 0 → s.drop i = (f k).2 ++ ((itemsM f false keys (n + 1) ks).2 ++ 93 :: rest) → ks.length < fu →
    manyF (oneL val) 93 s fu st i = .ok (st.1, st.2 ++ k :: ks) (i + ((f k).2.length + (itemsM f false keys (n + 1) ks).2.length) + 1)
  | [], k, keys, n, fu, i, st, h1, h2, hd, hf => by
    obtain ⟨fu, rfl⟩ : ∃ g, fu = g + 1 := ⟨fu - 1, by omega⟩
    have hval := hv k (f k).2 _ i (by rw [← h1]) hd (rest_stop (by decide) h2)
    have hd2 := drop_next hd
    simp only [itemsM, List.nil_append] at hd2
    have h0 := drop_hd hd2
    have hsk := get_skip_not s _ 93 h0 (by decide)
    unfold manyF oneL
    rw [hval]
    simp only
    rw [hsk, h0, if_neg (by decide), if_pos rfl]
    simp [itemsM]
  | k2 :: ks, k, keys, n, fu, i, st, h1, h2, hd, hf => by
    obtain ⟨fu, rfl⟩ : ∃ g, fu = g + 1 := ⟨fu - 1, by omega⟩
    have hval := hv k (f k).2 _ i (by rw [← h1]) hd (rest_stop (by decide) h2)
    obtain ⟨_, g1, g2, e4⟩ := items_head h2
    rw [if_neg (by omega)] at e4
    simp only [if_false, List.append_nil, Bool.false_eq_true] at e4
    have hd2 := drop_next hd
    rw [e4] at hd2
    simp only [List.append_assoc, List.cons_append, List.nil_append] at hd2
    have h0 := drop_hd hd2
    have hsk := get_skip_not s _ 44 h0 (by decide)
    have ih := many_list s rest val f hv ks k2 keys (n + 1) fu (i + (f k).2.length + 1) (st.1, st.2 ++ [k]) g1 g2 (drop_tl hd2) (by simp only [List.length_cons] at hf; omega)
    unfold manyF
    have ho : oneL val st i = .ok (st.1, st.2 ++ [k]) (i + (f k).2.length) := by unfold oneL; rw [hval]
    rw [ho]
    simp only
    rw [hsk, h0, if_pos rfl, ih, e4]
    simp only [List.append_assoc, List.cons_append, List.nil_append, List.length_cons, List.length_append]
    congr 1
    omega

theorem take_getD {α : Type} (l : List α) (n : Nat) (d : α) (h : n < l.length) : l.take (n + 1) = l.take n ++ [l.getD n d] := by
  rw [List.take_succ_eq_append_getElem h, List.getD_eq_getElem?_getD, List.getElem?_eq_getElem h]; rfl
theorem one_map (s rest : List UInt8) (val : Nat → Rs JT) (f : JT → Nat × List UInt8) (hv : Reads s val f) (k : JT) (key : List UInt8) (i : Nat) (st : KK) (h1 : (f k).1 = 0) (hr : Stop rest) (hn : key ∉ st.1)
    (hd : s.drop i = jquM key ++ ([58] ++ ((f k).2 ++ rest))) : oneM s val st i = .ok (st.1 ++ [key], st.2 ++ [k]) (i + ((jquM key).length + 1 + (f k).2.length)) := by
  have h0 : s[i]? = some 34 := drop_hd (rest := jquI key ++ [34] ++ ([58] ++ ((f k).2 ++ rest))) (by rw [hd]; simp [jquM])
  have hsk := get_skip_not s i 34 h0 (by decide)
  have ht := text_quo s _ key i hd
  have hd2 := drop_next hd
  have h58 : s[i + (jquM key).length]? = some 58 := drop_hd hd2
  have hsk2 := get_skip_not s _ 58 h58 (by decide)
  have hn58 : needP s 58 (i + (jquM key).length) = .ok () (i + (jquM key).length + 1) := by unfold needP; rw [hsk2, if_pos h58]
  have hval := hv k (f k).2 rest (i + (jquM key).length + 1) (by rw [← h1]) (drop_tl hd2) hr
  unfold oneM
  rw [hsk, ht]
  simp only
  rw [if_neg hn, hn58]
  simp only
  rw [hval]
  simp only
  congr 1
  omega
theorem many_map (s rest : List UInt8) (val : Nat → Rs JT) (f : JT → Nat × List UInt8) (hv : Reads s val f) (keys : List (List UInt8)) : ∀ (ks : List JT) (k : JT) (n fu i : Nat) (st : KK), st.1 = keys.take n → n + 1 + ks.length ≤ keys.length → keys.getD n [] ∉ keys.take n → (f k).1 = 0 → (itemsM f true keys (n + 1) ks).1 = 0 →
    s.drop i = jquM (keys.getD n []) ++ ([58] ++ ((f k).2 ++ ((itemsM f true keys (n + 1) ks).2 ++ 125 :: rest))) → ks.length < fu →
    manyF (oneM s val) 125 s fu st i = .ok (keys.take (n + 1 + ks.length), st.2 ++ k :: ks) (i + ((jquM (keys.getD n [])).length + 1 + (f k).2.length + (itemsM f true keys (n + 1) ks).2.length) + 1)
  | [], k, n, fu, i, st, hst, hlen, hno, h1, h2, hd, hf => by
    obtain ⟨fu, rfl⟩ : ∃ g, fu = g + 1 := ⟨fu - 1, by omega⟩
    have ho := one_map s _ val f hv k (keys.getD n []) i st h1 (rest_stop (by decide) h2) (by rw [hst]; exact hno) hd
    have hd2 := drop_next (t := jquM (keys.getD n []) ++ ([58] ++ (f k).2)) (rest := (itemsM f true keys (n + 1) []).2 ++ 125 :: rest) (by rw [hd]; simp only [List.append_assoc])
    simp only [itemsM, List.nil_append, List.length_append, List.length_cons, List.length_nil] at hd2
    have el : i + ((jquM (keys.getD n [])).length + (0 + 1 + (f k).2.length)) = i + ((jquM (keys.getD n [])).length + 1 + (f k).2.length) := by omega
    rw [el] at hd2
    have h0 := drop_hd hd2
    have hsk := get_skip_not s _ 125 h0 (by decide)
    unfold manyF
    rw [ho]
    simp only
    rw [hsk, h0, if_neg (by decide), if_pos rfl, hst]
    simp only [itemsM, List.length_nil, Nat.add_zero]
    rw [take_getD keys n [] (by simp at hlen; omega)]
  | k2 :: ks, k, n, fu, i, st, hst, hlen, hno, h1, h2, hd, hf => by
    obtain ⟨fu, rfl⟩ : ∃ g, fu = g + 1 := ⟨fu - 1, by omega⟩
    have ho := one_map s _ val f hv k (keys.getD n []) i st h1 (rest_stop (by decide) h2) (by rw [hst]; exact hno) hd
    obtain ⟨g0, g1, g2, e4⟩ := items_head h2
    rw [if_neg (by omega)] at e4
    simp only [if_true] at e4
    have hd2 := drop_next (t := jquM (keys.getD n []) ++ ([58] ++ (f k).2)) (rest := (itemsM f true keys (n + 1) (k2 :: ks)).2 ++ 125 :: rest) (by rw [hd]; simp only [List.append_assoc])
    simp only [List.length_append, List.length_cons, List.length_nil] at hd2 hlen
    have el : i + ((jquM (keys.getD n [])).length + (0 + 1 + (f k).2.length)) = i + ((jquM (keys.getD n [])).length + 1 + (f k).2.length) := by omega
    rw [el, e4] at hd2
    simp only [List.append_assoc, List.cons_append, List.nil_append] at hd2
    have h0 := drop_hd hd2
    have hsk := get_skip_not s _ 44 h0 (by decide)
    have ih := many_map s rest val f hv keys ks k2 (n + 1) fu (i + ((jquM (keys.getD n [])).length + 1 + (f k).2.length) + 1) (st.1 ++ [keys.getD n []], st.2 ++ [k]) (by rw [hst, take_getD keys n [] (by omega)]) (by omega) (fun h => g0 ⟨rfl, h⟩) g1 g2 (by rw [drop_tl hd2]; simp only [List.cons_append, List.nil_append]) (by simp only [List.length_cons] at hf; omega)
    unfold manyF
    rw [ho]
    simp only
    rw [hsk, h0, if_pos rfl, ih, e4]
    simp only [List.append_assoc, List.cons_append, List.nil_append, List.length_cons, List.length_append]
    congr 1
    · congr 2; omega
    · omega

theorem itemsM_len (f : JT → Nat × List UInt8) (m : Bool) (keys : List (List UInt8)) : ∀ (ks : List JT) (n : Nat), (itemsM f m keys (n + 1) ks).1 = 0 → ks.length ≤ (itemsM f m keys (n + 1) ks).2.length
  | [], _, _ => by simp
  | k :: ks, n, h => by
    obtain ⟨_, _, g2, e4⟩ := items_head h
    have := itemsM_len f m keys ks (n + 1) g2
    rw [e4, if_neg (by omega)]
    simp only [List.length_append, List.length_cons, List.length_nil]
    omega
theorem drop_len {s t rest : List UInt8} {i : Nat} (h : s.drop i = t ++ rest) : t.length ≤ s.length := by
  have h1 := congrArg List.length h
  simp only [List.length_drop, List.length_append] at h1
  omega

/-- no value begins with a blank or a sign that closes -/
theorem first_not (t : List UInt8) {r : Nat} {j : JT} (h : printM r j = (0, t)) : ∃ c q, t = c :: q ∧ blankB c = false ∧ c ≠ 93 ∧ c ≠ 125 := by
  rw [print_eq'] at h
  split at h
  · injection h with h _; exact absurd h (by decide)
  split at h
  · injection h with _ h; subst h; exact ⟨110, [117, 108, 108], rfl, by decide, by decide, by decide⟩
  split at h
  · injection h with _ h
    split at h
    · subst h; exact ⟨116, [114, 117, 101], rfl, by decide, by decide, by decide⟩
    · subst h; exact ⟨102, [97, 108, 115, 101], rfl, by decide, by decide, by decide⟩
  split at h
  · injection h with _ h; subst h
    obtain ⟨c, q, hc, hcd⟩ := itoa_head j.num
    have hfin : ∀ x : Fin 256, (UInt8.ofNat x.val = 45 ∨ digB (UInt8.ofNat x.val) = true) → blankB (UInt8.ofNat x.val) = false ∧ UInt8.ofNat x.val ≠ 93 ∧ UInt8.ofNat x.val ≠ 125 := by decide +kernel
    have hx := hfin ⟨c.toNat, c.toNat_lt⟩
    simp only [UInt8.ofNat_toNat] at hx
    exact ⟨c, q, hc, hx hcd⟩
  split at h
  · injection h with _ h; subst h; exact ⟨34, jquI j.text ++ [34], rfl, by decide, by decide, by decide⟩
  · cases r with
    | zero => injection h with h _; exact absurd h (by decide)
    | succ r =>
      simp only at h
      split at h
      · rename_i hx; injection h with h _; exact absurd h hx
      · injection h with _ h
        by_cases h5 : decide (j.kind = 5) = true
        · rw [if_pos h5, if_pos h5] at h
          subst h
          exact ⟨123, _, rfl, by decide, by decide, by decide⟩
        · rw [if_neg h5, if_neg h5] at h
          subst h
          exact ⟨91, _, rfl, by decide, by decide, by decide⟩

theorem val_step (s : List UInt8) (r d : Nat) (hd : r + d = 40) (ih : ∀ r', r = r' + 1 → Reads s (valF s r (d + 1)) (printM r')) : Reads s (valF s (r + 1) d) (printM r) := by
  intro j t rest i hp h hr
  have hp0 := hp
  rw [print_eq'] at hp
  have hR : jright j = true := by
    cases hj : jright j with
    | true => rfl
    | false => rw [hj] at hp; simp at hp
  rw [hR] at hp
  obtain ⟨kind, num, tx, keys, kids⟩ := j
  have hw := right_is hR
  simp only [JT.kind, JT.num, JT.text, JT.keys, JT.kids] at hp
  have hcase : ∀ (c : UInt8), s[i]? = some c → blankB c = false → valF s (r + 1) d i = valP s (valF s r (d + 1)) d c i := fun c h0 hb => by
    have hsk := get_skip_not s i c h0 hb
    conv => lhs; unfold valF
    rw [hsk, h0]
  rcases hw with ⟨rfl, rfl, rfl, rfl, rfl⟩ | ⟨rfl, hn, rfl, rfl, rfl⟩ | ⟨rfl, hn, rfl, rfl, rfl⟩ | ⟨rfl, rfl, rfl, rfl⟩ | ⟨rfl, rfl, rfl, rfl⟩ | ⟨rfl, rfl, rfl, hkl⟩
  · simp at hp; subst hp
    rw [hcase 110 (drop_hd h) (by decide)]
    unfold valP
    rw [if_neg (by simp), if_pos rfl]
    exact word_at s wN rest _ i h
  · simp at hp; subst hp
    rcases hn with rfl | rfl
    · simp at h
      rw [hcase 102 (drop_hd h) (by decide)]
      unfold valP
      rw [if_neg (by simp), if_neg (by decide), if_neg (by decide), if_pos rfl]
      exact word_at s wF rest _ i h
    · simp at h
      rw [hcase 116 (drop_hd h) (by decide)]
      unfold valP
      rw [if_neg (by simp), if_neg (by decide), if_pos rfl]
      exact word_at s wT rest _ i h
  · simp at hp; subst hp
    obtain ⟨c, q, hc, hcd⟩ := itoa_head num
    have hnum := num_dec s rest num i hn.1 hn.2 h hr
    have h0 : s[i]? = some c := drop_hd (by rw [h, hc]; rfl)
    have hfin : ∀ x : Fin 256, (UInt8.ofNat x.val = 45 ∨ digB (UInt8.ofNat x.val) = true) → blankB (UInt8.ofNat x.val) = false ∧ UInt8.ofNat x.val ≠ 91 ∧ UInt8.ofNat x.val ≠ 123 ∧ UInt8.ofNat x.val ≠ 110 ∧ UInt8.ofNat x.val ≠ 116 ∧ UInt8.ofNat x.val ≠ 102 ∧ UInt8.ofNat x.val ≠ 34 := by decide +kernel
    have hx := hfin ⟨c.toNat, c.toNat_lt⟩
    simp only [UInt8.ofNat_toNat] at hx
    obtain ⟨x1, x2, x3, x4, x5, x6, x7⟩ := hx hcd
    rw [hcase c h0 x1]
    unfold valP
    rw [if_neg (by simp [x2, x3]), if_neg x4, if_neg x5, if_neg x6, if_neg x7, if_pos hcd, hnum]
  · simp at hp; subst hp
    have ht := text_quo s rest tx i h
    have h0 : s[i]? = some 34 := drop_hd (rest := jquI tx ++ [34] ++ rest) (by rw [h]; simp [jquM])
    rw [hcase 34 h0 (by decide)]
    unfold valP
    rw [if_neg (by simp), if_neg (by decide), if_neg (by decide), if_neg (by decide), if_pos rfl, ht]
  · cases r with
    | zero => simp at hp
    | succ r =>
      have hv := ih r rfl
      rw [print_l] at hp0
      by_cases hx : (itemsM (printM r) false [] 0 kids).1 = 0
      · rw [if_neg (by simpa using hx)] at hp0
        injection hp0 with _ hp0
        subst hp0
        have h' : s.drop i = 91 :: ((itemsM (printM r) false [] 0 kids).2 ++ 93 :: rest) := by rw [h]; simp
        rw [hcase 91 (drop_hd h') (by decide)]
        have hd1 := drop_tl h'
        have hit : itemsP (oneL (valF s (r + 1) (d + 1))) 93 s ([], []) i = .ok ([], kids) (i + ((itemsM (printM r) false [] 0 kids).2.length + 2)) := by
          cases kids with
          | nil =>
            simp only [itemsM, List.nil_append] at hd1
            have h0 := drop_hd hd1
            have hsk := get_skip_not s _ 93 h0 (by decide)
            unfold itemsP
            rw [hsk, if_pos h0]
            simp [itemsM]
          | cons k ks =>
            obtain ⟨_, g1, g2, e4⟩ := items_head hx
            simp only [if_true, List.nil_append, Bool.false_eq_true, if_false, List.append_nil] at e4
            have e4 : (itemsM (printM r) false [] 0 (k :: ks)).2 = (printM r k).2 ++ (itemsM (printM r) false [] (0 + 1) ks).2 := e4
            rw [e4, List.append_assoc] at hd1
            have hml := itemsM_len (printM r) false [] ks 0 g2
            have hdl := drop_len (t := (printM r k).2 ++ (itemsM (printM r) false [] (0 + 1) ks).2) (by rw [hd1, List.append_assoc])
            rw [List.length_append] at hdl
            have hm := many_list s rest (valF s (r + 1) (d + 1)) (printM r) hv ks k [] 0 (s.length + 1) (i + 1) ([], []) g1 g2 hd1 (by omega)
            -- what is next is no closing sign, and no blank
            have hval := hv k (printM r k).2 _ (i + 1) (by rw [← g1]) hd1 (rest_stop (by decide) g2)
            obtain ⟨c, q, hc, hcb, hce⟩ := first_not (printM r k).2 (r := r) (j := k) (by rw [← g1])
            have h0 : s[i + 1]? = some c := drop_hd (by rw [hd1, hc]; rfl)
            have hsk := get_skip_not s _ c h0 hcb
            unfold itemsP
            rw [hsk, h0, if_neg (by intro e; injection e with e; exact hce.1 e), hm, e4, List.length_append]
            simp only [List.nil_append]
            congr 1
            omega
        unfold valP
        rw [if_neg (by simp; omega), if_neg (by decide), if_neg (by decide), if_neg (by decide), if_neg (by decide), if_neg (by decide), if_pos rfl, hit]
        simp only [listP, List.length_append, List.length_cons, List.length_nil]
        congr 1
        omega
      · rw [if_pos hx] at hp0
        injection hp0 with hp0 _
        exact absurd hp0 hx
  · cases r with
    | zero => simp at hp
    | succ r =>
      have hv := ih r rfl
      rw [print_m r keys kids hkl] at hp0
      by_cases hx : (itemsM (printM r) true keys 0 kids).1 = 0
      · rw [if_neg (by simpa using hx)] at hp0
        injection hp0 with _ hp0
        subst hp0
        have h' : s.drop i = 123 :: ((itemsM (printM r) true keys 0 kids).2 ++ 125 :: rest) := by rw [h]; simp
        rw [hcase 123 (drop_hd h') (by decide)]
        have hd1 := drop_tl h'
        have hit : itemsP (oneM s (valF s (r + 1) (d + 1))) 125 s ([], []) i = .ok (keys, kids) (i + ((itemsM (printM r) true keys 0 kids).2.length + 2)) := by
          cases kids with
          | nil =>
            have hk : keys = [] := nil_of_len hkl
            subst hk
            simp only [itemsM, List.nil_append] at hd1
            have h0 := drop_hd hd1
            have hsk := get_skip_not s _ 125 h0 (by decide)
            unfold itemsP
            rw [hsk, if_pos h0]
            simp [itemsM]
          | cons k ks =>
            obtain ⟨_, g1, g2, e4⟩ := items_head hx
            have e4 : (itemsM (printM r) true keys 0 (k :: ks)).2 = jquM (keys.getD 0 []) ++ ([58] ++ ((printM r k).2 ++ (itemsM (printM r) true keys (0 + 1) ks).2)) := by rw [e4]; simp
            rw [e4] at hd1
            simp only [List.append_assoc] at hd1
            have hml := itemsM_len (printM r) true keys ks 0 g2
            have hdl := drop_len (t := jquM (keys.getD 0 []) ++ ([58] ++ ((printM r k).2 ++ (itemsM (printM r) true keys (0 + 1) ks).2))) (rest := 125 :: rest) (by rw [hd1]; simp only [List.append_assoc])
            simp only [List.length_append] at hdl
            simp only [List.length_cons] at hkl
            have hm := many_map s rest (valF s (r + 1) (d + 1)) (printM r) hv keys ks k 0 (s.length + 1) (i + 1) ([], []) (by simp) (by omega) (by simp) g1 g2 hd1 (by omega)
            have h0 : s[i + 1]? = some 34 := drop_hd (by rw [hd1]; unfold jquM; rfl)
            have hsk := get_skip_not s _ 34 h0 (by decide)
            unfold itemsP
            rw [hsk, h0, if_neg (by decide), hm, e4]
            have htk : keys.take (0 + 1 + ks.length) = keys := List.take_of_length_le (by omega)
            rw [htk]
            simp only [List.nil_append, List.length_append, List.length_cons, List.length_nil]
            congr 1
            omega
        unfold valP
        rw [if_neg (by rintro ⟨h, _⟩; omega), if_neg (by decide), if_neg (by decide), if_neg (by decide), if_neg (by decide), if_neg (by decide), if_neg (by decide), if_pos rfl, hit]
        simp only [listP, List.length_append, List.length_cons, List.length_nil]
        congr 1
        omega
      · rw [if_pos hx] at hp0
        injection hp0 with hp0 _
        exact absurd hp0 hx

/-- what is printed is read -/
theorem val_print (s : List UInt8) : ∀ (r d : Nat), r + d = 40 → Reads s (valF s (r + 1) d) (printM r)
  | 0, d, h => val_step s 0 d h fun r' e => by omega
  | r + 1, d, h => val_step s (r + 1) d h fun r' e => by
    obtain rfl : r' = r := by omega
    exact val_print s r' (d + 1) (by omega)
theorem parse_print {j : JT} {t : List UInt8} (h : printM 40 j = (0, t)) : parseP t = .ok j 0 := by
  have hv := val_print t 40 0 (by omega) j t [] 0 h (by simp) (fun c hc => by simp at hc)
  unfold parseP
  rw [hv]
  simp only [Nat.zero_add]
  rw [skip_end t t.length (Nat.le_refl _), if_neg (by omega)]
end Go.Proofs.YtgpjcjnimheglaaDoor.Jp
/-
  THE PLAIN LAW of WireBack: what is read of a text can be printed, and how much it may weigh.
-/
namespace Go.Proofs.YtgpjcjnimheglaaDoor.Jp
open Go.Lib

/-- what holds before each of many, and what behind -/
theorem many_pos {σ : Type} {one : σ → Nat → Rs σ} {e : UInt8} {s : List UInt8} (P Q : σ → Nat → Prop) (h1 : ∀ st i st' k, P st i → one st i = .ok st' k → Q st' k) (h2 : ∀ st k k', Q st k → k < k' → P st k') :
    ∀ (f : Nat) (st : σ) (i : Nat) (st' : σ) (K : Nat), P st i → manyF one e s f st i = .ok st' K → ∃ k, Q st' k ∧ k < K
  | 0, st, i, st', K, _, h => by simp [manyF] at h
  | f + 1, st, i, st', K, hp, h => by
    unfold manyF at h
    split at h
    · exact absurd h (by simp)
    · rename_i st1 k1 ho
      have hq := h1 st i st1 k1 hp ho
      have hg := skip_ge s k1
      split at h
      · exact many_pos P Q h1 h2 f st1 (skipP s k1 + 1) st' K (h2 st1 k1 _ hq (by omega)) h
      · split at h
        · injection h with h3 h4
          subst h3
          exact ⟨k1, hq, by omega⟩
        · exact absurd h (by simp)
theorem items_pos {σ : Type} {one : σ → Nat → Rs σ} {e : UInt8} {s : List UInt8} (P Q : σ → Nat → Prop) (h1 : ∀ st i st' k, P st i → one st i = .ok st' k → Q st' k) (h2 : ∀ st k k', Q st k → k < k' → P st k')
    {st : σ} {i : Nat} {st' : σ} {K : Nat} (hp : ∀ i', i + 1 ≤ i' → P st i') (h : itemsP one e s st i = .ok st' K) : (st' = st ∧ i + 2 ≤ K) ∨ ∃ k, Q st' k ∧ k < K := by
  have hg := skip_ge s (i + 1)
  unfold itemsP at h
  split at h
  · injection h with h3 h4
    exact .inl ⟨h3.symm, by omega⟩
  · exact .inr (many_pos P Q h1 h2 _ _ _ _ _ (hp _ hg) h)

theorem word_ok {s w : List UInt8} {j0 j : JT} {i k : Nat} (h : wordP s w j0 i = .ok j k) : j = j0 ∧ k = i + w.length := by
  unfold wordP at h
  split at h
  · injection h with h1 h2; exact ⟨h1.symm, h2.symm⟩
  · exact absurd h (by simp)
theorem num_ok {s : List UInt8} {i : Nat} {n : Int} {k : Nat} (h : numP s i = .ok n k) : (-999999999999999999 ≤ n ∧ n ≤ 999999999999999999) ∧ i + 1 ≤ k := by
  have hf : i ≤ firstP s i := by unfold firstP; split <;> omega
  have hd := dig_ge s (firstP s i)
  unfold numP at h
  split at h
  · exact absurd h (by simp)
  · rename_i h0
    split at h
    · exact absurd h (by simp)
    · rename_i h1
      injection h with h3 h4
      have hb := numV_bound s i (fun h => h1 (.inl h))
      rw [h3] at hb
      exact ⟨by omega, by omega⟩

/-- keys that are none of those before -/
def Distinct (ks : List (List UInt8)) : Prop := ∀ n, n < ks.length → ks.getD n [] ∉ ks.take n
theorem Distinct.nil : Distinct [] := fun n h => by simp at h
theorem Distinct.snoc {ks : List (List UInt8)} {k : List UInt8} (h : Distinct ks) (hk : k ∉ ks) : Distinct (ks ++ [k]) := fun n hn => by
  simp only [List.length_append, List.length_cons, List.length_nil] at hn
  by_cases hl : n < ks.length
  · have := h n hl
    rw [List.take_append_of_le_length (by omega)]
    rw [List.getD_eq_getElem?_getD] at this ⊢
    rw [List.getElem?_append_left hl]
    exact this
  · obtain rfl : n = ks.length := by omega
    rw [List.take_append_of_le_length (Nat.le_refl _), List.take_length, List.getD_eq_getElem?_getD, List.getElem?_append_right (Nat.le_refl _)]
    simpa using hk
theorem items_zero (f : JT → Nat × List UInt8) (m : Bool) (keys : List (List UInt8)) : ∀ (ks : List JT) (n : Nat), (∀ k ∈ ks, (f k).1 = 0) → (m = true → Distinct keys ∧ n + ks.length ≤ keys.length) → (itemsM f m keys n ks).1 = 0
  | [], _, _, _ => by simp [itemsM]
  | k :: ks, n, h, hm => by
    rw [itemsM, if_neg, if_neg (by simpa using h k (by simp))]
    · exact items_zero f m keys ks (n + 1) (fun x hx => h x (by simp [hx])) fun e => ⟨(hm e).1, by have := (hm e).2; simp only [List.length_cons] at this; omega⟩
    · rintro ⟨e, hn⟩
      have := hm e
      exact this.1 n (by have := this.2; simp only [List.length_cons] at this; omega) hn
theorem oneL_ok {val : Nat → Rs JT} {st st' : KK} {i k : Nat} (h : oneL val st i = .ok st' k) : ∃ j, val i = .ok j k ∧ st' = (st.1, st.2 ++ [j]) := by
  unfold oneL at h
  split at h
  · exact absurd h (by simp)
  · rename_i j k1 hv
    injection h with h1 h2
    subst h2
    exact ⟨j, hv, h1.symm⟩
theorem oneM_ok {s : List UInt8} {val : Nat → Rs JT} {st st' : KK} {i k : Nat} (h : oneM s val st i = .ok st' k) :
    ∃ key k1 j, textP s (skipP s i) = .ok key k1 ∧ key ∉ st.1 ∧ val (skipP s k1 + 1) = .ok j k ∧ st' = (st.1 ++ [key], st.2 ++ [j]) := by
  unfold oneM at h
  split at h
  · exact absurd h (by simp)
  · rename_i key k1 ht
    split at h
    · exact absurd h (by simp)
    · rename_i hn
      split at h
      · exact absurd h (by simp)
      · rename_i k2 hk2
        have e2 : k2 = skipP s k1 + 1 := by
          unfold needP at hk2
          split at hk2
          · injection hk2 with _ h2; exact h2.symm
          · exact absurd hk2 (by simp)
        subst e2
        split at h
        · exact absurd h (by simp)
        · rename_i j k3 hv
          injection h with h1 h2
          subst h2
          exact ⟨key, k1, j, ht, hn, hv, h1.symm⟩

theorem print_list {r : Nat} {kids : List JT} (h : ∀ k ∈ kids, (printM r k).1 = 0) : (printM (r + 1) (.mk 4 0 [] [] kids)).1 = 0 := by
  have hz := items_zero (printM r) false [] kids 0 h (fun e => by cases e)
  rw [print_eq']
  have hR : jright (.mk 4 0 [] [] kids) = true := by simp [jright, JT.kind, JT.num, JT.text, JT.keys]
  rw [hR]
  simp [JT.kind, JT.keys, JT.kids, hz]
theorem print_map {r : Nat} {keys : List (List UInt8)} {kids : List JT} (h : ∀ k ∈ kids, (printM r k).1 = 0) (hl : keys.length = kids.length) (hd : Distinct keys) : (printM (r + 1) (.mk 5 0 [] keys kids)).1 = 0 := by
  have hz := items_zero (printM r) true keys kids 0 h (fun _ => ⟨hd, by omega⟩)
  rw [print_eq']
  have hR : jright (.mk 5 0 [] keys kids) = true := by simp [jright, JT.kind, JT.num, JT.text, JT.keys, JT.kids, hl]
  rw [hR]
  simp [JT.kind, JT.keys, JT.kids, hz]
theorem listP_ok {r : Rs KK} {kind : Int} {j : JT} {k : Nat} (h : listP r kind = .ok j k) : ∃ st, r = .ok st k ∧ j = .mk kind 0 [] st.1 st.2 := by
  unfold listP at h
  split at h
  · exact absurd h (by simp)
  · rename_i st k1
    injection h with h1 h2
    subst h2
    exact ⟨st, rfl, h1.symm⟩
theorem mem_snoc {α : Type} {l : List α} {a : α} {P : α → Prop} (h : ∀ x ∈ l, P x) (ha : P a) : ∀ x ∈ l ++ [a], P x := fun x hx => by
  rcases List.mem_append.1 hx with hx | hx
  · exact h x hx
  · rw [List.mem_singleton.1 hx]; exact ha
theorem kk_eq {st : KK} {a : List (List UInt8)} {b : List JT} (h : st = (a, b)) : st.1 = a ∧ st.2 = b := by subst h; exact ⟨rfl, rfl⟩

/-- what is read can be printed -/
theorem val_right (s : List UInt8) : ∀ (f d i : Nat) (j : JT) (k : Nat), f + d = 41 → valF s f d i = .ok j k → (printM (f - 1) j).1 = 0
  | 0, d, i, j, k, _, h => by simp [valF] at h
  | f + 1, d, i, j, k, hd, h => by
    rw [Nat.add_sub_cancel]
    unfold valF at h
    split at h
    · exact absurd h (by simp)
    · rename_i c hc
      unfold valP at h
      split at h
      · exact absurd h (by simp)
      · rename_i hfull
        split at h
        · obtain ⟨rfl, _⟩ := word_ok h
          rw [print_eq']; simp [jright, JT.kind, JT.num, JT.text, JT.keys, JT.kids]
        split at h
        · obtain ⟨rfl, _⟩ := word_ok h
          rw [print_eq']; simp [jright, JT.kind, JT.num, JT.text, JT.keys, JT.kids]
        split at h
        · obtain ⟨rfl, _⟩ := word_ok h
          rw [print_eq']; simp [jright, JT.kind, JT.num, JT.text, JT.keys, JT.kids]
        split at h
        · split at h
          · exact absurd h (by simp)
          · injection h with h _; subst h
            rw [print_eq']; simp [jright, JT.kind, JT.num, JT.text, JT.keys, JT.kids]
        split at h
        · split at h
          · exact absurd h (by simp)
          · rename_i n e hn
            injection h with h _; subst h
            have hb := (num_ok hn).1
            rw [print_eq']; simp [jright, JT.kind, JT.num, JT.text, JT.keys, JT.kids, hb]
        split at h
        · rename_i h91
          obtain ⟨f, rfl⟩ : ∃ g, f = g + 1 := ⟨f - 1, by
            have : ¬ 40 ≤ d := fun h => hfull ⟨h, .inl h91⟩
            omega⟩
          obtain ⟨st, hst, rfl⟩ := listP_ok h
          have hq := items_pos (fun (st : KK) _ => st.1 = [] ∧ ∀ x ∈ st.2, (printM f x).1 = 0) (fun st _ => st.1 = [] ∧ ∀ x ∈ st.2, (printM f x).1 = 0)
            (fun st i st' k hp ho => by
              obtain ⟨j, hv, rfl⟩ := oneL_ok ho
              exact ⟨hp.1, mem_snoc hp.2 (by have := val_right s (f + 1) (d + 1) i j k (by omega) hv; simpa using this)⟩)
            (fun st k k' h _ => h) (fun i' _ => ⟨rfl, fun x hx => by simp at hx⟩) hst
          have hq2 : st.1 = [] ∧ ∀ x ∈ st.2, (printM f x).1 = 0 := by
            rcases hq with ⟨e, _⟩ | ⟨k, h, _⟩
            · obtain ⟨e1, e2⟩ := kk_eq e
              exact ⟨e1, fun x hx => by rw [e2] at hx; simp at hx⟩
            · exact h
          rw [hq2.1]
          exact print_list hq2.2
        split at h
        · rename_i h123
          obtain ⟨f, rfl⟩ : ∃ g, f = g + 1 := ⟨f - 1, by
            have : ¬ 40 ≤ d := fun h => hfull ⟨h, .inr h123⟩
            omega⟩
          obtain ⟨st, hst, rfl⟩ := listP_ok h
          have hq := items_pos (fun (st : KK) _ => st.1.length = st.2.length ∧ Distinct st.1 ∧ ∀ x ∈ st.2, (printM f x).1 = 0) (fun st _ => st.1.length = st.2.length ∧ Distinct st.1 ∧ ∀ x ∈ st.2, (printM f x).1 = 0)
            (fun st i st' k hp ho => by
              obtain ⟨key, k1, j, _, hn, hv, rfl⟩ := oneM_ok ho
              exact ⟨by simp [hp.1], hp.2.1.snoc hn, mem_snoc hp.2.2 (by have := val_right s (f + 1) (d + 1) _ j k (by omega) hv; simpa using this)⟩)
            (fun st k k' h _ => h) (fun i' _ => ⟨rfl, Distinct.nil, fun x hx => by simp at hx⟩) hst
          have hq2 : st.1.length = st.2.length ∧ Distinct st.1 ∧ ∀ x ∈ st.2, (printM f x).1 = 0 := by
            rcases hq with ⟨e, _⟩ | ⟨k, h, _⟩
            · obtain ⟨e1, e2⟩ := kk_eq e
              exact ⟨by rw [e1, e2]; rfl, by rw [e1]; exact Distinct.nil, fun x hx => by rw [e2] at hx; simp at hx⟩
            · exact h
          exact print_map hq2.2.2 hq2.1 hq2.2.1
        · exact absurd h (by simp)

/-! ### weights -/
set_option maxRecDepth 100000 in
theorem enc_le4 (c : Nat) : (Lx.enc c).length ≤ 4 := by
  unfold Lx.enc Utf8.encode
  generalize (if Utf8.valid (c : Int) = true then (c : Int).toNat else Utf8.runeError) = n
  by_cases h1 : n < 0x80
  · simp only [if_pos h1]; simp
  · by_cases h2 : n < 0x800
    · simp only [if_neg h1, if_pos h2]; simp
    · by_cases h3 : n < 0x10000
      · simp only [if_neg h1, if_neg h2, if_pos h3]; simp
      · simp only [if_neg h1, if_neg h2, if_neg h3]; simp
theorem esc_grow {s : List UInt8} {i k : Nat} {b : List UInt8} (h : escP s i = .ok b k) : b.length + i ≤ k := by
  unfold escP at h
  split at h
  · exact absurd h (by simp)
  · split at h
    · injection h with h1 h2; subst h1; subst h2; simp; omega
    · split at h
      · unfold uniP at h
        split at h
        · exact absurd h (by simp)
        · split at h
          · exact absurd h (by simp)
          · split at h
            · injection h with h1 h2
              have h3 : b.length ≤ 4 := by rw [← h1]; exact enc_le4 _
              omega
            · unfold lowP at h
              split at h
              · split at h
                · split at h
                  · injection h with h1 h2
                    have h3 : b.length ≤ 4 := by rw [← h1]; exact enc_le4 _
                    omega
                  · exact absurd h (by simp)
                · exact absurd h (by simp)
              · exact absurd h (by simp)
      · exact absurd h (by simp)
theorem txt_len (s : List UInt8) : ∀ (f i : Nat) (acc t : List UInt8) (k : Nat), txtF s f i acc = .ok t k → t.length + i + 1 ≤ k + acc.length
  | 0, i, acc, t, k, h => by simp [txtF] at h
  | f + 1, i, acc, t, k, h => by
    unfold txtF at h
    split at h
    · exact absurd h (by simp)
    · split at h
      · exact absurd h (by simp)
      · split at h
        · injection h with h1 h2; subst h1; omega
        · split at h
          · split at h
            · exact absurd h (by simp)
            · rename_i b k1 he
              have h1 := esc_grow he
              have h2 := txt_len s f k1 (acc ++ b) t k h
              rw [List.length_append] at h2
              omega
          · have h2 := txt_len s f (i + 1) (acc ++ [_]) t k h
            rw [List.length_append, List.length_cons, List.length_nil] at h2
            omega
theorem text_len {s : List UInt8} {i k : Nat} {t : List UInt8} (h : textP s i = .ok t k) : t.length + i + 2 ≤ k := by
  have hg := skip_ge s i
  unfold textP at h
  split at h
  · exact absurd h (by simp)
  · rename_i k1 hk1
    have e2 : k1 = skipP s i + 1 := by
      unfold needP at hk1
      split at hk1
      · injection hk1 with _ h2; exact h2.symm
      · exact absurd hk1 (by simp)
    have := txt_len s _ _ _ _ _ h
    simp only [List.length_nil] at this
    omega
theorem keyW_snoc (ks : List (List UInt8)) (k : List UInt8) : JT.keyW (ks ++ [k]) = JT.keyW ks + (6 * k.length + 8) := by
  unfold JT.keyW
  simp
theorem wts_snoc (l : List JT) (j : JT) : JT.wts (l ++ [j]) = JT.wts l + (j.wt + 2) := by
  induction l with
  | nil => simp [JT.wts]
  | cons a l ih => simp only [List.cons_append, JT.wts, ih]; omega

/-- how much it weighs -/
theorem val_wt (s : List UInt8) : ∀ (f d i : Nat) (j : JT) (k : Nat), valF s f d i = .ok j k → j.wt + 48 * i ≤ 48 * k
  | 0, d, i, j, k, h => by simp [valF] at h
  | f + 1, d, i, j, k, h => by
    have hg := skip_ge s i
    unfold valF at h
    split at h
    · exact absurd h (by simp)
    · rename_i c hc
      unfold valP at h
      split at h
      · exact absurd h (by simp)
      · split at h
        · obtain ⟨rfl, rfl⟩ := word_ok h
          simp [JT.wt, JT.keyW, JT.wts, wN]; omega
        split at h
        · obtain ⟨rfl, rfl⟩ := word_ok h
          simp [JT.wt, JT.keyW, JT.wts, wT]; omega
        split at h
        · obtain ⟨rfl, rfl⟩ := word_ok h
          simp [JT.wt, JT.keyW, JT.wts, wF]; omega
        split at h
        · split at h
          · exact absurd h (by simp)
          · rename_i t e ht
            injection h with h h2; subst h; subst h2
            have := text_len ht
            simp [JT.wt, JT.keyW, JT.wts]; omega
        split at h
        · split at h
          · exact absurd h (by simp)
          · rename_i n e hn
            injection h with h h2; subst h; subst h2
            have := (num_ok hn).2
            simp [JT.wt, JT.keyW, JT.wts]; omega
        split at h
        · obtain ⟨st, hst, rfl⟩ := listP_ok h
          have hq := items_pos (fun (st : KK) i' => st.1 = [] ∧ JT.wts st.2 + 48 * skipP s i + 48 ≤ 48 * i') (fun st k => st.1 = [] ∧ JT.wts st.2 + 48 * skipP s i + 46 ≤ 48 * k)
            (fun st i' st' k hp ho => by
              obtain ⟨j, hv, rfl⟩ := oneL_ok ho
              have hw := val_wt s f (d + 1) i' j k hv
              refine ⟨hp.1, ?_⟩
              have := hp.2
              show JT.wts (st.2 ++ [j]) + 48 * skipP s i + 46 ≤ 48 * k
              rw [wts_snoc]
              omega)
            (fun st k k' h _ => ⟨h.1, by have := h.2; omega⟩) (fun i' _ => ⟨rfl, by simp only [JT.wts]; omega⟩) hst
          have hq2 : st.1 = [] ∧ JT.wts st.2 + 48 * skipP s i + 46 ≤ 48 * k := by
            rcases hq with ⟨e, hk⟩ | ⟨k, h, hk⟩
            · obtain ⟨e1, e2⟩ := kk_eq e
              exact ⟨e1, by rw [e2]; simp only [JT.wts]; omega⟩
            · exact ⟨h.1, by have := h.2; omega⟩
          obtain ⟨q1, q2⟩ := hq2
          simp only [JT.wt, q1, JT.keyW, List.map_nil, List.sum_nil, List.length_nil]
          omega
        split at h
        · obtain ⟨st, hst, rfl⟩ := listP_ok h
          have hq := items_pos (fun (st : KK) i' => JT.keyW st.1 + JT.wts st.2 + 48 * skipP s i + 48 ≤ 48 * i') (fun st k => JT.keyW st.1 + JT.wts st.2 + 48 * skipP s i + 46 ≤ 48 * k)
            (fun st i' st' k hp ho => by
              obtain ⟨key, k1, j, ht, _, hv, rfl⟩ := oneM_ok ho
              have hw := val_wt s f (d + 1) _ j k hv
              have ht := text_len ht
              have g1 := skip_ge s i'
              have g2 := skip_ge s k1
              show JT.keyW (st.1 ++ [key]) + JT.wts (st.2 ++ [j]) + 48 * skipP s i + 46 ≤ 48 * k
              rw [wts_snoc, keyW_snoc]
              omega)
            (fun st k k' h _ => by omega) (fun i' _ => by simp only [JT.wts, JT.keyW, List.map_nil, List.sum_nil]; omega) hst
          have hq2 : JT.keyW st.1 + JT.wts st.2 + 48 * skipP s i + 46 ≤ 48 * k := by
            rcases hq with ⟨e, hk⟩ | ⟨k, h, hk⟩
            · obtain ⟨e1, e2⟩ := kk_eq e
              rw [e1, e2]; simp only [JT.wts, JT.keyW, List.map_nil, List.sum_nil]; omega
            · omega
          simp only [JT.wt, List.length_nil]
          omega
        · exact absurd h (by simp)

/-- what is parsed of a text: it can be printed, and weighs so much -/
theorem parse_right {s : List UInt8} {j : JT} {k : Nat} (h : parseP s = .ok j k) : (printM 40 j).1 = 0 ∧ j.wt ≤ 48 * s.length ∧ k = 0 := by
  unfold parseP at h
  split at h
  · exact absurd h (by simp)
  · rename_i j' k' hv
    split at h
    · exact absurd h (by simp)
    · rename_i hs
      injection h with h1 h2
      subst h1
      have hr := val_right s 41 0 0 j' k' (by omega) hv
      have hw := val_wt s 41 0 0 j' k' hv
      have ha := val_ahead s 41 0 0 (Nat.zero_le _)
      rw [hv] at ha
      have hk := ha.2
      exact ⟨hr, by omega, h2.symm⟩
end Go.Proofs.YtgpjcjnimheglaaDoor.Jp
