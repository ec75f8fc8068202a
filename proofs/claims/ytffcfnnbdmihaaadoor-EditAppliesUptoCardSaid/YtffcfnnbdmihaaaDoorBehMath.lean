/-
  PLAIN LAWS OF EDITS: one edit behind another does what both mean.
-/
import Derived.Test.YtffcfnnbdmihaaaDoorEdMath
namespace Go.Proofs.YtffcfnnbdmihaaaDoor

def Gq (b : List Sp) (first : Bool) (g : Nat) : List UInt8 := if first then [] else inB b g
def Fq (b : List Sp) (first : Bool) (g : Nat) : List UInt8 := if first then inB b g else []
def dpt (a b : List Sp) (first : Bool) : Nat → List UInt8 → List UInt8
  | g, [] => inB a g ++ Fq b first g
  | g, c :: r => inB a g ++ Fq b first g ++ (if outB a g || outB b g then [] else [c]) ++ Gq b first (g + 1) ++ dpt a b first (g + 1) r
def bothI (a b : List Sp) (first : Bool) (g : Nat) : List UInt8 := if first then inB a g ++ inB b g else inB b g ++ inB a g
def bothO (a b : List Sp) (k : Nat) : Bool := outB a k || outB b k

theorem doesD_dpt (a b : List Sp) (first : Bool) (g : Nat) (l : List UInt8) : doesD (bothI a b first) (bothO a b) g l = Gq b first g ++ dpt a b first g l := by
  have h0 : ∀ g, bothI a b first g = Gq b first g ++ (inB a g ++ Fq b first g) := by
    intro g; unfold bothI Gq Fq; cases first <;> simp
  induction l generalizing g with
  | nil => simp only [doesD, preD, List.nil_append, List.length_nil, Nat.add_zero, dpt]; exact h0 g
  | cons c r ih =>
    have e : doesD (bothI a b first) (bothO a b) g (c :: r) = bothI a b first g ++ (if bothO a b g then [] else [c]) ++ doesD (bothI a b first) (bothO a b) (g + 1) r := by
      simp only [doesD, preD, List.length_cons, List.append_assoc]
      rw [show g + 1 + r.length = g + (r.length + 1) from by omega]
    rw [e, ih, h0]
    simp only [dpt, bothO, List.append_assoc]
    rfl

theorem dpt_congr {a a' b : List Sp} {first : Bool} (g : Nat) (l : List UInt8) (h : ∀ k, g ≤ k → inB a k = inB a' k ∧ outB a k = outB a' k) : dpt a b first g l = dpt a' b first g l := by
  induction l generalizing g with
  | nil => simp only [dpt, (h g (Nat.le_refl _)).1]
  | cons c r ih =>
    obtain ⟨h1, h2⟩ := h g (Nat.le_refl _)
    simp only [dpt, h1, h2]
    rw [ih (g + 1) fun k hk => h k (by omega)]

section
variable (text : List UInt8) (b : List Sp) (first : Bool)
def start (g : Nat) : Nat := (preD (inB b) (outB b) 0 (text.take g)).length
def pos (g : Nat) : Nat := start text b g + (Gq b first g).length
def posE (g : Nat) : Nat := start text b g + (inB b g).length
def made : List UInt8 := doesD (inB b) (outB b) 0 text

theorem start_zero : start text b 0 = 0 := rfl
theorem start_succ {g : Nat} (hg : g < text.length) : start text b (g + 1) = posE text b g + (if outB b g then 0 else 1) := by
  unfold posE start
  rw [List.take_succ_eq_append_getElem hg, preD_append]
  simp only [preD, List.length_append, List.append_nil, List.length_take, Nat.zero_add]
  rw [show min g text.length = g from by omega]
  split <;> simp [Nat.add_assoc]
theorem made_split {g : Nat} (hg : g ≤ text.length) : made text b = preD (inB b) (outB b) 0 (text.take g) ++ (Gq b first g ++ dpt [] b first g (text.drop g)) := by
  unfold made
  have h1 := doesD_append (inB b) (outB b) 0 (text.take g) (text.drop g)
  rw [List.take_append_drop] at h1
  rw [h1]
  congr 1
  have : (text.take g).length = g := by simp; omega
  rw [this, Nat.zero_add, ← doesD_dpt]
  apply doesD_congr
  intro k _ _
  unfold bothI bothO
  cases first <;> simp [inB, outB]
theorem made_drop {g : Nat} (hg : g ≤ text.length) : (made text b).drop (pos text b first g) = dpt [] b first g (text.drop g) := by
  rw [made_split text b first hg, ← List.append_assoc, List.drop_left']
  simp [pos, start]
theorem pos_le_made {g : Nat} (hg : g ≤ text.length) : pos text b first g ≤ (made text b).length := by
  rw [made_split text b first hg]
  simp only [pos, start, List.length_append]; omega
theorem pos_len {g : Nat} (hg : g < text.length) : pos text b first (g + 1) = pos text b first g + ((Fq b first g).length + (if outB b g then 0 else 1) + (Gq b first (g + 1)).length) := by
  unfold pos
  rw [start_succ text b hg]
  unfold posE Fq Gq
  cases first <;> simp <;> omega
/-- what stands between two places -/
def seg (i j : Nat) : List UInt8 := ((made text b).drop i).take (j - i)
theorem seg_self (i : Nat) : seg text b i i = [] := by simp [seg]
theorem seg_add {i j k : Nat} (h1 : i ≤ j) (h2 : j ≤ k) : seg text b i k = seg text b i j ++ seg text b j k := take_drop_add _ i j k h1 h2
theorem seg_block {g : Nat} (hg : g < text.length) : seg text b (pos text b first g) (pos text b first (g + 1)) = Fq b first g ++ (if outB b g then [] else [text[g]]) ++ Gq b first (g + 1) := by
  unfold seg
  rw [made_drop text b first (by omega), List.drop_eq_getElem_cons hg]
  simp only [dpt]
  rw [List.append_assoc (inB [] g ++ _ ++ _)]
  have e : inB [] g = [] := rfl
  have e2 : outB [] g = false := rfl
  rw [e, e2, pos_len text b first hg, Nat.add_sub_cancel_left]
  simp only [List.nil_append, Bool.false_or]
  rw [← List.append_assoc, List.take_left']
  simp only [List.length_append]
  split <;> simp
theorem pos_mono {g h : Nat} (hgh : g ≤ h) (hh : h ≤ text.length) : pos text b first g ≤ pos text b first h := by
  induction h with
  | zero => have : g = 0 := by omega
            subst this; exact Nat.le_refl _
  | succ h ih =>
    rcases Nat.eq_or_lt_of_le hgh with h1 | h1
    · subst h1; exact Nat.le_refl _
    · have := ih (by omega) (by omega)
      rw [pos_len text b first (by omega)]; omega

theorem dpt_free {a : List Sp} {n : Int} {f : Nat} (hc : Chain n f a) (hf : f ≤ text.length) : ∀ (d g : Nat), g + d = f → dpt a b first g (text.drop g) = seg text b (pos text b first g) (pos text b first f) ++ dpt a b first f (text.drop f) := by
  intro d
  induction d with
  | zero => intro g h; simp only [Nat.add_zero] at h; subst h; rw [seg_self]; rfl
  | succ d ih =>
    intro g h
    have hg : g < text.length := by omega
    rw [seg_add text b (pos_mono text b first (Nat.le_succ g) (by omega)) (pos_mono text b first (by omega) hf), seg_block text b first hg, List.append_assoc, ← ih (g + 1) (by omega)]
    rw [List.drop_eq_getElem_cons hg]
    simp only [dpt]
    rw [inB_nil hc (by omega), outB_nil hc (by omega)]
    simp

def midL : Nat → Nat → List UInt8
  | 0, _ => []
  | n + 1, g => Fq b first g ++ Gq b first (g + 1) ++ midL n (g + 1)
theorem midL_add (m n g : Nat) : midL b first (m + n) g = midL b first m g ++ midL b first n (g + m) := by
  induction m generalizing g with
  | zero => simp [midL]
  | succ m ih =>
    rw [show m + 1 + n = (m + n) + 1 from by omega]
    simp only [midL, ih (g + 1), List.append_assoc]
    rw [show g + 1 + m = g + (m + 1) from by omega]

theorem dpt_gone {s : Sp} {r : List Sp} {n : Int} {f t : Nat} (hf : s.f = f) (ht : s.t = t) (hc : Chain n t r) (htn : t ≤ text.length) : ∀ (d k : Nat), k + d = t → f < k → dpt (s :: r) b first k (text.drop k) = midL b first d k ++ dpt r b first t (text.drop t) := by
  intro d
  induction d with
  | zero =>
    intro k h hk
    simp only [Nat.add_zero] at h
    subst h
    simp only [midL, List.nil_append]
    apply dpt_congr
    intro j hj
    rw [inB_cons, outB_cons, if_neg (by omega)]
    simp; omega
  | succ d ih =>
    intro k h hk
    have hkn : k < text.length := by omega
    rw [List.drop_eq_getElem_cons hkn]
    simp only [dpt, midL]
    rw [ih (k + 1) (by omega) (by omega), inB_cons, outB_cons, inB_nil hc (by omega), if_neg (by omega)]
    have : (decide (s.f ≤ (k : Int)) && decide ((k : Int) < s.t)) = true := by simp; omega
    rw [this]
    simp
theorem dpt_span {s : Sp} {r : List Sp} {n : Int} {f t : Nat} (hf : s.f = f) (ht : s.t = t) (hft : f ≤ t) (hc : Chain n t r) (htn : t ≤ text.length) :
    dpt (s :: r) b first f (text.drop f) = s.s.data.toList ++ midL b first (t - f) f ++ dpt r b first t (text.drop t) := by
  have hcong : ∀ (l : List UInt8) (g : Nat), f < g → t ≤ g → dpt (s :: r) b first g l = dpt r b first g l := fun l g hg hg' => by
    apply dpt_congr
    intro k hk
    rw [inB_cons, outB_cons, if_neg (by omega)]
    simp; omega
  rcases Nat.eq_or_lt_of_le hft with heq | hlt
  · subst heq
    simp only [Nat.sub_self, midL, List.append_nil]
    have hi : inB (s :: r) f = s.s.data.toList ++ inB r f := by rw [inB_cons, if_pos hf]
    have ho : outB (s :: r) f = outB r f := by rw [outB_cons]; simp; omega
    cases text.drop f with
    | nil => simp only [dpt, hi, List.append_assoc]
    | cons c u =>
      simp only [dpt, hi, ho, List.append_assoc]
      rw [hcong u (f + 1) (by omega) (by omega)]
  · have hfn : f < text.length := by omega
    rw [List.drop_eq_getElem_cons hfn]
    simp only [dpt]
    rw [dpt_gone text b first hf ht hc htn (t - (f + 1)) (f + 1) (by omega) (by omega)]
    have hi : inB (s :: r) f = s.s.data.toList := by rw [inB_cons, if_pos hf, inB_nil hc (by omega), List.append_nil]
    have ho : outB (s :: r) f = true := by rw [outB_cons]; simp; omega
    obtain ⟨m, hm⟩ : ∃ m, t - f = m + 1 := ⟨t - f - 1, by omega⟩
    rw [hi, ho, hm, show t - (f + 1) = m from by omega]
    simp [midL]
end

/-- what the cut tells -/
theorem cut_fold (from_ : Int) (b : List Sp) : ∀ (p : Int × Bool),
    (b.foldl (cutStep from_) p).1 ≤ p.1 ∧ (∀ y ∈ b, from_ < y.f → (b.foldl (cutStep from_) p).1 ≤ y.f) ∧ (∀ y ∈ b, y.f ≤ from_ → from_ < y.t → (b.foldl (cutStep from_) p).1 ≤ y.t ∧ (b.foldl (cutStep from_) p).2 = true) ∧
    ((b.foldl (cutStep from_) p).2 = true → p.2 = true ∨ ∃ y ∈ b, y.f ≤ from_ ∧ from_ < y.t) ∧ (p.2 = true → (b.foldl (cutStep from_) p).2 = true) := by
  induction b with
  | nil => intro p; exact ⟨Int.le_refl _, by simp, by simp, fun h => .inl h, fun h => h⟩
  | cons y r ih =>
    intro p
    simp only [List.foldl_cons]
    obtain ⟨i1, i2, i3, i4, i5⟩ := ih (cutStep from_ p y)
    have hs : (cutStep from_ p y).1 ≤ p.1 ∧ (from_ < y.f → (cutStep from_ p y).1 ≤ y.f) ∧ (y.f ≤ from_ → from_ < y.t → (cutStep from_ p y).1 ≤ y.t ∧ (cutStep from_ p y).2 = true) ∧ ((cutStep from_ p y).2 = true → p.2 = true ∨ (y.f ≤ from_ ∧ from_ < y.t)) ∧ (p.2 = true → (cutStep from_ p y).2 = true) := by
      unfold cutStep
      split
      · rename_i h
        exact ⟨by simp only; omega, fun h' => by omega, fun _ _ => ⟨by simp only; omega, rfl⟩, fun _ => .inr h, fun _ => rfl⟩
      · rename_i h
        split
        · exact ⟨by simp only; omega, fun h' => by simp only; omega, fun h1 h2 => absurd ⟨h1, h2⟩ h, fun h' => .inl h', fun h' => h'⟩
        · exact ⟨Int.le_refl _, fun h' => by omega, fun h1 h2 => absurd ⟨h1, h2⟩ h, fun h' => .inl h', fun h' => h'⟩
    obtain ⟨s1, s2, s3, s4, s5⟩ := hs
    refine ⟨by omega, ?_, ?_, ?_, fun h => i5 (s5 h)⟩
    · intro z hz hf
      rcases List.mem_cons.1 hz with rfl | hz
      · have := s2 hf; omega
      · exact i2 z hz hf
    · intro z hz hf hf'
      rcases List.mem_cons.1 hz with rfl | hz
      · have := s3 hf hf'; exact ⟨by omega, i5 this.2⟩
      · exact i3 z hz hf hf'
    · intro h
      rcases i4 h with h | ⟨z, hz, h'⟩
      · rcases s4 h with h | h
        · exact .inl h
        · exact .inr ⟨y, List.mem_cons_self, h⟩
      · exact .inr ⟨z, List.mem_cons_of_mem _ hz, h'⟩
theorem cut_spec {from_ st : Nat} {b : List Sp} (h : from_ < st) : ∃ (to_ : Nat) (gone : Bool), cutL from_ st b = (↑to_, gone) ∧ from_ < to_ ∧ to_ ≤ st ∧ (∀ k, from_ < k → k < to_ → inB b k = []) ∧ (∀ k, from_ ≤ k → k < to_ → outB b k = gone) := by
  have h1 := cutF_bd (from_ := (from_ : Int)) b (p := ((st : Int), false)) (by simp only; omega)
  obtain ⟨i1, i2, i3, i4, _⟩ := cut_fold (from_ : Int) b ((st : Int), false)
  unfold cutL
  generalize b.foldl (cutStep (from_ : Int)) ((st : Int), false) = q at *
  obtain ⟨to_, gone⟩ := q
  simp only at h1 i1 i2 i3 i4
  obtain ⟨t, rfl⟩ := Int.eq_ofNat_of_zero_le (a := to_) (by omega)
  refine ⟨t, gone, rfl, by omega, by omega, ?_, ?_⟩
  · intro k hk hk'
    unfold inB
    rw [List.filter_eq_nil_iff.2]
    · rfl
    · intro y hy
      simp only [decide_eq_true_eq]
      intro e
      have := i2 y hy (by omega)
      omega
  · intro k hk hk'
    cases gone with
    | true =>
      rcases i4 rfl with h | ⟨y, hy, h2, h3⟩
      · cases h
      · have := (i3 y hy h2 h3).1
        unfold outB
        rw [List.any_eq_true]
        exact ⟨y, hy, by simp; omega⟩
    | false =>
      unfold outB
      rw [List.any_eq_false]
      intro y hy
      simp only [Bool.and_eq_true, decide_eq_true_eq]
      rintro ⟨h2, h3⟩
      by_cases hf : y.f ≤ from_
      · have := (i3 y hy hf (by omega)).2
        cases this
      · have := i2 y hy (by omega)
        omega

/-- how far places move -/
theorem inB_len (b : List Sp) (g : Nat) : ((inB b g).length : Int) = (b.map fun s => if s.f = (g : Int) then (s.s.size : Int) else 0).sum := by
  induction b with
  | nil => rfl
  | cons s r ih =>
    rw [inB_cons, List.length_append, Int.natCast_add, ih, List.map_cons, List.sum_cons]
    congr 1
    split
    · rw [dlen]
    · rfl
theorem grown_own (b : List Sp) (g : Nat) : grownL b g true = grownL b g false + (inB b g).length := by
  rw [inB_len]
  induction b with
  | nil => rfl
  | cons s r ih =>
    simp only [grownL, List.map_cons, List.sum_cons] at ih ⊢
    rw [ih]
    have : grownT g true s = grownT g false s + (if s.f = (g : Int) then (s.s.size : Int) else 0) := by
      unfold grownT
      by_cases h1 : s.f < (g : Int)
      · rw [if_pos (.inl h1), if_pos (.inl h1), if_neg (by omega)]; omega
      · by_cases h2 : s.f = (g : Int)
        · rw [if_pos (.inr ⟨rfl, h2⟩), if_neg (by simp; omega), if_pos h2]; omega
        · rw [if_neg (by simp; omega), if_neg (by simp; omega), if_neg h2]; omega
    rw [this]; omega
theorem cover_sum {n : Int} {b : List Sp} (g : Nat) : ∀ {a : Int}, Chain n a b → (b.map fun s => if s.f ≤ (g : Int) ∧ (g : Int) < s.t then (1 : Int) else 0).sum = if outB b g then 1 else 0 := by
  induction b with
  | nil => intros; rfl
  | cons s r ih =>
    intro a h
    obtain ⟨h1, h2, h3, h4⟩ := h
    rw [List.map_cons, List.sum_cons, ih h4, outB_cons]
    by_cases hg : s.f ≤ (g : Int) ∧ (g : Int) < s.t
    · rw [if_pos hg, outB_nil h4 hg.2]; simp [hg]
    · rw [if_neg hg]
      have : (decide (s.f ≤ (g : Int)) && decide ((g : Int) < s.t)) = false := by
        cases h' : (decide (s.f ≤ (g : Int)) && decide ((g : Int) < s.t)) with
        | false => rfl
        | true => simp at h'; exact absurd h' hg
      rw [this]; simp
theorem grown_succ {n : Int} {a : Int} {b : List Sp} (h : Chain n a b) (g : Nat) : grownL b ((g + 1 : Nat) : Int) false = grownL b g true - if outB b g then 1 else 0 := by
  rw [grown_own, inB_len, ← cover_sum g h]
  have hle : ∀ s ∈ b, s.f ≤ s.t := by
    clear g
    induction b generalizing a with
    | nil => simp
    | cons s r ih =>
      obtain ⟨h1, h2, h3, h4⟩ := h
      intro x hx
      rcases List.mem_cons.1 hx with rfl | hx
      · exact h2
      · exact ih h4 x hx
  clear h
  induction b with
  | nil => rfl
  | cons s r ih =>
    have ih := ih fun x hx => hle x (List.mem_cons_of_mem _ hx)
    have hs := hle s List.mem_cons_self
    simp only [grownL, List.map_cons, List.sum_cons] at ih ⊢
    rw [ih]
    have : grownT ((g + 1 : Nat) : Int) false s = grownT g false s + (if s.f = (g : Int) then (s.s.size : Int) else 0) - (if s.f ≤ (g : Int) ∧ (g : Int) < s.t then (1 : Int) else 0) := by
      unfold grownT
      simp only [Bool.false_eq_true, false_and, or_false]
      split <;> split <;> split <;> split <;> omega
    rw [this]; omega
theorem start_grown {text : List UInt8} {b : List Sp} (h : Chain text.length 0 b) {g : Nat} (hg : g ≤ text.length) : (start text b g : Int) = g + grownL b g false := by
  induction g with
  | zero =>
    rw [start_zero]
    have : ∀ {n a : Int} {b : List Sp}, 0 ≤ a → Chain n a b → grownL b ((0 : Nat) : Int) false = 0 := by
      intro n a b
      induction b generalizing a with
      | nil => intros; rfl
      | cons s r ih =>
        intro ha hc
        obtain ⟨h1, h2, h3, h4⟩ := hc
        have := ih (a := s.t) (by omega) h4
        simp only [grownL, List.map_cons, List.sum_cons] at this ⊢
        rw [this]
        unfold grownT
        simp only [Bool.false_eq_true, false_and, or_false]
        split <;> omega
    rw [this (Int.le_refl 0) h]; rfl
  | succ g ih =>
    have ih := ih (by omega)
    rw [start_succ text b (by omega), grown_succ h]
    unfold posE
    rw [grown_own]
    split <;> omega
theorem posE_grown {text : List UInt8} {b : List Sp} (h : Chain text.length 0 b) {g : Nat} (hg : g ≤ text.length) : (posE text b g : Int) = g + grownL b g true := by
  unfold posE
  rw [grown_own, Int.natCast_add, start_grown h hg]; omega
theorem pos_grown {text : List UInt8} {b : List Sp} (h : Chain text.length 0 b) (first : Bool) {g : Nat} (hg : g ≤ text.length) : (pos text b first g : Int) = g + grownL b g (!first) := by
  unfold pos Gq
  cases first with
  | true => simp; exact start_grown h hg
  | false => simp; have := posE_grown h hg; unfold posE at this; simpa using this
end Go.Proofs.YtffcfnnbdmihaaaDoor
