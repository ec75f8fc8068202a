/-
  PLAIN LAWS OF EDITS (no program in sight): what spans mean, gap by gap and byte by byte; what one edit is behind another.
-/
import Derived.Test.YtffcfnnbdmihaaaDoorBehind
namespace Go.Proofs.YtffcfnnbdmihaaaDoor

def inB (l : List Sp) (g : Nat) : List UInt8 := (l.filter fun s => decide (s.f = (g : Int))).flatMap fun s => s.s.data.toList
def outB (l : List Sp) (k : Nat) : Bool := l.any fun s => decide (s.f ≤ (k : Int)) && decide ((k : Int) < s.t)

def preD (I : Nat → List UInt8) (O : Nat → Bool) : Nat → List UInt8 → List UInt8
  | _, [] => []
  | g, b :: r => I g ++ (if O g then [] else [b]) ++ preD I O (g + 1) r
def doesD (I : Nat → List UInt8) (O : Nat → Bool) (g : Nat) (l : List UInt8) : List UInt8 := preD I O g l ++ I (g + l.length)

theorem preD_append (I : Nat → List UInt8) (O : Nat → Bool) (g : Nat) (u v : List UInt8) : preD I O g (u ++ v) = preD I O g u ++ preD I O (g + u.length) v := by
  induction u generalizing g with
  | nil => simp [preD]
  | cons b r ih =>
    simp only [List.cons_append, preD, ih, List.append_assoc, List.length_cons]
    rw [show g + 1 + r.length = g + (r.length + 1) from by omega]
theorem doesD_append (I : Nat → List UInt8) (O : Nat → Bool) (g : Nat) (u v : List UInt8) : doesD I O g (u ++ v) = preD I O g u ++ doesD I O (g + u.length) v := by
  unfold doesD
  rw [preD_append, List.append_assoc, List.length_append, Nat.add_assoc]
theorem preD_copy (I : Nat → List UInt8) (O : Nat → Bool) (g : Nat) (u : List UInt8) (h : ∀ k, g ≤ k → k < g + u.length → I k = [] ∧ O k = false) : preD I O g u = u := by
  induction u generalizing g with
  | nil => rfl
  | cons b r ih =>
    obtain ⟨h1, h2⟩ := h g (Nat.le_refl _) (by simp)
    simp only [preD, h1, h2, List.nil_append]
    rw [ih (g + 1) fun k hk hk' => h k (by omega) (by simp only [List.length_cons]; omega)]
    simp
theorem preD_gone (I : Nat → List UInt8) (O : Nat → Bool) (g : Nat) (u : List UInt8) (h : ∀ k, g ≤ k → k < g + u.length → I k = [] ∧ O k = true) : preD I O g u = [] := by
  induction u generalizing g with
  | nil => rfl
  | cons b r ih =>
    obtain ⟨h1, h2⟩ := h g (Nat.le_refl _) (by simp)
    simp only [preD, h1, h2, List.nil_append]
    rw [ih (g + 1) fun k hk hk' => h k (by omega) (by simp only [List.length_cons]; omega)]
    simp
theorem preD_congr {I I' : Nat → List UInt8} {O O' : Nat → Bool} (g : Nat) (u : List UInt8) (h : ∀ k, g ≤ k → k < g + u.length → I k = I' k ∧ O k = O' k) : preD I O g u = preD I' O' g u := by
  induction u generalizing g with
  | nil => rfl
  | cons b r ih =>
    obtain ⟨h1, h2⟩ := h g (Nat.le_refl _) (by simp)
    simp only [preD, h1, h2]
    rw [ih (g + 1) fun k hk hk' => h k (by omega) (by simp only [List.length_cons]; omega)]
theorem doesD_congr {I I' : Nat → List UInt8} {O O' : Nat → Bool} (g : Nat) (u : List UInt8) (h : ∀ k, g ≤ k → k ≤ g + u.length → I k = I' k ∧ O k = O' k) : doesD I O g u = doesD I' O' g u := by
  unfold doesD
  rw [preD_congr g u fun k hk hk' => h k hk (by omega), (h (g + u.length) (by omega) (by omega)).1]

theorem inB_nil {n : Int} {l : List Sp} : ∀ {a : Int} {g : Nat}, Chain n a l → (g : Int) < a → inB l g = [] := by
  induction l with
  | nil => intros; rfl
  | cons s r ih =>
    intro a g h hg
    obtain ⟨h1, h2, h3, h4⟩ := h
    have := ih (g := g) h4 (by omega)
    unfold inB at this ⊢
    rw [List.filter_cons, if_neg (by simp; omega)]
    exact this
theorem outB_nil {n : Int} {l : List Sp} : ∀ {a : Int} {g : Nat}, Chain n a l → (g : Int) < a → outB l g = false := by
  induction l with
  | nil => intros; rfl
  | cons s r ih =>
    intro a g h hg
    obtain ⟨h1, h2, h3, h4⟩ := h
    have := ih (g := g) h4 (by omega)
    unfold outB at this ⊢
    rw [List.any_cons, this]
    simp; omega
theorem inB_cons (s : Sp) (r : List Sp) (g : Nat) : inB (s :: r) g = (if s.f = (g : Int) then s.s.data.toList else []) ++ inB r g := by
  unfold inB
  rw [List.filter_cons]
  by_cases h : s.f = (g : Int)
  · rw [if_pos (by simpa using h), if_pos h]; simp
  · rw [if_neg (by simpa using h), if_neg h]; simp
theorem outB_cons (s : Sp) (r : List Sp) (g : Nat) : outB (s :: r) g = ((decide (s.f ≤ (g : Int)) && decide ((g : Int) < s.t)) || outB r g) := by
  simp [outB]

/-- what right spans make of a text, from a place on -/
theorem inB_snoc (l : List Sp) (s : Sp) (g : Nat) : inB (l ++ [s]) g = inB l g ++ if s.f = (g : Int) then s.s.data.toList else [] := by
  unfold inB
  rw [List.filter_append, List.flatMap_append]
  by_cases h : s.f = (g : Int)
  · simp [h]
  · simp [h]
theorem outB_snoc (l : List Sp) (s : Sp) (g : Nat) : outB (l ++ [s]) g = (outB l g || (decide (s.f ≤ (g : Int)) && decide ((g : Int) < s.t))) := by simp [outB]

def appA (text : List UInt8) (a : Int) (l : List Sp) : List UInt8 := preGo text a l ++ text.drop (lastT a l).toNat
theorem appA_nil (text : List UInt8) (a : Int) : appA text a [] = text.drop a.toNat := by simp [appA, preGo, lastT]
theorem appA_cons (text : List UInt8) (a : Int) (s : Sp) (r : List Sp) : appA text a (s :: r) = (text.drop a.toNat).take (s.f.toNat - a.toNat) ++ s.s.data.toList ++ appA text s.t r := by
  simp [appA, preGo, lastT]
theorem applyL_appA (text : List UInt8) (l : List Sp) : applyL text l = appA text 0 l := rfl

theorem take_drop_add (t : List UInt8) (a b c : Nat) (h1 : a ≤ b) (h2 : b ≤ c) : (t.drop a).take (c - a) = (t.drop a).take (b - a) ++ (t.drop b).take (c - b) := by
  rw [show c - a = (b - a) + (c - b) from by omega, List.take_add, List.drop_drop, show a + (b - a) = b from by omega]
theorem drop_take_drop (t : List UInt8) (a b : Nat) (h1 : a ≤ b) : t.drop a = (t.drop a).take (b - a) ++ t.drop b := by
  have := (List.take_append_drop (b - a) (t.drop a)).symm
  rwa [List.drop_drop, show a + (b - a) = b from by omega] at this

/-- WHAT SPANS DO, gap by gap -/
theorem appA_does (text : List UInt8) {l : List Sp} : ∀ {a : Nat}, Chain text.length a l → appA text a l = doesD (inB l) (outB l) a (text.drop a) := by
  induction l with
  | nil =>
    intro a h
    rw [appA_nil, doesD, preD_copy]
    · simp [inB]
    · intro k _ _; exact ⟨rfl, rfl⟩
  | cons s r ih =>
    intro a h
    obtain ⟨h1, h2, h3, h4⟩ := h
    obtain ⟨f, hf⟩ := Int.eq_ofNat_of_zero_le (a := s.f) (by omega)
    obtain ⟨t, ht⟩ := Int.eq_ofNat_of_zero_le (a := s.t) (by omega)
    rw [appA_cons, hf, ht]
    rw [hf] at h1 h2
    rw [ht] at h2 h3 h4
    rw [ih h4]
    simp only [Int.toNat_natCast]
    have haf : a ≤ f := by omega
    have hft : f ≤ t := by omega
    have htn : t ≤ text.length := by omega
    -- the bytes ahead of the span
    rw [show doesD (inB (s :: r)) (outB (s :: r)) a (text.drop a) = doesD (inB (s :: r)) (outB (s :: r)) a ((text.drop a).take (f - a) ++ text.drop f) from by rw [← drop_take_drop text a f haf], doesD_append]
    have hl1 : ((text.drop a).take (f - a)).length = f - a := by simp; omega
    rw [preD_copy (inB (s :: r)) _ _ _ (by
      intro k hk hk'
      rw [hl1] at hk'
      rw [inB_cons, outB_cons, inB_nil h4 (by omega), outB_nil h4 (by omega), if_neg (by omega)]
      simp; omega)]
    rw [hl1, show a + (f - a) = f from by omega, List.append_assoc]
    congr 1
    -- the bytes taken out
    rw [show doesD (inB (s :: r)) (outB (s :: r)) f (text.drop f) = doesD (inB (s :: r)) (outB (s :: r)) f ((text.drop f).take (t - f) ++ text.drop t) from by rw [← drop_take_drop text f t hft], doesD_append]
    have hl2 : ((text.drop f).take (t - f)).length = t - f := by simp; omega
    rw [hl2, show f + (t - f) = t from by omega]
    by_cases heq : f = t
    · subst heq
      simp only [Nat.sub_self, List.take_zero, preD, List.nil_append]
      have e : ∀ u, doesD (inB (s :: r)) (outB (s :: r)) f u = s.s.data.toList ++ doesD (inB r) (outB r) f u := by
        intro u
        have hi : inB (s :: r) f = s.s.data.toList ++ inB r f := by rw [inB_cons, if_pos hf]
        cases u with
        | nil => simp only [doesD, preD, List.length_nil, Nat.add_zero, List.nil_append]; exact hi
        | cons b v =>
          have e1 : doesD (inB (s :: r)) (outB (s :: r)) (f + 1) v = doesD (inB r) (outB r) (f + 1) v := by
            apply doesD_congr
            intro k hk _
            rw [inB_cons, outB_cons, if_neg (by omega)]
            simp; omega
          have e2 : ∀ I O, doesD I O f (b :: v) = I f ++ (if O f then [] else [b]) ++ doesD I O (f + 1) v := by
            intro I O
            simp only [doesD, preD, List.length_cons, List.append_assoc]
            rw [show f + 1 + v.length = f + (v.length + 1) from by omega]
          rw [e2, e2, e1, hi, outB_cons]
          have : (decide (s.f ≤ (f : Int)) && decide ((f : Int) < s.t)) = false := by simp; omega
          rw [this]
          simp
      rw [e]
    · have hlt : f < t := by omega
      obtain ⟨c, u, hu⟩ : ∃ c u, (text.drop f).take (t - f) = c :: u := by
        cases hh : (text.drop f).take (t - f) with
        | nil => rw [hh] at hl2; simp at hl2; omega
        | cons c u => exact ⟨c, u, rfl⟩
      rw [hu]
      have hul : u.length = t - f - 1 := by rw [hu] at hl2; simp at hl2; omega
      simp only [preD]
      rw [preD_gone _ _ (f + 1) u (by
        intro k hk hk'
        rw [inB_cons, outB_cons, inB_nil h4 (by omega), if_neg (by omega)]
        simp; omega)]
      have hi : inB (s :: r) f = s.s.data.toList := by rw [inB_cons, if_pos hf, inB_nil h4 (by omega), List.append_nil]
      have ho : outB (s :: r) f = true := by rw [outB_cons]; simp; omega
      rw [hi, ho]
      simp only [if_true, List.append_nil]
      congr 1
      apply doesD_congr
      intro k hk _
      rw [inB_cons, outB_cons, if_neg (by omega)]
      simp; omega

theorem applyL_does {text : List UInt8} {l : List Sp} (h : Chain text.length 0 l) : applyL text l = doesD (inB l) (outB l) 0 text := by
  rw [applyL_appA]
  have := appA_does text (a := 0) h
  simpa using this
end Go.Proofs.YtffcfnnbdmihaaaDoor
