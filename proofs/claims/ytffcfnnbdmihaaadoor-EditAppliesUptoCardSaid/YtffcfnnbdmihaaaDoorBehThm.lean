/-
  PLAIN LAW OF EDITS: what one edit is behind another does what both mean.
-/
import Derived.Test.YtffcfnnbdmihaaaDoorBehMath
namespace Go.Proofs.YtffcfnnbdmihaaaDoor

theorem appA_shift (t : List UInt8) {m : Int} {c q : Nat} {X : List Sp} (hX : Chain m c X) (hq : q ≤ c) : appA t q X = (t.drop q).take (c - q) ++ appA t c X := by
  cases X with
  | nil => rw [appA_nil, appA_nil]; exact drop_take_drop t q c hq
  | cons s r =>
    obtain ⟨h1, h2, h3, h4⟩ := hX
    obtain ⟨f, hf⟩ := Int.eq_ofNat_of_zero_le (a := s.f) (by omega)
    rw [appA_cons, appA_cons, hf]
    rw [hf] at h1
    simp only [Int.toNat_natCast]
    rw [take_drop_add t q c f hq (by omega)]
    simp only [List.append_assoc]

section
variable (text : List UInt8) (b : List Sp) (first : Bool)
theorem seg_G {g : Nat} (hg : g ≤ text.length) : seg text b (start text b g) (pos text b first g) = Gq b first g := by
  unfold seg
  rw [made_split text b first hg, List.drop_left' (show (preD (inB b) (outB b) 0 (text.take g)).length = start text b g from rfl), List.take_left' (by unfold pos; omega)]
theorem dpt_F (a b : List Sp) (first : Bool) (g : Nat) (l : List UInt8) (h : inB a g = []) : ∃ r, dpt a b first g l = Fq b first g ++ r := by
  cases l with
  | nil => exact ⟨[], by simp [dpt, h]⟩
  | cons c r => exact ⟨_, by simp only [dpt, h, List.nil_append, List.append_assoc]; rfl⟩
theorem posE_pos (g : Nat) : posE text b g = pos text b first g + (Fq b first g).length := by
  unfold posE pos Gq Fq
  cases first <;> simp
theorem seg_F {g : Nat} (hg : g ≤ text.length) : seg text b (pos text b first g) (posE text b g) = Fq b first g := by
  unfold seg
  rw [made_drop text b first hg, posE_pos text b first, Nat.add_sub_cancel_left]
  obtain ⟨r, hr⟩ := dpt_F [] b first g (text.drop g) rfl
  rw [hr, List.take_left' rfl]
theorem start_run {i : Nat} {gone : Bool} : ∀ (d j : Nat), j = i + 1 + d → j ≤ text.length → (∀ k, i < k → k < j → inB b k = []) → (∀ k, i ≤ k → k < j → outB b k = gone) → start text b j = posE text b i + (if gone then 0 else j - i) := by
  intro d
  induction d with
  | zero =>
    intro j hj hn h1 h2
    subst hj
    rw [start_succ text b (by omega), h2 i (by omega) (by omega)]
    cases gone <;> simp
  | succ d ih =>
    intro j hj hn h1 h2
    subst hj
    have := ih (i + 1 + d) rfl (by omega) (fun k a b => h1 k a (by omega)) (fun k a b => h2 k a (by omega))
    rw [show i + 1 + (d + 1) = (i + 1 + d) + 1 from by omega, start_succ text b (by omega), h2 (i + 1 + d) (by omega) (by omega)]
    unfold posE at this ⊢
    rw [h1 (i + 1 + d) (by omega) (by omega)]
    cases gone <;> simp at * <;> omega
theorem mid_run {i : Nat} : ∀ (d j : Nat), j = i + 1 + d → (∀ k, i < k → k < j → inB b k = []) → midL b first (j - i) i = Fq b first i ++ Gq b first j := by
  intro d
  induction d with
  | zero =>
    intro j hj _
    subst hj
    rw [show i + 1 + 0 - i = 1 from by omega]
    simp [midL]
  | succ d ih =>
    intro j hj h1
    subst hj
    have := ih (i + 1 + d) rfl (fun k a b => h1 k a (by omega))
    rw [show i + 1 + (d + 1) - i = (i + 1 + d - i) + 1 from by omega, midL_add, this, show i + (i + 1 + d - i) = i + 1 + d from by omega]
    have e : inB b (i + 1 + d) = [] := h1 _ (by omega) (by omega)
    have e1 : Gq b first (i + 1 + d) = [] := by unfold Gq; rw [e]; cases first <;> rfl
    have e2 : Fq b first (i + 1 + d) = [] := by unfold Fq; rw [e]; cases first <;> rfl
    simp only [midL, e1, e2, List.nil_append, List.append_nil]
    rfl
theorem seg_gone {i : Nat} : ∀ (d j : Nat), j = i + d → j ≤ text.length → (∀ k, i ≤ k → k < j → outB b k = true) → seg text b (pos text b first i) (pos text b first j) = midL b first (j - i) i := by
  intro d
  induction d with
  | zero => intro j hj _ _; subst hj; simp [seg_self, midL]
  | succ d ih =>
    intro j hj hn h
    subst hj
    have := ih (i + d) rfl (by omega) (fun k a b => h k a (by omega))
    rw [seg_add text b (pos_mono text b first (show i ≤ i + d by omega) (by omega)) (pos_mono text b first (show i + d ≤ i + (d + 1) by omega) hn), this, show i + (d + 1) - i = (i + d - i) + 1 from by omega, midL_add, show i + (i + d - i) = i + d from by omega]
    congr 1
    rw [show i + (d + 1) = i + d + 1 from by omega, seg_block text b first (by omega), h (i + d) (by omega) (by omega)]
    simp [midL]

theorem dels_app (hb : Chain text.length 0 b) {st : Nat} (hst : st ≤ text.length) {X : List Sp} (hX : Chain (made text b).length (pos text b first st) X) :
    ∀ (d from_ : Nat), st - from_ = d → from_ ≤ st → (∀ q, q ≤ pos text b first from_ → appA (made text b) q (delsL b st ((st : Int) - from_).toNat from_ ++ X) = seg text b q (pos text b first from_) ++ midL b first (st - from_) from_ ++ appA (made text b) (pos text b first st) X) ∧
      Chain (made text b).length (pos text b first from_) (delsL b st ((st : Int) - from_).toNat from_ ++ X) := by
  intro d
  induction d using Nat.strongRecOn with
  | ind d ih =>
    intro from_ hd hle
    rcases Nat.eq_or_lt_of_le hle with heq | hlt
    · subst heq
      rw [delsL_end b _ _ (by omega), List.nil_append, Nat.sub_self]
      refine ⟨fun q hq => ?_, hX⟩
      simp only [midL, List.append_nil]
      exact appA_shift _ hX hq
    · obtain ⟨to_, gone, hc, h1, h2, h3, h4⟩ := cut_spec (b := b) hlt
      rw [delsL_step b st from_ (by omega), hc]
      obtain ⟨i1, i2⟩ := ih (st - to_) (by omega) to_ rfl h2
      have hpm : pos text b first from_ ≤ pos text b first to_ := pos_mono text b first (by omega) (by omega)
      have hmid : midL b first (st - from_) from_ = midL b first (to_ - from_) from_ ++ midL b first (st - to_) to_ := by
        rw [show st - from_ = (to_ - from_) + (st - to_) from by omega, midL_add, show from_ + (to_ - from_) = to_ from by omega]
      have hrun := start_run text b (i := from_) (gone := gone) (to_ - from_ - 1) to_ (by omega) (by omega) h3 h4
      cases gone with
      | true =>
        simp only [if_true, List.nil_append]
        refine ⟨fun q hq => ?_, ?_⟩
        · rw [i1 q (by omega), hmid, seg_add text b hq hpm, seg_gone text b first (to_ - from_) to_ (by omega) (by omega) h4]
          simp only [List.append_assoc]
        · revert i2
          generalize delsL b st ((st : Int) - to_).toNat to_ ++ X = Y
          intro i2
          cases Y with
          | nil => have : (pos text b first to_ : Int) ≤ _ := i2
                   show (pos text b first from_ : Int) ≤ _
                   omega
          | cons s r => obtain ⟨a1, a2, a3, a4⟩ := i2; exact ⟨by omega, a2, a3, a4⟩
      | false =>
        simp only [Bool.false_eq_true, if_false, List.cons_append, List.nil_append] at hrun ⊢
        have hpE := posE_grown hb (g := from_) (by omega)
        have hpf : pos text b first from_ ≤ posE text b from_ := by rw [posE_pos text b first]; omega
        have hsp : start text b to_ ≤ pos text b first to_ := by unfold pos; omega
        rw [show (from_ : Int) + grownL b from_ true = (posE text b from_ : Int) from by rw [hpE], show (posE text b from_ : Int) + to_ - from_ = (start text b to_ : Int) from by rw [hrun]; omega]
        have hlm := pos_le_made text b first (g := to_) (by omega)
        refine ⟨fun q hq => ?_, ⟨by simp only; omega, by simp only; omega, by simp only; omega, ?_⟩⟩
        · rw [appA_cons]
          simp only [Int.toNat_natCast]
          rw [i1 _ hsp, hmid, mid_run b first (i := from_) (to_ - from_ - 1) to_ (by omega) h3, seg_G text b first (by omega)]
          have : ((made text b).drop q).take (posE text b from_ - q) = seg text b q (pos text b first from_) ++ Fq b first from_ := by
            rw [← seg_F text b first (g := from_) (by omega), ← seg_add text b hq hpf]; rfl
          rw [this]
          simp only [List.append_assoc]
          rfl
        · revert i2
          generalize delsL b st ((st : Int) - to_).toNat to_ ++ X = Y
          intro i2
          cases Y with
          | nil => have : (pos text b first to_ : Int) ≤ _ := i2
                   show (start text b to_ : Int) ≤ _
                   omega
          | cons s r => obtain ⟨a1, a2, a3, a4⟩ := i2; exact ⟨by simp only; omega, a2, a3, a4⟩

theorem behind_app (hb : Chain text.length 0 b) {a : List Sp} : ∀ {g : Nat}, Chain text.length g a → (∀ q, q ≤ pos text b first g → appA (made text b) q (behindL a b first) = seg text b q (pos text b first g) ++ dpt a b first g (text.drop g)) ∧ Chain (made text b).length (pos text b first g) (behindL a b first) := by
  induction a with
  | nil =>
    intro g h
    have hg : g ≤ text.length := by have : (g : Int) ≤ _ := h; omega
    refine ⟨fun q hq => ?_, ?_⟩
    · rw [behindL, List.flatMap_nil, appA_nil, Int.toNat_natCast, ← made_drop text b first hg]
      exact drop_take_drop _ _ _ hq
    · show (pos text b first g : Int) ≤ _
      have := pos_le_made text b first hg
      omega
  | cons s r ih =>
    intro g h
    obtain ⟨h1, h2, h3, h4⟩ := h
    obtain ⟨f, hf⟩ := Int.eq_ofNat_of_zero_le (a := s.f) (by omega)
    obtain ⟨t, ht⟩ := Int.eq_ofNat_of_zero_le (a := s.t) (by omega)
    rw [hf] at h1 h2
    rw [ht] at h2 h3 h4
    have hfn : f ≤ text.length := by omega
    have htn : t ≤ text.length := by omega
    obtain ⟨i1, i2⟩ := ih h4
    have e : behindL (s :: r) b first = insL b first s ++ (delsL b t ((t : Int) - f).toNat f ++ behindL r b first) := by
      simp only [behindL, List.flatMap_cons, hf, ht, List.append_assoc]
    obtain ⟨d1, d2⟩ := dels_app text b first hb htn i2 (t - f) f rfl (by omega)
    have hgf : pos text b first g ≤ pos text b first f := pos_mono text b first (by omega) hfn
    have hfree := dpt_free text b first (a := s :: r) (n := text.length) (f := f) (show Chain text.length f (s :: r) from ⟨by omega, by omega, by omega, by rw [ht]; exact h4⟩) hfn (f - g) g (by omega)
    have hspan := dpt_span text b first hf ht (by omega) h4 htn
    have hpg := pos_grown hb first hfn
    have hins : insL b first s = if s.s.toList.isEmpty then [] else [⟨(pos text b first f : Int), (pos text b first f : Int), s.s⟩] := by
      unfold insL
      rw [hf, hpg]
    have hrest : ∀ q, q ≤ pos text b first f → appA (made text b) q (delsL b t ((t : Int) - f).toNat f ++ behindL r b first) = seg text b q (pos text b first f) ++ midL b first (t - f) f ++ dpt r b first t (text.drop t) := by
      intro q hq
      rw [d1 q hq, i1 _ (Nat.le_refl _), seg_self, List.nil_append]
    rw [e, hins, hfree, hspan]
    have hlm := pos_le_made text b first hfn
    cases hs : s.s.toList.isEmpty with
    | true =>
      have hse : s.s.data.toList = [] := by
        rw [ByteArray.toList_eq] at hs
        simpa using hs
      simp only [if_true, List.nil_append, hse]
      refine ⟨fun q hq => ?_, ?_⟩
      · rw [hrest q (by omega), seg_add text b hq hgf]
        simp only [List.append_assoc]
      · revert d2
        generalize delsL b t ((t : Int) - f).toNat f ++ behindL r b first = Y
        intro d2
        cases Y with
        | nil => have : (pos text b first f : Int) ≤ _ := d2
                 show (pos text b first g : Int) ≤ _
                 omega
        | cons s r => obtain ⟨a1, a2, a3, a4⟩ := d2; exact ⟨by omega, a2, a3, a4⟩
    | false =>
      simp only [Bool.false_eq_true, if_false, List.cons_append, List.nil_append]
      refine ⟨fun q hq => ?_, ⟨by simp only; omega, by simp only; omega, by simp only; omega, d2⟩⟩
      rw [appA_cons]
      simp only [Int.toNat_natCast]
      rw [hrest _ (Nat.le_refl _), seg_self]
      have : ((made text b).drop q).take (pos text b first f - q) = seg text b q (pos text b first g) ++ seg text b (pos text b first g) (pos text b first f) := by
        rw [← seg_add text b hq hgf]; rfl
      rw [this]
      simp only [List.append_assoc, List.nil_append]

/-- ONE EDIT BEHIND ANOTHER -/
theorem behind_does {a : List Sp} (ha : Chain text.length 0 a) (hb : Chain text.length 0 b) :
    fault ((applyL text b).length : Int) (behindL a b first) = 0 ∧ applyL (applyL text b) (behindL a b first) = doesD (bothI a b first) (bothO a b) 0 text := by
  have hm : applyL text b = made text b := applyL_does hb
  rw [hm]
  obtain ⟨h1, h2⟩ := behind_app text b first hb (g := 0) ha
  have h0 := seg_G text b first (g := 0) (by omega)
  rw [start_zero] at h0
  refine ⟨fault_of_chain (by omega) ?_, ?_⟩
  · revert h2
    generalize behindL a b first = Y
    intro h2
    cases Y with
    | nil => show (0 : Int) ≤ _; omega
    | cons s r => obtain ⟨a1, a2, a3, a4⟩ := h2; exact ⟨by omega, a2, a3, a4⟩
  · rw [applyL_appA, doesD_dpt]
    have := h1 0 (by omega)
    rw [h0] at this
    simpa using this
end
end Go.Proofs.YtffcfnnbdmihaaaDoor
