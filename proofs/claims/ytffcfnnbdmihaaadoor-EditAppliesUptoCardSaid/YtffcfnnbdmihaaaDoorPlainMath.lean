/-
  PLAIN LAW OF EDITS: the plain spans mean what the spans mean; two hands converge.
-/
import Derived.Test.YtffcfnnbdmihaaaDoorBehThm
namespace Go.Proofs.YtffcfnnbdmihaaaDoor

theorem Chain.mono {m n : Int} (h : m ≤ n) {l : List Sp} : ∀ {a : Int}, Chain m a l → Chain n a l := by
  induction l with
  | nil => intro a h1; exact Int.le_trans h1 h
  | cons s r ih => intro a h1; obtain ⟨a1, a2, a3, a4⟩ := h1; exact ⟨a1, a2, by omega, ih a4⟩
theorem chain_snoc {n : Int} {l : List Sp} {s : Sp} : ∀ {a : Int}, Chain n a (l ++ [s]) ↔ Chain s.f a l ∧ s.f ≤ s.t ∧ s.t ≤ n := by
  induction l with
  | nil =>
    intro a
    constructor
    · rintro ⟨h1, h2, h3, _⟩; exact ⟨h1, h2, h3⟩
    · rintro ⟨h1, h2, h3⟩; exact ⟨h1, h2, h3, h3⟩
  | cons x r ih =>
    intro a
    constructor
    · rintro ⟨h1, h2, h3, h4⟩
      obtain ⟨i1, i2, i3⟩ := ih.1 h4
      have : x.t ≤ s.f := Int.le_trans (i1.last).1 (i1.last).2
      exact ⟨⟨h1, h2, this, i1⟩, i2, i3⟩
    · rintro ⟨⟨h1, h2, h3, h4⟩, h5, h6⟩
      exact ⟨h1, h2, by omega, ih.2 ⟨h4, h5, h6⟩⟩
theorem plainStep_spec {m : Int} {out : List Sp} {s : Sp} (hc : Chain m 0 out) (h1 : m ≤ s.f) (h2 : s.f ≤ s.t) :
    Chain s.t 0 (plainStep out s) ∧ (∀ g, inB (plainStep out s) g = inB (out ++ [s]) g ∧ outB (plainStep out s) g = outB (out ++ [s]) g) := by
  unfold plainStep
  split
  · rename_i h
    unfold Sp.isNone at h
    simp only [Bool.and_eq_true, decide_eq_true_eq] at h
    obtain ⟨h3, h4⟩ := h
    have hse : s.s.data.toList = [] := by rw [ByteArray.toList_eq] at h4; simpa using h4
    refine ⟨hc.mono (by omega), fun g => ⟨?_, ?_⟩⟩
    · rw [inB_snoc, hse]; simp
    · rw [outB_snoc]
      have : (decide (s.f ≤ (g : Int)) && decide ((g : Int) < s.t)) = false := by
        cases h' : (decide (s.f ≤ (g : Int)) && decide ((g : Int) < s.t)) with
        | false => rfl
        | true => simp at h'; omega
      rw [this, Bool.or_false]
  · have hcase : out = [] ∨ ∃ init o, out = init ++ [o] := by
      rcases List.eq_nil_or_concat out with h | ⟨a, b, h⟩
      · exact .inl h
      · exact .inr ⟨a, b, by rw [h, List.concat_eq_append]⟩
    rcases hcase with rfl | ⟨init, o, rfl⟩
    · simp only [List.getLast?_nil, List.nil_append]
      have : (0 : Int) ≤ m := hc
      exact ⟨⟨by omega, h2, Int.le_refl _, Int.le_refl _⟩, fun g => ⟨trivial, trivial⟩⟩
    · simp only [List.getLast?_concat, List.dropLast_concat]
      obtain ⟨c1, c2, c3⟩ := chain_snoc.1 hc
      split
      · rename_i h
        obtain ⟨h3, h4⟩ := h
        refine ⟨chain_snoc.2 ⟨c1, by simp only; omega, Int.le_refl _⟩, fun g => ⟨?_, ?_⟩⟩
        · rw [inB_snoc, inB_snoc, inB_snoc, h3]
          have : (o.s ++ s.s).data.toList = o.s.data.toList ++ s.s.data.toList := by rw [ByteArray.data_append, Array.toList_append]
          simp only [this]
          split <;> simp
        · rw [outB_snoc, outB_snoc, outB_snoc, h3, h4, Bool.or_assoc]
          congr 1
          have : (decide (s.f ≤ (g : Int)) && decide ((g : Int) < s.f)) = false := by
            cases h' : (decide (s.f ≤ (g : Int)) && decide ((g : Int) < s.f)) with
            | false => rfl
            | true => simp at h'; omega
          rw [this, Bool.false_or]
      · split
        · rename_i h
          obtain ⟨h3, h4⟩ := h
          have hse : s.s.data.toList = [] := by rw [ByteArray.toList_eq] at h4; simpa using h4
          refine ⟨chain_snoc.2 ⟨c1, by simp only; omega, Int.le_refl _⟩, fun g => ⟨?_, ?_⟩⟩
          · rw [inB_snoc, inB_snoc, inB_snoc, hse]
            simp
          · rw [outB_snoc, outB_snoc, outB_snoc, Bool.or_assoc]
            congr 1
            rw [Bool.eq_iff_iff]
            simp
            omega
        · exact ⟨chain_snoc.2 ⟨hc.mono h1, h2, Int.le_refl _⟩, fun g => ⟨rfl, rfl⟩⟩

theorem plain_spec {n : Int} (l : List Sp) : ∀ (m : Int) (out l0 : List Sp), Chain m 0 out → Chain n m l → (∀ g, inB out g = inB l0 g ∧ outB out g = outB l0 g) →
    Chain n 0 (l.foldl plainStep out) ∧ ∀ g, inB (l.foldl plainStep out) g = inB (l0 ++ l) g ∧ outB (l.foldl plainStep out) g = outB (l0 ++ l) g := by
  induction l with
  | nil => intro m out l0 hc hl he; exact ⟨hc.mono hl, fun g => by simpa using he g⟩
  | cons s r ih =>
    intro m out l0 hc hl he
    obtain ⟨h1, h2, h3, h4⟩ := hl
    obtain ⟨p1, p2⟩ := plainStep_spec hc h1 h2
    have := ih s.t (plainStep out s) (l0 ++ [s]) p1 h4 fun g => by
      obtain ⟨q1, q2⟩ := p2 g
      rw [q1, q2, inB_snoc, inB_snoc, outB_snoc, outB_snoc, (he g).1, (he g).2]
      exact ⟨rfl, rfl⟩
    simpa using this
theorem plainL_spec {n : Int} {l : List Sp} (h : Chain n 0 l) : Chain n 0 (plainL l) ∧ ∀ g, inB (plainL l) g = inB l g ∧ outB (plainL l) g = outB l g := by
  have h0 : (0 : Int) ≤ 0 := Int.le_refl _
  exact plain_spec l 0 [] [] h0 h fun g => ⟨rfl, rfl⟩
theorem applyL_plain {text : List UInt8} {l : List Sp} (h : Chain text.length 0 l) : applyL text (plainL l) = applyL text l := by
  rw [applyL_does h, applyL_does (plainL_spec h).1]
  exact doesD_congr 0 text fun k _ _ => (plainL_spec h).2 k

/-- what both hands mean -/
def bothL (text : List UInt8) (a b : List Sp) : List UInt8 := doesD (fun g => inB a g ++ inB b g) (fun k => outB a k || outB b k) 0 text

theorem merge_x {text : List UInt8} {a b : List Sp} (ha : Chain text.length 0 a) (hb : Chain text.length 0 b) :
    fault ((applyL text b).length : Int) (behindL (plainL a) (plainL b) true) = 0 ∧ applyL (applyL text b) (behindL (plainL a) (plainL b) true) = bothL text a b := by
  obtain ⟨pa, qa⟩ := plainL_spec ha
  obtain ⟨pb, qb⟩ := plainL_spec hb
  have := behind_does text (plainL b) true pa pb
  rw [applyL_plain hb] at this
  refine ⟨this.1, this.2.trans ?_⟩
  unfold bothL
  apply doesD_congr
  intro k _ _
  simp only [bothI, bothO, if_true, (qa k).1, (qa k).2, (qb k).1, (qb k).2]
  exact ⟨trivial, trivial⟩
theorem merge_y {text : List UInt8} {a b : List Sp} (ha : Chain text.length 0 a) (hb : Chain text.length 0 b) :
    fault ((applyL text a).length : Int) (behindL (plainL b) (plainL a) false) = 0 ∧ applyL (applyL text a) (behindL (plainL b) (plainL a) false) = bothL text a b := by
  obtain ⟨pa, qa⟩ := plainL_spec ha
  obtain ⟨pb, qb⟩ := plainL_spec hb
  have := behind_does text (plainL a) false pb pa
  rw [applyL_plain ha] at this
  refine ⟨this.1, this.2.trans ?_⟩
  unfold bothL
  apply doesD_congr
  intro k _ _
  simp only [bothI, bothO, Bool.false_eq_true, if_false, (qa k).1, (qa k).2, (qb k).1, (qb k).2]
  exact ⟨trivial, Bool.or_comm _ _⟩
theorem within_of_chain {n : Int} (hn : n ≤ 1048576) {l : List Sp} : ∀ {a : Int}, 0 ≤ a → Chain n a l → Within l := by
  induction l with
  | nil => intro a _ _ s hs; cases hs
  | cons x r ih =>
    intro a ha h s hs
    obtain ⟨h1, h2, h3, h4⟩ := h
    rcases List.mem_cons.1 hs with rfl | hs
    · exact ⟨by omega, h2, by omega⟩
    · exact ih (a := x.t) (by omega) h4 s hs
end Go.Proofs.YtffcfnnbdmihaaaDoor
