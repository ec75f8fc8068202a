/-
  THE PLAIN LAW of the plain spans: plainL is what the document's Plain finds.
-/
import Derived.Test.YtffcfnnbdmihaaaDoorPlainMath
namespace Go.Proofs.YtffcfnnbdmihaaaDoor

def Step2 (a b : Sp) : Prop := a.t = b.f → b.s.data.toList ≠ [] ∧ a.f < a.t
def Canon : List Sp → Prop
  | [] => True
  | s :: r => (s.f < s.t ∨ s.s.data.toList ≠ []) ∧ (∀ b, r.head? = some b → Step2 s b) ∧ Canon r

theorem canon_snoc {l : List Sp} {s : Sp} : Canon (l ++ [s]) ↔ Canon l ∧ (s.f < s.t ∨ s.s.data.toList ≠ []) ∧ (∀ o, l.getLast? = some o → Step2 o s) := by
  induction l with
  | nil => simp [Canon]
  | cons x r ih =>
    cases r with
    | nil =>
      simp only [List.cons_append, List.nil_append, Canon, List.head?_cons, Option.some.injEq, List.getLast?_singleton, List.head?_nil]
      constructor
      · rintro ⟨a, b, c, -⟩; exact ⟨⟨a, (fun b h => by cases h), trivial⟩, c, fun o h => b s rfl |> fun h' => by subst h; exact h'⟩
      · rintro ⟨⟨a, -⟩, c, d⟩; exact ⟨a, (fun b h => by subst h; exact d x rfl), c, (fun b h => by cases h), trivial⟩
    | cons y r =>
      simp only [List.cons_append, Canon] at ih ⊢
      rw [ih]
      simp only [List.head?_cons, Option.some.injEq, List.getLast?_cons_cons]
      constructor
      · rintro ⟨a, b, ⟨c, d⟩, e, f⟩; exact ⟨⟨a, b, c, d⟩, e, f⟩
      · rintro ⟨⟨a, b, c, d⟩, e, f⟩; exact ⟨a, b, ⟨c, d⟩, e, f⟩

theorem canon_step {m : Int} {out : List Sp} {s : Sp} (hc : Chain m 0 out) (hcan : Canon out) (_h1 : m ≤ s.f) (h2 : s.f ≤ s.t) : Canon (plainStep out s) := by
  unfold plainStep
  split
  · exact hcan
  · rename_i hn
    have hne : s.f < s.t ∨ s.s.data.toList ≠ [] := by
      rcases Int.lt_or_le s.f s.t with h | h
      · exact .inl h
      · refine .inr fun he => hn ?_
        unfold Sp.isNone
        have e : s.t = s.f := by omega
        rw [ByteArray.toList_eq, he]
        simp [e]
    have hcase : out = [] ∨ ∃ init o, out = init ++ [o] := by
      rcases List.eq_nil_or_concat out with h | ⟨a, b, h⟩
      · exact .inl h
      · exact .inr ⟨a, b, by rw [h, List.concat_eq_append]⟩
    rcases hcase with rfl | ⟨init, o, rfl⟩
    · exact ⟨hne, (fun b h => by cases h), trivial⟩
    · simp only [List.getLast?_concat, List.dropLast_concat]
      obtain ⟨c1, c2, c3⟩ := chain_snoc.1 hc
      obtain ⟨k1, k2, k3⟩ := canon_snoc.1 hcan
      split
      · rename_i h
        obtain ⟨h3, h4⟩ := h
        have ho : o.s.data.toList ≠ [] := by
          rcases k2 with h | h
          · omega
          · exact h
        have hd : (o.s ++ s.s).data.toList = o.s.data.toList ++ s.s.data.toList := by rw [ByteArray.data_append, Array.toList_append]
        refine canon_snoc.2 ⟨k1, .inr ?_, fun p hp he => ⟨?_, (k3 p hp he).2⟩⟩
        · show (o.s ++ s.s).data.toList ≠ []
          rw [hd]; simp [ho]
        · show (o.s ++ s.s).data.toList ≠ []
          rw [hd]; simp [ho]
      · split
        · rename_i h
          obtain ⟨h3, h4⟩ := h
          have hse : s.s.data.toList = [] := by rw [ByteArray.toList_eq] at h4; simpa using h4
          refine canon_snoc.2 ⟨k1, .inl ?_, fun p hp he => k3 p hp he⟩
          show o.f < s.t
          rcases hne with h | h
          · omega
          · exact absurd hse h
        · rename_i h5 h6
          refine canon_snoc.2 ⟨canon_snoc.2 ⟨k1, k2, k3⟩, hne, fun p hp he => ?_⟩
          simp only [List.getLast?_concat, Option.some.injEq] at hp
          subst hp
          refine ⟨fun hs => h6 ⟨he, ?_⟩, ?_⟩
          · rw [ByteArray.toList_eq, hs]; rfl
          · rcases Int.lt_or_le o.f o.t with h | h
            · exact h
            · exact absurd ⟨by omega, he⟩ h5
theorem canon_fold {n : Int} (l : List Sp) : ∀ (m : Int) (out : List Sp), Chain m 0 out → Canon out → Chain n m l → Canon (l.foldl plainStep out) := by
  induction l with
  | nil => intro m out _ h _; exact h
  | cons s r ih =>
    intro m out hc h hl
    obtain ⟨h1, h2, h3, h4⟩ := hl
    exact ih s.t (plainStep out s) (plainStep_spec hc h1 h2).1 (canon_step hc h h1 h2) h4
theorem canon_plainL {n : Int} {l : List Sp} (h : Chain n 0 l) : Canon (plainL l) := by
  have h0 : (0 : Int) ≤ 0 := Int.le_refl _
  exact canon_fold l 0 [] h0 trivial h

/-- where the walk of the document's Plain stands: at the gap g; rest: what is still to come -/
structure At (n : Nat) (I : Nat → List UInt8) (O : Nat → Bool) (g : Nat) (rest : List Sp) : Prop where
  ch : rest = [] ∨ Chain n g rest
  ca : Canon rest
  ag : ∀ k, g ≤ k → I k = inB rest k ∧ O k = outB rest k

theorem At.skip {n : Nat} {I : Nat → List UInt8} {O : Nat → Bool} {g : Nat} {rest : List Sp} (h : At n I O g rest) (hs : ∀ s, rest.head? = some s → (g : Int) < s.f) :
    I g = [] ∧ O g = false ∧ At n I O (g + 1) rest := by
  obtain ⟨a1, a2⟩ := h.ag g (Nat.le_refl _)
  cases rest with
  | nil => exact ⟨by rw [a1]; rfl, by rw [a2]; rfl, .inl rfl, h.ca, fun k hk => h.ag k (by omega)⟩
  | cons s r =>
    have hf := hs s rfl
    have hc := h.ch.resolve_left (by simp)
    obtain ⟨h1, h2, h3, h4⟩ := hc
    have hc' : Chain n ((g : Int) + 1) (s :: r) := ⟨by omega, h2, h3, h4⟩
    exact ⟨by rw [a1]; exact inB_nil hc' (by omega), by rw [a2]; exact outB_nil hc' (by omega), .inr (by simpa using hc'), h.ca, fun k hk => h.ag k (by omega)⟩

theorem At.ins {n : Nat} {I : Nat → List UInt8} {O : Nat → Bool} {g : Nat} {s : Sp} {r : List Sp} (h : At n I O g (s :: r)) (hf : s.f = g) (ht : s.t = g) :
    I g = s.s.data.toList ∧ I g ≠ [] ∧ O g = false ∧ At n I O (g + 1) r := by
  obtain ⟨a1, a2⟩ := h.ag g (Nat.le_refl _)
  obtain ⟨k1, k2, k3⟩ := h.ca
  have hc := h.ch.resolve_left (by simp)
  obtain ⟨h1, h2, h3, h4⟩ := hc
  have hr : r = [] ∨ Chain n ((g : Int) + 1) r := by
    cases r with
    | nil => exact .inl rfl
    | cons b r =>
      right
      obtain ⟨i1, i2, i3, i4⟩ := h4
      refine ⟨?_, i2, i3, i4⟩
      have := k2 b rfl
      rcases Int.lt_or_le s.t b.f with h | h
      · omega
      · exact absurd (this (by omega)).2 (by omega)
  have hn1 : inB r g = [] := by
    rcases hr with rfl | hr
    · rfl
    · exact inB_nil hr (by omega)
  have hn2 : outB r g = false := by
    rcases hr with rfl | hr
    · rfl
    · exact outB_nil hr (by omega)
  have e1 : I g = s.s.data.toList := by rw [a1, inB_cons, hn1, if_pos hf, List.append_nil]
  refine ⟨e1, ?_, ?_, hr, k3, fun k hk => ?_⟩
  · rw [e1]
    rcases k1 with h | h
    · omega
    · exact h
  · rw [a2, outB_cons, hn2, Bool.or_false, hf, ht]
    simp
  · obtain ⟨b1, b2⟩ := h.ag k (by omega)
    rw [b1, b2, inB_cons, outB_cons, if_neg (by omega), hf, ht]
    exact ⟨rfl, by simp; omega⟩

theorem At.cut {n : Nat} {I : Nat → List UInt8} {O : Nat → Bool} {g t : Nat} {s : Sp} {r : List Sp} (h : At n I O g (s :: r)) (hf : s.f = g) (ht : s.t = t) (hgt : g < t) :
    I g = s.s.data.toList ∧ (∀ k, g ≤ k → k < t → O k = true) ∧ (∀ k, g < k → k < t → I k = []) ∧ (O t = false ∨ I t ≠ []) ∧ t ≤ n ∧ At n I O t r := by
  obtain ⟨k1, k2, k3⟩ := h.ca
  have hc := h.ch.resolve_left (by simp)
  obtain ⟨h1, h2, h3, h4⟩ := hc
  rw [ht] at h4
  have hA : At n I O t r := ⟨.inr h4, k3, fun k hk => by
    obtain ⟨b1, b2⟩ := h.ag k (by omega)
    rw [b1, b2, inB_cons, outB_cons, if_neg (by omega), hf, ht]
    exact ⟨rfl, by simp; omega⟩⟩
  refine ⟨?_, fun k hk1 hk2 => ?_, fun k hk1 hk2 => ?_, ?_, by omega, hA⟩
  · rw [(h.ag g (Nat.le_refl _)).1, inB_cons, inB_nil h4 (by omega), if_pos hf, List.append_nil]
  · rw [(h.ag k hk1).2, outB_cons, hf, ht]
    simp; omega
  · rw [(h.ag k (by omega)).1, inB_cons, inB_nil h4 (by omega), if_neg (by omega)]; rfl
  · obtain ⟨b1, b2⟩ := hA.ag t (Nat.le_refl _)
    cases r with
    | nil => left; rw [b2]; rfl
    | cons b r =>
      obtain ⟨i1, i2, i3, i4⟩ := h4
      rcases Int.lt_or_le t b.f with hlt | hge
      · left
        rw [b2]
        exact outB_nil (n := n) (a := (t : Int) + 1) ⟨by omega, i2, i3, i4⟩ (by omega)
      · right
        have e : s.t = b.f := by omega
        rw [b1, inB_cons, if_pos (by omega)]
        simp [(k2 b rfl e).1]
theorem At.start {n : Nat} {l : List Sp} (h : Chain n 0 l) : At n (inB l) (outB l) 0 (plainL l) := by
  obtain ⟨p1, p2⟩ := plainL_spec h
  exact ⟨.inr p1, canon_plainL h, fun k _ => ⟨(p2 k).1.symm, (p2 k).2.symm⟩⟩
end Go.Proofs.YtffcfnnbdmihaaaDoor
