/-
  THE PLAIN LAW of an edit that undoes one.
-/
import Derived.Test.YtffcfnnbdmihaaaDoorEdMath
namespace Go.Proofs.YtffcfnnbdmihaaaDoor

def grow (l : List Sp) : Int := (l.map fun s => (s.s.size : Int) - (s.t - s.f)).sum
def cutB (text : List UInt8) (f t : Int) : List UInt8 := (text.drop f.toNat).take (t.toNat - f.toNat)
def invL (text : List UInt8) : Int → List Sp → List Sp
  | _, [] => []
  | d, s :: r => ⟨s.f + d, s.f + d + s.s.size, ⟨(cutB text s.f s.t).toArray⟩⟩ :: invL text (d + (s.s.size - (s.t - s.f))) r

theorem grow_snoc (l : List Sp) (s : Sp) : grow (l ++ [s]) = grow l + (s.s.size - (s.t - s.f)) := by simp [grow]
theorem invL_len (text : List UInt8) (d : Int) (l : List Sp) : (invL text d l).length = l.length := by
  induction l generalizing d with
  | nil => rfl
  | cons s r ih => simp [invL, ih]
theorem invL_snoc (text : List UInt8) (d : Int) (l : List Sp) (s : Sp) :
    invL text d (l ++ [s]) = invL text d l ++ [⟨s.f + (d + grow l), s.f + (d + grow l) + s.s.size, ⟨(cutB text s.f s.t).toArray⟩⟩] := by
  induction l generalizing d with
  | nil => simp [invL, grow]
  | cons x l ih =>
    simp only [List.cons_append, invL, ih]
    rw [show d + ((x.s.size : Int) - (x.t - x.f)) + grow l = d + grow (x :: l) from by simp [grow]; omega]

theorem inv_thm (text u : List UInt8) {l : List Sp} : ∀ {a : Nat} {d : Int} {pre : List UInt8}, Chain text.length a l → u = pre ++ appA text a l → (pre.length : Int) = a + d →
    Chain u.length pre.length (invL text d l) ∧ appA u pre.length (invL text d l) = text.drop a := by
  induction l with
  | nil =>
    intro a d pre h hu hp
    subst hu
    refine ⟨?_, ?_⟩
    · show (pre.length : Int) ≤ _
      rw [List.length_append]; omega
    · rw [invL, appA_nil, appA_nil]; simp
  | cons s r ih =>
    intro a d pre h hu hp
    obtain ⟨h1, h2, h3, h4⟩ := h
    obtain ⟨f, hf⟩ := Int.eq_ofNat_of_zero_le (a := s.f) (by omega)
    obtain ⟨t, ht⟩ := Int.eq_ofNat_of_zero_le (a := s.t) (by omega)
    rw [hf] at h1 h2
    rw [ht] at h2 h3 h4
    have haf : a ≤ f := by omega
    have hft : f ≤ t := by omega
    have htn : t ≤ text.length := by omega
    have hl1 : ((text.drop a).take (f - a)).length = f - a := by simp; omega
    have hsz := dlen s.s
    have hpl : (pre ++ (text.drop a).take (f - a) ++ s.s.data.toList).length = pre.length + (f - a) + s.s.size := by
      rw [List.length_append, List.length_append, hl1, hsz]
    have hu2 : u = (pre ++ (text.drop a).take (f - a) ++ s.s.data.toList) ++ appA text t r := by
      rw [hu, appA_cons, hf, ht]; simp
    obtain ⟨i1, i2⟩ := ih (a := t) (d := d + (s.s.size - (s.t - s.f))) (pre := pre ++ (text.drop a).take (f - a) ++ s.s.data.toList) h4 hu2 (by rw [hpl, hf, ht]; omega)
    rw [hpl] at i1 i2
    have hul : u.length = pre.length + (f - a) + s.s.size + (appA text t r).length := by rw [hu2, List.length_append, hpl]
    have e1 : s.f + d = ((pre.length + (f - a) : Nat) : Int) := by rw [hf]; omega
    have e2 : s.f + d + s.s.size = ((pre.length + (f - a) + s.s.size : Nat) : Int) := by rw [hf]; omega
    refine ⟨⟨?_, ?_, ?_, ?_⟩, ?_⟩
    · show (pre.length : Int) ≤ s.f + d; omega
    · show s.f + d ≤ s.f + d + s.s.size; omega
    · show s.f + d + s.s.size ≤ u.length; omega
    · show Chain _ (s.f + d + s.s.size) _; rw [e2]; exact i1
    · rw [invL, appA_cons]
      simp only [e1, Int.toNat_natCast]
      rw [Nat.add_sub_cancel_left, show ((pre.length + (f - a) : Nat) : Int) + s.s.size = ((pre.length + (f - a) + s.s.size : Nat) : Int) from by omega, i2]
      have e3 : (u.drop pre.length).take (f - a) = (text.drop a).take (f - a) := by
        rw [hu, appA_cons, hf]
        simp only [Int.toNat_natCast, List.drop_left]
        rw [List.append_assoc, List.take_append_of_le_length (by rw [hl1]; exact Nat.le_refl _), List.take_take, Nat.min_self]
      rw [e3]
      unfold cutB
      rw [hf, ht]
      simp only [Int.toNat_natCast]
      rw [List.append_assoc, ← drop_take_drop text f t hft, ← drop_take_drop text a f haf]
theorem inv_ok {text : List UInt8} {l : List Sp} (h : fault text.length l = 0) : fault (applyL text l).length (invL text 0 l) = 0 ∧ applyL (applyL text l) (invL text 0 l) = text := by
  have hc := (fault_zero h).2
  obtain ⟨h1, h2⟩ := inv_thm text (applyL text l) (a := 0) (d := 0) (pre := []) hc (by rfl) rfl
  exact ⟨fault_of_chain (by omega) h1, by simpa [applyL_appA] using h2⟩
theorem invL_bytes (text : List UInt8) {n : Int} {l : List Sp} : ∀ {a d : Int}, 0 ≤ a → Chain n a l → (spBytes (invL text d l) : Int) + a ≤ lastT a l := by
  induction l with
  | nil => intro a d h0 h; simp [invL, spBytes, lastT]
  | cons s r ih =>
    intro a d h0 h
    obtain ⟨h1, h2, h3, h4⟩ := h
    have i1 := ih (a := s.t) (d := d + (s.s.size - (s.t - s.f))) (by omega) h4
    have i2 : (cutB text s.f s.t).length ≤ s.t.toNat - s.f.toNat := by unfold cutB; rw [List.length_take]; exact Nat.min_le_left _ _
    have e : spBytes (invL text d (s :: r)) = (cutB text s.f s.t).length + spBytes (invL text (d + (s.s.size - (s.t - s.f))) r) := by
      simp only [invL, spBytes, List.map_cons, List.sum_cons, mk_size]
    rw [e]
    simp only [lastT]
    omega
end Go.Proofs.YtffcfnnbdmihaaaDoor
