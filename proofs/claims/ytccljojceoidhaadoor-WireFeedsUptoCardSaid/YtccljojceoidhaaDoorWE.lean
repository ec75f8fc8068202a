/-
  THE PLAIN LAW of WireFeeds: a reader that is fed piece by piece is where one is that is fed at once; the document's way of reading frames.
-/
import Derived.Test.YtccljojceoidhaaDoorWA
namespace Go.Proofs.YtccljojceoidhaaDoor.Wire
open Go.Lib

/-- more bytes behind: the same step -/
def RS.plus (r : RS) (b : List UInt8) : RS := { r with rest := r.rest ++ b }

theorem cut_plus (s b : List UInt8) (h : (cut s crlf).2.2 = true) : cut (s ++ b) crlf = ((cut s crlf).1, (cut s crlf).2.1 ++ b, true) := by
  have h0 : 0 ≤ index s crlf := by
    unfold cut at h
    split at h
    · assumption
    · simp at h
  have hroom := index_room s crlf h0
  have e2 : (crlf.length : Int) = 2 := rfl
  rcases index_spec s crlf with ⟨hi, _⟩ | ⟨i, hi, hle, ho, hno⟩
  · omega
  · have hs : index (s ++ b) crlf = i := by
      refine index_first (by rw [List.length_append]; omega) ?_ fun j hj => ?_
      · rw [occ_iff] at ho ⊢
        rw [List.getElem?_append_left (by omega), List.getElem?_append_left (by omega)]
        exact ho
      · cases hc : occAt (s ++ b) crlf j with
        | false => rfl
        | true =>
          rw [occ_iff, List.getElem?_append_left (by omega), List.getElem?_append_left (by omega), ← occ_iff, hno j hj] at hc
          cases hc
    unfold cut
    rw [hs, hi, if_pos (by omega), if_pos (by omega)]
    refine Prod.ext ?_ (Prod.ext ?_ rfl)
    · simp only [Int.toNat_natCast]
      rw [List.take_append_of_le_length (by omega)]
    · simp only [Int.toNat_natCast]
      have e3 : crlf.length = 2 := rfl
      rw [List.drop_append_of_le_length (by omega)]

theorem line_plus (s : List UInt8) (r : RS) (b : List UInt8) : lineM s (r.plus b) = (lineM s r).plus b := by
  unfold lineM RS.plus
  simp only
  split
  · rfl
  · split
    · rfl
    · split
      · rfl
      · split <;> rfl

theorem step_plus (r : RS) (b : List UInt8) (hg : r.good) (h : (stepM r).2.2 = true) : stepM (r.plus b) = ((stepM r).1.plus b, (stepM r).2.1, true) := by
  unfold stepM at h ⊢
  cases hb : r.body with
  | true =>
    have h0 := hg.2.2 hb
    rw [hb] at h
    simp only [if_true] at h
    have hn : ¬ (r.rest.length : Int) < r.len := by
      intro hc
      rw [if_pos hc] at h
      simp at h
    have hb' : (r.plus b).body = true := hb
    rw [hb']
    simp only [if_true]
    rw [if_neg hn, if_neg (by show ¬ ((r.rest ++ b).length : Int) < r.len; rw [List.length_append]; omega)]
    refine Prod.ext ?_ (Prod.ext ?_ rfl)
    · show ({ rest := (r.rest ++ b).drop r.len.toNat, len := -1, body := false, err := r.err } : RS) = { rest := r.rest.drop r.len.toNat ++ b, len := -1, body := false, err := r.err }
      rw [List.drop_append_of_le_length (by omega)]
    · show some ((r.rest ++ b).take r.len.toNat) = some (r.rest.take r.len.toNat)
      rw [List.take_append_of_le_length (by omega)]
  | false =>
    obtain ⟨rest, len, body, err⟩ := r
    simp only at hb
    subst hb
    simp only [Bool.false_eq_true, if_false] at h
    have hc : (cut rest crlf).2.2 = true := by
      cases hc : (cut rest crlf).2.2 with
      | true => rfl
      | false => rw [if_pos hc] at h; simp at h
    have hcp := cut_plus rest b hc
    rw [if_neg (by rw [hc]; simp)] at h
    have hl : lineM (cut rest crlf).1 ⟨(cut rest crlf).2.1 ++ b, len, false, err⟩ = (lineM (cut rest crlf).1 ⟨(cut rest crlf).2.1, len, false, err⟩).plus b := line_plus (cut rest crlf).1 ⟨(cut rest crlf).2.1, len, false, err⟩ b
    simp only [RS.plus, Bool.false_eq_true, if_false, hcp, hc] at hl ⊢
    simp only at h
    rw [hl]
    simp only [Bool.true_eq_false, if_false]
    refine Prod.ext rfl (Prod.ext rfl ?_)
    exact h

/-- a step that is taken leaves no fault; one that is not leaves the reader as it is, but for a fault -/
theorem step_ok (r : RS) (he : r.err = 0) (h : (stepM r).2.2 = true) : (stepM r).1.err = 0 := by
  unfold stepM at h ⊢
  split
  · rename_i hb
    rw [if_pos hb] at h
    split
    · rename_i h1; rw [if_pos h1] at h; simp at h
    · exact he
  · rename_i hb
    rw [if_neg hb] at h
    split
    · rename_i h1; rw [if_pos h1] at h; simp at h
    · rename_i h1
      rw [if_neg h1] at h
      simpa using h
theorem runM_mono (n : Nat) : ∀ (r : RS) (o : List (List UInt8)), r.good → phi r < n → r.err = 0 → (runM n r o).1.err = 0 → (runM n r o).1.good ∧ (stepM (runM n r o).1).2.2 = false ∧
    ∀ (b : List UInt8) (m : Nat), phi (r.plus b) < m → runM m (r.plus b) o = runM (phi ((runM n r o).1.plus b) + 1) ((runM n r o).1.plus b) (runM n r o).2 := by
  induction n with
  | zero => intro r o _ h; omega
  | succ n ih =>
    intro r o hg hn he h
    cases ht : (stepM r).2.2 with
    | true =>
      have hphi := phi_step r hg ht
      have hgs := good_step r hg ht
      have hes := step_ok r he ht
      rw [runM, if_pos ht] at h ⊢
      obtain ⟨k1, k2, k3⟩ := ih (stepM r).1 (o ++ (stepM r).2.1.toList) hgs (by omega) hes h
      refine ⟨k1, k2, fun b m hm => ?_⟩
      have hp := step_plus r b hg ht
      have htp : (stepM (r.plus b)).2.2 = true := by rw [hp]
      have hgp : (r.plus b).good := hg
      have hphip := phi_step (r.plus b) hgp htp
      obtain ⟨m, rfl⟩ : ∃ k, m = k + 1 := ⟨m - 1, by omega⟩
      rw [runM, if_pos htp, hp]
      simp only
      rw [hp] at hphip
      exact k3 b m (by simp only at hphip; omega)
    | false =>
      rw [runM_stop _ _ _ ht] at h ⊢
      have hr : (stepM r).1 = r := by
        unfold stepM at ht h ⊢
        split
        · rename_i hb
          rw [if_pos hb] at ht
          split
          · rfl
          · rename_i h1; rw [if_neg h1] at ht; simp at ht
        · rename_i hb
          rw [if_neg hb] at ht h
          split
          · rename_i h1
            rw [if_pos h1] at h
            simp only at h ⊢
            rw [h]
            obtain ⟨a, b, c, d⟩ := r
            simp only at he ⊢
            rw [he]
          · rename_i h1
            rw [if_neg h1] at ht h
            simp only at ht h
            rw [h] at ht
            simp at ht
      rw [hr]
      exact ⟨hg, ht, fun b m hm => runM_fuel m (phi (r.plus b) + 1) (r.plus b) o good_step hg hm (by omega)⟩

theorem runM_go (n : Nat) (r : RS) (o : List (List UInt8)) (h : (stepM r).2.2 = true) : runM (n + 1) r o = runM n (stepM r).1 (o ++ (stepM r).2.1.toList) := by rw [runM, if_pos h]

/-- all at once -/
def allM (s : List UInt8) : RS × List (List UInt8) := feedM r0 s

theorem runM_app : ∀ (n : Nat) (r : RS) (o : List (List UInt8)), runM n r o = ((runM n r []).1, o ++ (runM n r []).2)
  | 0, r, o => by simp [runM]
  | n + 1, r, o => by
    simp only [runM]
    split
    · rw [runM_app n _ (o ++ (stepM r).2.1.toList), runM_app n _ ([] ++ (stepM r).2.1.toList)]
      simp
    · simp

/-- what is fed behind what was fed without a fault -/
theorem all_run (a : List UInt8) : allM a = runM (phi { r0 with rest := r0.rest ++ a } + 1) { r0 with rest := r0.rest ++ a } [] := by
  unfold allM feedM
  rw [if_pos (show r0.err = 0 from rfl)]
theorem feed_run (r : RS) (b : List UInt8) (h : r.err = 0) : feedM r b = runM (phi (r.plus b) + 1) (r.plus b) [] := by
  unfold feedM
  rw [if_pos h]; rfl
theorem feed_all (a b : List UInt8) (h : (allM a).1.err = 0) : allM (a ++ b) = ((feedM (allM a).1 b).1, (allM a).2 ++ (feedM (allM a).1 b).2) ∧ (allM a).1.good := by
  have hm := runM_mono (phi { r0 with rest := r0.rest ++ a } + 1) { r0 with rest := r0.rest ++ a } [] r0_good (Nat.lt_succ_self _) rfl (by rw [← all_run]; exact h)
  rw [← all_run] at hm
  obtain ⟨k1, _, k3⟩ := hm
  have k4 := k3 b (phi { r0 with rest := r0.rest ++ (a ++ b) } + 1) (by
    show phi { r0 with rest := (r0.rest ++ a) ++ b } < _
    rw [List.append_assoc]; omega)
  have e : (RS.plus { r0 with rest := r0.rest ++ a } b) = { r0 with rest := r0.rest ++ (a ++ b) } := by unfold RS.plus; simp
  rw [e] at k4
  refine ⟨?_, k1⟩
  rw [all_run (a ++ b), k4, feed_run _ b h, runM_app]

/-! ### the document's way -/

/-- what a line says of the body's length; -1: nothing; -2: it is no line -/
def lengthM (s : List UInt8) : Int := if lenB s then valD (s.drop 16) else if (cut s [58]).2.2 = false ∨ (cut s [58]).1 = hd then -2 else -1
def tooLong (s : List UInt8) : Bool := decide (1000 < s.length) && (decide (1001 < s.length) || s.getLast? != some 13)

theorem too_eq (s : List UInt8) : tooLong s = decide (1000 < (trimSuffix s [13]).length) := by
  unfold tooLong trimSuffix hasSuffix
  rcases List.eq_nil_or_concat s with rfl | ⟨l, a, rfl⟩
  · simp
  · have h1 : (l.concat a).length = l.length + 1 := by simp
    have hs : [13].isSuffixOf (l.concat a) = (a == 13) := by
      rw [List.isSuffixOf, List.concat_eq_append, List.reverse_append]
      simp [List.isPrefixOf]
      rw [Bool.eq_iff_iff]; simp; exact ⟨fun h => h.symm, fun h => h.symm⟩
    have hl : (l.concat a).getLast? = some a := by simp
    rw [hs, hl, h1]
    by_cases ha : a = 13
    · subst ha
      rw [Bool.eq_iff_iff]
      simp
      omega
    · have h2 : (a == 13) = false := by simp [ha]
      rw [h2]
      simp [ha]

/-- the frames of a text, from a place on: fuel is the rest's length -/
def refF : Nat → List UInt8 → Int → List (List UInt8) → List (List UInt8) × Int
  | 0, _, _, o => (o, 0)
  | n + 1, s, size, o =>
    if (cut s crlf).2.2 = false then (o, if tooLong s then 12 else 0)
    else if 1000 < (cut s crlf).1.length then (o, 12)
    else if (cut s crlf).1 ≠ [] then
      if lengthM (cut s crlf).1 = -2 then (o, 3)
      else refF n (cut s crlf).2.1 (if 0 ≤ lengthM (cut s crlf).1 then lengthM (cut s crlf).1 else size) o
    else if size < 0 then (o, 3)
    else if ((cut s crlf).2.1.length : Int) < size then (o, 0)
    else refF n ((cut s crlf).2.1.drop size.toNat) (-1) (o ++ [(cut s crlf).2.1.take size.toNat])

theorem ref_run : ∀ (n : Nat) (s : List UInt8) (size : Int) (o : List (List UInt8)), s.length < n → -1 ≤ size → size ≤ 9999999999 →
    ∀ m, phi ⟨s, size, false, 0⟩ < m → refF n s size o = ((runM m ⟨s, size, false, 0⟩ o).2, (runM m ⟨s, size, false, 0⟩ o).1.err)
  | 0, s, size, o, h, _, _, _, _ => by omega
  | n + 1, s, size, o, h, h1, h2, m, hm => by
    obtain ⟨m, rfl⟩ : ∃ k, m = k + 1 := ⟨m - 1, by omega⟩
    simp only [refF]
    cases hc : (cut s crlf).2.2 with
    | false =>
      rw [if_pos rfl]
      have hst : stepM ⟨s, size, false, 0⟩ = (⟨s, size, false, if 1000 < (trimSuffix s [13]).length then 12 else 0⟩, none, false) := by
        unfold stepM; simp [hc]
      rw [runM_stop _ _ _ (by rw [hst]), hst, too_eq]
      by_cases ht : 1000 < (trimSuffix s [13]).length
      · simp [ht]
      · simp [ht]
    | true =>
      rw [if_neg (by simp)]
      have hlen := cut_len s hc
      have hst : stepM ⟨s, size, false, 0⟩ = (lineM (cut s crlf).1 ⟨(cut s crlf).2.1, size, false, 0⟩, none, (lineM (cut s crlf).1 ⟨(cut s crlf).2.1, size, false, 0⟩).err == 0) := by
        unfold stepM; simp [hc]
      generalize cut s crlf = C at *
      obtain ⟨x, y, z⟩ := C
      simp only at hlen hst ⊢
      have hphi : phi ⟨y, size, false, 0⟩ + 4 ≤ phi ⟨s, size, false, 0⟩ := by simp [phi]; omega
      by_cases hx : 1000 < x.length
      · rw [if_pos hx]
        have hl : lineM x ⟨y, size, false, 0⟩ = ⟨y, size, false, 12⟩ := by unfold lineM; rw [if_pos hx]
        rw [hl] at hst
        rw [runM_stop _ _ _ (by rw [hst]; rfl), hst]
      · rw [if_neg hx]
        by_cases hx0 : x = []
        · rw [if_neg (by simp [hx0])]
          subst hx0
          by_cases hs : size < 0
          · rw [if_pos hs]
            have hl : lineM [] ⟨y, size, false, 0⟩ = ⟨y, size, true, 3⟩ := by unfold lineM; simp [hs]
            rw [hl] at hst
            rw [runM_stop _ _ _ (by rw [hst]; rfl), hst]
          · rw [if_neg hs]
            have hl : lineM [] ⟨y, size, false, 0⟩ = ⟨y, size, true, 0⟩ := by unfold lineM; simp [hs]
            rw [hl] at hst
            have hp2 : phi ⟨y, size, true, 0⟩ < m := by simp [phi] at hphi hm ⊢; omega
            rw [runM_go _ _ _ (by rw [hst]; rfl), hst]
            simp only [Option.toList, List.append_nil]
            obtain ⟨m, rfl⟩ : ∃ k, m = k + 1 := ⟨m - 1, by omega⟩
            by_cases hy : (y.length : Int) < size
            · rw [if_pos hy]
              have hst2 : stepM ⟨y, size, true, 0⟩ = (⟨y, size, true, 0⟩, none, false) := by unfold stepM; simp [hy]
              rw [runM_stop _ _ _ (by rw [hst2]), hst2]
            · rw [if_neg hy]
              have hst2 : stepM ⟨y, size, true, 0⟩ = (⟨y.drop size.toNat, -1, false, 0⟩, some (y.take size.toNat), true) := by
                unfold stepM; simp only [if_true]; rw [if_neg hy]
              rw [runM_go _ _ _ (by rw [hst2]), hst2]
              exact ref_run n _ (-1) _ (by rw [List.length_drop]; omega) (by omega) (by omega) m (by simp [phi] at hp2 ⊢; omega)
        · rw [if_pos hx0]
          by_cases hB : lenB x = true
          · have hv := valD_bound (x.drop 16) (lenB_parts hB).2.2.1
            have hM : lengthM x = valD (x.drop 16) := by unfold lengthM; rw [if_pos hB]
            have hl : lineM x ⟨y, size, false, 0⟩ = ⟨y, valD (x.drop 16), false, 0⟩ := by
              unfold lineM; rw [if_neg hx, if_neg (by simpa using hx0), if_pos hB]
            rw [hM, if_neg (by omega), if_pos hv.1]
            rw [hl] at hst
            rw [runM_go _ _ _ (by rw [hst]; rfl), hst]
            simp only [Option.toList, List.append_nil]
            exact ref_run n y _ o (by omega) (by omega) hv.2 m (by simp [phi] at hphi hm ⊢; omega)
          · have hB2 : lenB x = false := by simpa using hB
            by_cases hc2 : (cut x [58]).2.2 = false ∨ (cut x [58]).1 = hd
            · have hM : lengthM x = -2 := by unfold lengthM; rw [if_neg hB, if_pos hc2]
              have hl : lineM x ⟨y, size, false, 0⟩ = ⟨y, size, false, 3⟩ := by
                unfold lineM; rw [if_neg hx, if_neg (by simpa using hx0), if_neg hB, if_pos hc2]
              rw [hM, if_pos rfl]
              rw [hl] at hst
              rw [runM_stop _ _ _ (by rw [hst]; rfl), hst]
            · have hM : lengthM x = -1 := by unfold lengthM; rw [if_neg hB, if_neg hc2]
              have hl : lineM x ⟨y, size, false, 0⟩ = ⟨y, size, false, 0⟩ := by
                unfold lineM; rw [if_neg hx, if_neg (by simpa using hx0), if_neg hB, if_neg hc2]
              rw [hM, if_neg (by omega), if_neg (by omega)]
              rw [hl] at hst
              rw [runM_go _ _ _ (by rw [hst]; rfl), hst]
              simp only [Option.toList, List.append_nil]
              exact ref_run n y size o (by omega) h1 h2 m (by simp [phi] at hphi hm ⊢; omega)

/-- what the document finds in a text is what a reader finds that is fed it at once -/
def framesM (s : List UInt8) : List (List UInt8) × Int := refF (s.length + 1) s (-1) []
theorem frames_all (s : List UInt8) : framesM s = ((allM s).2, (allM s).1.err) := by
  unfold framesM allM feedM
  rw [if_pos (show r0.err = 0 from rfl)]
  exact ref_run (s.length + 1) s (-1) [] (by omega) (by omega) (by omega) _ (by simp [r0, phi])

end Go.Proofs.YtccljojceoidhaaDoor.Wire
