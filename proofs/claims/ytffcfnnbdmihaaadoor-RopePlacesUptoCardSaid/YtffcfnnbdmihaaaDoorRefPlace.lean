/-
  THE WALKS of amanuensisref1.Units, Place, Find.
-/
import Derived.Test.YtffcfnnbdmihaaaDoorRefRune
import Derived.Test.YtffcfnnbdmihaaaDoorRopeBackW
namespace Go.Proofs.YtffcfnnbdmihaaaDoor
open Go.RowKit

set_option maxRecDepth 100000 in
theorem runits_walk (c : Nat) (w : World) : Calls Tryd.prog 57 #[.int .i64 c] w fun e w' => e = .returned (.int .i64 (unitsOf c)) ∧ w = w' := by
  by_cases h : c > 0xFFFF
  · have e1 : unitsOf c = 2 := by unfold unitsOf; rw [if_pos h]
    rw [e1]
    go_enter Tryd.func57, Tryd.ntmps57
    go_wp2
    go_ret
    exact ⟨rfl, rfl⟩
  · have e1 : unitsOf c = 1 := by unfold unitsOf; rw [if_neg h]
    rw [e1]
    go_enter Tryd.func57, Tryd.ntmps57
    go_wp2
    go_ret
    exact ⟨rfl, rfl⟩

theorem rruneAt_walk (s : ByteArray) (i : Nat) (hi : i < s.size) (w : World) :
    Calls Tryd.prog 19 #[.string (s.extract i s.size)] w fun e w' => e = .returned (.tuple #[.int .i64 (cAt s.data.toList i), .int .i64 (sAt s.data.toList i)]) ∧ w = w' := by
  have h := rrune_walk (s.extract i s.size) w (by rw [ByteArray.size_extract]; omega)
  rw [ext_end] at h
  exact h

/- lines and newlines -/
theorem byteAt_drop (T : List UInt8) (i k : Nat) : byteAt (T.drop i) k = byteAt T (i + k) := by
  unfold byteAt
  rw [List.getElem?_drop]
theorem cAt_ten (T : List UInt8) (i : Nat) : cAt T i = 10 ↔ byteAt T i = 10 := by
  have e := byteAt_drop T i 0
  rw [Nat.add_zero] at e
  constructor
  · intro h
    unfold cAt at h
    have hb := byte_lt (T.drop i) 0
    rw [e] at hb
    by_cases h1 : byteAt T i < 128
    · unfold dec at h
      rw [e, if_pos h1] at h
      exact h
    · exfalso
      rw [← e] at h1
      by_cases c2 : 194 ≤ byteAt (T.drop i) 0 ∧ byteAt (T.drop i) 0 ≤ 223
      · cases hq : contAt (T.drop i) 1 with
        | false => rw [dec_stop2 c2.1 c2.2 (k := 1) (by omega) (by omega) hq] at h; simp at h
        | true =>
          have hl := (cont_lt hq).1
          have hc := (contAt_iff hl).1 hq
          rw [dec_full2 c2.1 c2.2 (by omega) (fun k h1 h2 => by have h3 : k = 1 := (by omega); rw [h3]; exact hc), accB_2] at h
          obtain ⟨hc1, hc2⟩ := hc
          split at h <;> simp at h <;> omega
      by_cases c3 : 224 ≤ byteAt (T.drop i) 0 ∧ byteAt (T.drop i) 0 ≤ 239
      · cases hq : contAt (T.drop i) 1 with
        | false => rw [dec_stop3 c3.1 c3.2 (k := 1) (by omega) (by omega) hq] at h; simp at h
        | true =>
        cases hq2 : contAt (T.drop i) 2 with
        | false => rw [dec_stop3 c3.1 c3.2 (k := 2) (by omega) (by omega) hq2] at h; simp at h
        | true =>
          have hl := (cont_lt hq).1
          have hl2 := (cont_lt hq2).1
          have hc := (contAt_iff hl).1 hq
          have hc2 := (contAt_iff hl2).1 hq2
          rw [dec_full3 c3.1 c3.2 (by omega) (fun k h1 h2 => by
            rcases (show k = 1 ∨ k = 2 by omega) with h3 | h3
            · rw [h3]; exact hc
            · rw [h3]; exact hc2)] at h
          split at h
          · simp at h
          · rename_i hw
            simp only at h
            rw [h] at hw
            exact hw (by decide)
      by_cases c4 : 240 ≤ byteAt (T.drop i) 0 ∧ byteAt (T.drop i) 0 ≤ 244
      · cases hq : contAt (T.drop i) 1 with
        | false => rw [dec_stop4 c4.1 c4.2 (k := 1) (by omega) (by omega) hq] at h; simp at h
        | true =>
        cases hq2 : contAt (T.drop i) 2 with
        | false => rw [dec_stop4 c4.1 c4.2 (k := 2) (by omega) (by omega) hq2] at h; simp at h
        | true =>
        cases hq3 : contAt (T.drop i) 3 with
        | false => rw [dec_stop4 c4.1 c4.2 (k := 3) (by omega) (by omega) hq3] at h; simp at h
        | true =>
          have hl3 := (cont_lt hq3).1
          have hc := (contAt_iff (cont_lt hq).1).1 hq
          have hc2 := (contAt_iff (cont_lt hq2).1).1 hq2
          have hc3 := (contAt_iff hl3).1 hq3
          rw [dec_full4 c4.1 c4.2 (by omega) (fun k h1 h2 => by
            rcases (show k = 1 ∨ k = 2 ∨ k = 3 by omega) with h3 | h3 | h3
            · rw [h3]; exact hc
            · rw [h3]; exact hc2
            · rw [h3]; exact hc3)] at h
          split at h
          · simp at h
          · rename_i hw
            simp only at h
            rw [h] at hw
            exact hw (by decide)
      rw [dec_other (by omega) c2 c3 c4 (byte_lt _ _)] at h
      simp at h
  · intro h
    unfold cAt
    rw [dec_ten (by rw [e]; exact h)]
theorem noTen {T : List UInt8} {n i : Nat} (hn : n < (linesOf T).length) (h1 : fromOf T n ≤ i) (h2 : i < toOf T n) : byteAt T i ≠ 10 := by
  intro h
  have ht := (to_bounds hn).2
  have hm : i + 1 ∈ linesOf T := by
    have := starts_mem T 0 i (by omega) h
    rw [Nat.zero_add] at this
    exact List.mem_cons_of_mem _ this
  obtain ⟨m, hm1, hm2⟩ := List.mem_iff_getElem.1 hm
  have hf : fromOf T m = i + 1 := by unfold fromOf; rw [List.getElem?_eq_getElem hm1]; exact hm2
  rcases Nat.lt_or_ge n m with hnm | hnm
  · have h5 : n + 1 < (linesOf T).length := by omega
    obtain ⟨a1, a2, a3⟩ := from_succ h5
    have h6 : fromOf T (n + 1) ≤ fromOf T m := by
      rcases Nat.lt_or_ge (n + 1) m with h7 | h7
      · have := List.pairwise_iff_getElem.1 (linesOf_sorted T) (n + 1) m h5 hm1 h7
        unfold fromOf
        rw [List.getElem?_eq_getElem h5, List.getElem?_eq_getElem hm1]
        simp only [Option.getD_some]; omega
      · have : n + 1 = m := by omega
        rw [this]; exact Nat.le_refl _
    omega
  · have h6 : fromOf T m ≤ fromOf T n := by
      rcases Nat.lt_or_ge m n with h7 | h7
      · have := List.pairwise_iff_getElem.1 (linesOf_sorted T) m n hm1 hn h7
        unfold fromOf
        rw [List.getElem?_eq_getElem hn, List.getElem?_eq_getElem hm1]
        simp only [Option.getD_some]; omega
      · have : m = n := by omega
        rw [this]; exact Nat.le_refl _
    omega
theorem atTen {T : List UInt8} {n i : Nat} (hn : n < (linesOf T).length) (h1 : fromOf T n ≤ i) (h2 : i ≤ toOf T n) (h3 : i < T.length) (h : byteAt T i = 10) : i = toOf T n ∧ n + 1 < (linesOf T).length ∧ fromOf T (n + 1) = i + 1 := by
  have h4 : i = toOf T n := by
    rcases Nat.lt_or_ge i (toOf T n) with h5 | h5
    · exact absurd h (noTen hn h1 h5)
    · omega
  have h5 : n + 1 < (linesOf T).length := by
    rcases Nat.lt_or_ge (n + 1) (linesOf T).length with h6 | h6
    · exact h6
    · have : toOf T n = T.length := by unfold toOf; rw [if_neg (by omega)]
      omega
  obtain ⟨a1, a2, a3⟩ := from_succ h5
  exact ⟨h4, h5, by omega⟩
theorem inLine {T : List UInt8} {n i : Nat} (hn : n < (linesOf T).length) (h1 : fromOf T n ≤ i) (h2 : i < toOf T n) : i + sAt T i ≤ toOf T n := by
  have ht := (to_bounds hn).2
  have := (dec_line (T := T) (fr := fromOf T n) (m := toOf T n - fromOf T n) (pos := i - fromOf T n) (by omega) (by omega) (by
    rw [show fromOf T n + (toOf T n - fromOf T n) = toOf T n from by omega]; exact to_end n)).2
  rw [show fromOf T n + (i - fromOf T n) = i from by omega] at this
  omega
theorem sAt_ten {T : List UInt8} {i : Nat} (h : byteAt T i = 10) : sAt T i = 1 := by
  have e := byteAt_drop T i 0
  rw [Nat.add_zero] at e
  unfold sAt
  rw [dec_ten (by rw [e]; exact h)]
theorem from_zero (T : List UInt8) : fromOf T 0 = 0 := rfl
theorem line_uniq {T : List UInt8} {a n m : Nat} (hn : n < (linesOf T).length) (hm : m < (linesOf T).length) (h1 : fromOf T n ≤ a) (h2 : a ≤ toOf T n) (h3 : fromOf T m ≤ a) (h4 : a ≤ toOf T m) : n = m := by
  have key : ∀ {n m : Nat}, n < (linesOf T).length → m < (linesOf T).length → n < m → a ≤ toOf T n → fromOf T m ≤ a → False := by
    intro n m hn hm hlt h2 h3
    have h5 : n + 1 < (linesOf T).length := by omega
    obtain ⟨a1, a2, a3⟩ := from_succ h5
    have h6 : fromOf T (n + 1) ≤ fromOf T m := by
      rcases Nat.lt_or_ge (n + 1) m with h7 | h7
      · have := List.pairwise_iff_getElem.1 (linesOf_sorted T) (n + 1) m h5 hm h7
        unfold fromOf
        rw [List.getElem?_eq_getElem h5, List.getElem?_eq_getElem hm]
        simp only [Option.getD_some]; omega
      · have : n + 1 = m := by omega
        rw [this]; exact Nat.le_refl _
    omega
  rcases Nat.lt_or_ge n m with h | h
  · exact (key hn hm h h2 h3).elim
  · rcases Nat.lt_or_ge m n with h' | h'
    · exact (key hm hn h' h4 h1).elim
    · omega
theorem goes_at {T : List UInt8} {a i k u x : Nat} (h1 : Goes T i k u x) : ∀ {k' u' y : Nat}, Goes T i k' u' y → x ≤ a → y ≤ a → (x = a ∨ (x < T.length ∧ a < x + sAt T x)) → (y = a ∨ (y < T.length ∧ a < y + sAt T y)) → k = k' ∧ u = u' ∧ x = y := by
  induction h1 with
  | zero i =>
    intro k' u' y h2 hx hy hs1 hs2
    cases h2 with
    | zero => exact ⟨rfl, rfl, rfl⟩
    | step hi h2 =>
      have hz := sAt_pos T i
      have hb := h2.bounds.1
      omega
  | @step i k u x hi h1 ih =>
    intro k' u' y h2 hx hy hs1 hs2
    cases h2 with
    | zero =>
      have hz := sAt_pos T i
      have hb := h1.bounds.1
      omega
    | step hi' h2 =>
      obtain ⟨e1, e2, e3⟩ := ih h2 hx hy hs1 hs2
      exact ⟨by omega, by omega, e3⟩
theorem PlaceIs.uniq {T : List UInt8} {a n k u j n' k' u' j' : Nat} (h1 : PlaceIs T a n k u j) (h2 : PlaceIs T a n' k' u' j') : n = n' ∧ k = k' ∧ u = u' := by
  obtain ⟨a1, a2, a3, a4, a5, a6⟩ := h1
  obtain ⟨b1, b2, b3, b4, b5, b6⟩ := h2
  obtain rfl := line_uniq a1 b1 a2 a3 b2 b3
  obtain ⟨e1, e2, -⟩ := goes_at a4 b4 a5 b5 a6 b6
  exact ⟨rfl, e1, e2⟩
theorem FindIs.uniq {T : List UInt8} {line : Int} {N x y : Nat} {b : Bool} (h1 : FindIs T line N b x) (h2 : FindIs T line N b y) : x = y := by
  unfold FindIs at h1 h2
  split at h1
  · rename_i h; rw [if_pos h] at h2; omega
  · rename_i h
    rw [if_neg h] at h2
    split at h1
    · rename_i h'; rw [if_pos h'] at h2; omega
    · rename_i h'; rw [if_neg h'] at h2
      exact h1.uniq h2
end Go.Proofs.YtffcfnnbdmihaaaDoor
