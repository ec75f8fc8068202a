/-
  THE WALK of the law RopeBack.
-/
import Derived.Test.YtffcfnnbdmihaaaDoorFind
namespace Go.Proofs.YtffcfnnbdmihaaaDoor
open Go.RowKit

theorem goes_uniq {T : List UInt8} {b : Bool} {to_ i k u x : Nat} (h1 : Goes T i k u x) : ∀ {N k' u' y : Nat}, Goes T i k' u' y → x ≤ to_ → y ≤ to_ → wt b k u ≤ N → wt b k' u' ≤ N →
    (x = to_ ∨ N < wt b k u + w1 b (cAt T x)) → (y = to_ ∨ N < wt b k' u' + w1 b (cAt T y)) → x = y := by
  induction h1 with
  | zero i =>
    intro N k' u' y h2 hx hy hw1 hw2 hs1 hs2
    cases h2 with
    | zero => rfl
    | @step _ k2 u2 _ hi h2 =>
      have hz := sAt_pos T i
      have hb := h2.bounds.1
      rcases hs1 with h | h
      · omega
      · have e : wt b 0 0 = 0 := by unfold wt; split <;> rfl
        rw [wt_snoc] at hw2
        rw [e] at h
        omega
  | @step i k u x hi h1 ih =>
    intro N k' u' y h2 hx hy hw1 hw2 hs1 hs2
    cases h2 with
    | zero =>
      have hz := sAt_pos T i
      have hb := h1.bounds.1
      rcases hs2 with h | h
      · omega
      · have e : wt b 0 0 = 0 := by unfold wt; split <;> rfl
        rw [wt_snoc] at hw1
        rw [e] at h
        omega
    | @step _ k2 u2 _ hi' h2 =>
      rw [wt_snoc] at hw1 hs1 hw2 hs2
      exact ih (N := N - w1 b (cAt T i)) h2 hx hy (by omega) (by omega) (hs1.imp id fun h => by omega) (hs2.imp id fun h => by omega)
theorem Sel.uniq {T : List UInt8} {fr to_ N x y : Nat} {b : Bool} (h1 : Sel T fr to_ b N x) (h2 : Sel T fr to_ b N y) : x = y := by
  obtain ⟨k, u, a1, a2, a3, a4⟩ := h1
  obtain ⟨k', u', b1, b2, b3, b4⟩ := h2
  exact goes_uniq a1 b1 a2 b2 a3 b3 a4 b4
theorem PlaceIs.sel {T : List UInt8} {a n k u j : Nat} (h : PlaceIs T a n k u j) (b : Bool) : Sel T (fromOf T n) (toOf T n) b (wt b k u) j := by
  obtain ⟨h1, h2, h3, h4, h5, h6⟩ := h
  exact ⟨k, u, h4, by omega, Nat.le_refl _, .inr (by have := w1_bd b (cAt T j); omega)⟩
theorem PlaceIs.back {T : List UInt8} {a n k u j x N : Nat} {b : Bool} (h : PlaceIs T a n k u j) (hf : FindIs T (n : Int) N b x) (hN : N = wt b k u) : x = j := by
  subst hN
  unfold FindIs at hf
  have := h.1
  rw [if_neg (by omega), if_neg (by omega)] at hf
  exact hf.uniq (h.sel b)

set_option maxHeartbeats 1000000 in
set_option maxRecDepth 100000 in
theorem ropeBack_walk (s : ByteArray) (at_ : Int) (w : World) (hT : T8 w) (hs : s.size ≤ 1048576) :
    Calls Tryd.prog 3 #[.string s, .int .i64 at_] w fun e w' => e = .returned (.bool true) ∧ Below w.heap.size w w' := by
  go_enter Tryd.func3, Tryd.ntmps3
  go_wp2_with fail
  refine (new_walk s _ (by omega)).mono ?_
  rintro e w1 ⟨r, rfl, hr0, hR1, hb1⟩
  have hT1 := hT.below hb1
  go_wp2_with fail
  refine (place_walk r s at_ _ hT1 hR1 (by omega)).mono ?_
  rintro e w2 ⟨n, k, u, j, rfl, hP, hb2⟩
  have hb02 := hb1.trans (hb2.mono hb1.size)
  have hR2 := hR1.below hb2
  have HP := Lib.hid hP
  clear hP
  go_wp2_with fail
  have hb3 : Below w2.heap.size w2 (w2.alloc (.cells #[.int .i64 n, .int .i64 k, .int .i64 u] 25)) := (Below.refl _ _).alloc (Nat.le_refl _) _
  have hV := Blk.new w2 25 #[.int .i64 n, .int .i64 k, .int .i64 u]
  have hR3 := hR2.below hb3
  have hT3 := (hT1.below hb2).below hb3
  have hb03 := hb02.trans (hb3.mono hb02.size)
  generalize w2.alloc (.cells #[.int .i64 n, .int .i64 k, .int .i64 u] 25) = w3 at *
  generalize w2.heap.size = vb at *
  refine (atU_walk r s n u _ hR3 (by omega)).mono ?_
  rintro e w4 ⟨x, rfl, hx, hb4⟩
  obtain rfl := HP.out.back hx (by show (max (u : Int) 0).toNat = u; omega)
  clear hx
  have hV4 := hV.below hb4 hV.lt
  have hR4 := hR3.below hb4
  have hb04 := hb03.trans (hb4.mono hb03.size)
  have v0 := hV4.cell 0
  have v1 := hV4.cell 1
  simp at v0 v1
  go_wp2_with fail
  refine (atR_walk r s n k _ hR4 (by omega)).mono ?_
  rintro e w5 ⟨y, rfl, hy, hb5⟩
  obtain rfl := HP.out.back hy (by show (max (k : Int) 0).toNat = k; omega)
  clear hy v0 v1
  have hR5 := hR4.below hb5
  have hT5 := (hT3.below hb4).below hb5
  have hb05 := hb04.trans (hb5.mono hb04.size)
  obtain ⟨p1, p2, p3, p4, p5, p6⟩ := HP.out
  have p7 : y ≤ s.size ∧ (y < s.size → sAt s.data.toList y + y ≤ s.size) := by
    have h1 := clampA_le s.data.toList at_
    rw [dlen] at h1
    refine ⟨by omega, fun h => ?_⟩
    have := sAt_le (T := s.data.toList) (i := y) (by rw [dlen]; exact h)
    rw [dlen] at this; omega
  have hz := sAt_pos s.data.toList y
  obtain ⟨a, ha⟩ : ∃ a, clampA s.data.toList at_ = a := ⟨_, rfl⟩
  have ha2 : (a : Int) = max 0 (min at_ (s.size : Int)) := by rw [← ha]; unfold clampA; rw [dlen]; omega
  rw [ha] at p2 p3 p5 p6
  rw [dlen] at p6
  have hways : (s.size : Int) ≤ at_ ∨ (at_ < s.size ∧ 0 ≤ at_) ∨ (at_ < 0 ∧ 0 < s.size) ∨ (at_ < 0 ∧ s.size = 0) := by omega
  clear p1 p2 p3 p4 HP ha hV4 hV
  by_cases hys : y < s.size
  · go_wp2_with fail
    refine (rune_yes r s y _ hT5 hR5 hys).mono ?_
    rintro e w6 ⟨rfl, hb6⟩
    have hb06 := hb05.trans (hb6.mono hb05.size)
    generalize sAt s.data.toList y = z at *
    rcases hways with h | ⟨h, h'⟩ | ⟨h, h'⟩ | ⟨h, h'⟩
    · exfalso; omega
    · obtain ⟨i, rfl⟩ := Int.eq_ofNat_of_zero_le h'
      have q1 : y ≤ i := by omega
      have q2 : i < y + z := by omega
      have q3 : i < s.size := by omega
      have d1 : decide (y ≤ i) = true := by simp [q1]
      have q4 : ¬ ((i : Int) < 0) := by omega
      have q5 : y + z ≤ 1048576 := by have := p7.2 hys; omega
      clear h h' p5 p6 p7 ha2
      go_wp2_with fail
      go_ret
      exact ⟨by simp; omega, hb06⟩
    · have q0 : y = 0 := by omega
      subst q0
      have q5 : 0 + z ≤ 1048576 := by have := p7.2 hys; omega
      have q6 : ¬ ((s.size : Int) ≤ 0) := by omega
      have q7 : ¬ (s.size = 0) := by omega
      have q8 : 0 < z := hz
      clear p5 p6 p7 ha2
      go_wp2_with fail
      go_ret
      exact ⟨by simp, hb06⟩
    · exfalso; omega
  · have hye : y = s.size := by omega
    subst hye
    go_wp2_with fail
    refine (rune_no r s s.size _ hR5 (.inr (by omega))).mono ?_
    rintro e w6 ⟨rfl, hb6⟩
    have hb06 := hb05.trans (hb6.mono hb05.size)
    by_cases h : at_ < 0
    · have q0 : s.size = 0 := by omega
      have q1 : (s.size : Int) ≤ 0 := by omega
      clear p5 p6 p7 ha2 hways hz hys
      go_wp2_with fail
      go_ret
      exact ⟨by simp, hb06⟩
    · have q1 : (s.size : Int) ≤ at_ := by omega
      clear p5 p6 p7 ha2 hways hz hys
      go_wp2_with fail
      go_ret
      exact ⟨by simp, hb06⟩
end Go.Proofs.YtffcfnnbdmihaaaDoor
