/-
  THE WALKS of amanuensisref1.Place, Find.
-/
import Derived.Test.YtffcfnnbdmihaaaDoorRefPlace
namespace Go.Proofs.YtffcfnnbdmihaaaDoor
open Go.RowKit

def RefPl (T : List UInt8) (at_ : Int) (n k u j : Nat) : Prop :=
  n < (linesOf T).length ∧ Goes T (fromOf T n) k u j ∧ j ≤ toOf T n ∧ ((j : Int) ≤ at_ ∨ j = 0)
theorem RefPl.step {T : List UInt8} {at_ : Int} {n k u j : Nat} (h : RefPl T at_ n k u j) (hj : j < T.length) (ha : ((j + sAt T j : Nat) : Int) ≤ at_) (hc : cAt T j ≠ 10) :
    RefPl T at_ n (k + 1) (u + unitsOf (cAt T j)) (j + sAt T j) := by
  obtain ⟨h1, h2, h3, h4⟩ := h
  have hb := h2.bounds.1
  have hlt : j < toOf T n := by
    rcases Nat.lt_or_ge j (toOf T n) with h | h
    · exact h
    · have e : j = toOf T n := by omega
      rcases to_end (T := T) n with h5 | h5
      · omega
      · exact absurd ((cAt_ten T j).2 (by rw [e]; exact h5)) hc
  exact ⟨h1, h2.snoc hj, inLine h1 (by omega) hlt, .inl ha⟩
theorem RefPl.next {T : List UInt8} {at_ : Int} {n k u j : Nat} (h : RefPl T at_ n k u j) (hj : j < T.length) (ha : ((j + sAt T j : Nat) : Int) ≤ at_) (hc : cAt T j = 10) :
    sAt T j = 1 ∧ RefPl T at_ (n + 1) 0 0 (j + 1) := by
  obtain ⟨h1, h2, h3, h4⟩ := h
  have hb := h2.bounds.1
  have ht := (cAt_ten T j).1 hc
  have hs := sAt_ten ht
  obtain ⟨e1, e2, e3⟩ := atTen h1 (by omega) h3 hj ht
  refine ⟨hs, e2, by rw [e3]; exact Goes.zero _, ?_, .inl (by rw [hs] at ha; exact ha)⟩
  have := (to_bounds e2).1
  omega
theorem RefPl.ends {T : List UInt8} {at_ : Int} {n k u j : Nat} (h : RefPl T at_ n k u j) (hj : j < T.length) (ha : at_ < ((j + sAt T j : Nat) : Int)) : PlaceIs T (clampA T at_) n k u j := by
  obtain ⟨h1, h2, h3, h4⟩ := h
  have hb := h2.bounds.1
  have hz := sAt_le hj
  have hz1 := sAt_pos T j
  have hin : j + sAt T j ≤ toOf T n ∨ j = toOf T n ∧ sAt T j = 1 := by
    rcases Nat.lt_or_ge j (toOf T n) with h | h
    · exact .inl (inLine h1 (by omega) h)
    · have e : j = toOf T n := by omega
      rcases to_end (T := T) n with h5 | h5
      · omega
      · exact .inr ⟨e, sAt_ten (by rw [e]; exact h5)⟩
  have hcl : clampA T at_ = (max 0 at_).toNat := by unfold clampA; omega
  rw [hcl]
  exact ⟨h1, by omega, by omega, h2, by omega, .inr ⟨hj, by omega⟩⟩
theorem RefPl.done {T : List UInt8} {at_ : Int} {n k u : Nat} (h : RefPl T at_ n k u T.length) : PlaceIs T (clampA T at_) n k u T.length := by
  obtain ⟨h1, h2, h3, h4⟩ := h
  have hb := h2.bounds.1
  have ht := (to_bounds h1).2
  have hcl : clampA T at_ = T.length := by unfold clampA; omega
  rw [hcl]
  exact ⟨h1, by omega, by omega, h2, Nat.le_refl _, .inl rfl⟩

set_option maxHeartbeats 1000000 in
set_option maxRecDepth 100000 in
theorem rplace_walk (s : ByteArray) (at_ : Int) (w : World) (hs : s.size ≤ 16777216) :
    Calls Tryd.prog 17 #[.string s, .int .i64 at_] w fun e w' => ∃ n k u j : Nat, e = .returned (.tuple #[.int .i64 n, .int .i64 k, .int .i64 u, .int .i64 j]) ∧ PlaceIs s.data.toList (clampA s.data.toList at_) n k u j ∧ w = w' := by
  have hll := linesOf_len s.data.toList
  rw [dlen] at hll
  go_enter Tryd.func17, Tryd.ntmps17
  go_wp2_with fail
  go_loop [8, 9, 10, 11] (fun l c v i => ∃ n k u j : Nat, l = .int .i64 n ∧ c = .int .i64 k ∧ v = .int .i64 u ∧ i = .int .i64 j ∧ j ≤ s.size ∧ Hid (RefPl s.data.toList at_ n k u j)) (fun _ _ _ i => s.size - (intOf i).toNat)
  case atStart => exact ⟨0, 0, 0, 0, rfl, rfl, rfl, rfl, Nat.zero_le _, by simp [linesOf], Goes.zero _, Nat.zero_le _, .inr rfl⟩
  case round =>
    obtain ⟨n, k, u, j, rfl, rfl, rfl, rfl, hj, HR⟩ := hrel
    have hbd := HR.out.2.1.bounds
    obtain ⟨b1, b2, b3, -⟩ := hbd
    have hnl := HR.out.1
    by_cases hlt : j < s.size
    · have hjT : j < s.data.toList.length := by rw [dlen]; exact hlt
      have hz1 := sAt_pos s.data.toList j
      have hz2 := sAt_le hjT
      rw [dlen] at hz2
      have hu := unitsOf_pos (cAt s.data.toList j)
      have hE : at_ < ((j + sAt s.data.toList j : Nat) : Int) → PlaceIs s.data.toList (clampA s.data.toList at_) n k u j := fun h => HR.out.ends hjT h
      have hS : ((j + sAt s.data.toList j : Nat) : Int) ≤ at_ → cAt s.data.toList j ≠ 10 → RefPl s.data.toList at_ n (k + 1) (u + unitsOf (cAt s.data.toList j)) (j + sAt s.data.toList j) := fun h h' => HR.out.step hjT h h'
      have hN : ((j + sAt s.data.toList j : Nat) : Int) ≤ at_ → cAt s.data.toList j = 10 → sAt s.data.toList j = 1 ∧ RefPl s.data.toList at_ (n + 1) 0 0 (j + 1) := fun h h' => HR.out.next hjT h h'
      have HE := Lib.hid hE
      have HS := Lib.hid hS
      have HN := Lib.hid hN
      have hd := rruneAt_walk s j hlt
      have HU : Hid (∀ w, Calls Tryd.prog 57 #[.int .i64 (cAt s.data.toList j)] w fun e w' => e = .returned (.int .i64 (unitsOf (cAt s.data.toList j))) ∧ w = w') := fun w => runits_walk _ w
      have HD := Lib.hid hd
      clear hE hS hN hd hjT
      generalize sAt s.data.toList j = z at *
      generalize cAt s.data.toList j = c at *
      have hnn : n ≤ 16777217 := by omega
      clear hnl hll
      go_wp2_with fail
      refine (HD.out _).mono ?_
      rintro e w' ⟨rfl, rfl⟩
      by_cases hgt : at_ < (j : Int) + z
      · have HP := Lib.hid (HE.out (by omega))
        clear HE HS HN
        go_wp2_with fail
        exact bodyPost_ret (v := .tuple #[.int .i64 n, .int .i64 k, .int .i64 u, .int .i64 j]) (by simp [results, Tryd.results17, go_sem]) rfl ⟨n, k, u, j, rfl, HP.out, rfl⟩
      · by_cases hc : c = 10
        · obtain ⟨e1, e2⟩ := HN.out (by omega) hc
          subst e1
          have HR2 := Lib.hid e2
          have hc2 : ((c : Int) == 10) = true := by rw [hc]; rfl
          clear HE HS HN e2 hc
          generalize unitsOf c = uu at *
          go_wp2_with (first | (go_at_call 57; refine (HU.out _).mono ?_; rintro e w' ⟨rfl, rfl⟩))
          go_round
          case rel => exact ⟨n + 1, 0, 0, j + 1, by go_num, rfl, rfl, by go_num, by omega, HR2⟩
          case measure => simp [intOf]; omega
        · have HR2 := Lib.hid (HS.out (by omega) hc)
          have hc2 : ((c : Int) == 10) = false := by simp; omega
          clear HE HS HN
          generalize unitsOf c = uu at *
          go_wp2_with (first | (go_at_call 57; refine (HU.out _).mono ?_; rintro e w' ⟨rfl, rfl⟩))
          go_round
          case rel => exact ⟨n, k + 1, u + uu, j + z, rfl, by go_num, by go_num, by go_num, by omega, HR2⟩
          case measure => simp [intOf]; omega
    · obtain rfl : j = s.size := by omega
      have HP : Hid (PlaceIs s.data.toList (clampA s.data.toList at_) n k u s.size) := by
        have := HR.out
        rw [← dlen s] at this ⊢
        exact this.done
      clear hnl hll
      go_wp2_with fail
      exact bodyPost_ret (v := .tuple #[.int .i64 n, .int .i64 k, .int .i64 u, .int .i64 s.size]) (by simp [results, Tryd.results17, go_sem]) rfl ⟨n, k, u, s.size, rfl, HP.out, rfl⟩
end Go.Proofs.YtffcfnnbdmihaaaDoor
