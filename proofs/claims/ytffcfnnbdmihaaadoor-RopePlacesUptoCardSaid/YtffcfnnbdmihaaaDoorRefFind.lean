/-
  THE WALK of amanuensisref1.Find.
-/
import Derived.Test.YtffcfnnbdmihaaaDoorRefPlaceW
namespace Go.Proofs.YtffcfnnbdmihaaaDoor
open Go.RowKit

set_option maxHeartbeats 2000000 in
set_option maxRecDepth 100000 in
theorem rfind_in (s : ByteArray) (L N : Nat) (ch : Bool) (w : World) (hs : s.size ≤ 16777216) (hNb : (N : Int) ≤ 9223372036854775807) (hL : L < (linesOf s.data.toList).length) :
    Calls Tryd.prog 18 #[.string s, .int .i64 L, .int .i64 N, .bool ch] w fun e w' => ∃ x : Nat, e = .returned (.int .i64 x) ∧ Sel s.data.toList (fromOf s.data.toList L) (toOf s.data.toList L) (!ch) N x ∧ w = w' := by
  have hll := linesOf_len s.data.toList
  rw [dlen] at hll
  obtain ⟨tb1, tb2⟩ := to_bounds hL
  rw [dlen] at tb2
  have HL := Lib.hid hL
  have hrl := rlines_walk s w hs
  have i1 : ¬ (((linesOf s.data.toList).length : Int) ≤ (L : Int)) := by omega
  have i0 : ¬ ((L : Int) < 0) := by omega
  have hLs : L ≤ 16777217 := by omega
  generalize (linesOf s.data.toList).length = ln at hrl hll hL i1
  obtain ⟨fr, hfr⟩ : ∃ fr, fromOf s.data.toList L = fr := ⟨_, rfl⟩
  obtain ⟨to_, hto⟩ : ∃ to_, toOf s.data.toList L = to_ := ⟨_, rfl⟩
  have Hfr := Lib.hid hfr
  have Hto := Lib.hid hto
  rw [hfr, hto] at tb1 ⊢
  rw [hto] at tb2
  clear hfr hto
  go_enter Tryd.func18, Tryd.ntmps18
  go_wp2_with fail
  refine hrl.mono ?_
  clear hrl
  rintro e w' ⟨rfl, rfl⟩
  go_wp2_with fail
  go_loop [1, 10] (fun l i => ∃ m r j : Nat, l = .int .i64 r ∧ i = .int .i64 j ∧ m + r = L ∧ Hid (fromOf s.data.toList m ≤ j ∧ j ≤ toOf s.data.toList m) ∧ j ≤ s.size ∧ (r = 0 → j = fr)) (fun _ i => s.size + 1 - (intOf i).toNat)
  case atStart => exact ⟨0, L, 0, rfl, rfl, by omega, ⟨Nat.zero_le _, Nat.zero_le _⟩, Nat.zero_le _, fun h => by subst h; exact Hfr.out⟩
  case round =>
    obtain ⟨m, r, j, rfl, rfl, hmr, HB, hjs0, hr0⟩ := hrel
    have hmL : m ≤ L := by omega
    have hrs : r ≤ 16777217 := by omega
    by_cases hr : 0 < r
    · have hm1 : m + 1 < (linesOf s.data.toList).length := by have := HL.out; omega
      have hm0 : m < (linesOf s.data.toList).length := by omega
      obtain ⟨a1, a2, a3⟩ := from_succ hm1
      have a4 := from_lt hm1
      rw [dlen] at a4
      obtain ⟨b1, b2⟩ := HB.out
      have hjs : j < s.size := by omega
      have hbk := byteK s j hjs
      have hT : byteAt s.data.toList j = 10 → fromOf s.data.toList (m + 1) = j + 1 := fun h => (atTen hm0 b1 b2 (by rw [dlen]; exact hjs) h).2.2
      have hF : byteAt s.data.toList j ≠ 10 → j + 1 ≤ toOf s.data.toList m := fun h => by
        rcases Nat.lt_or_ge j (toOf s.data.toList m) with h' | h'
        · exact h'
        · have e : j = toOf s.data.toList m := by omega
          exact absurd (by rw [e]; exact a3) h
      have HT := Lib.hid hT
      have HF := Lib.hid hF
      have HM : Hid (fromOf s.data.toList (m + 1) ≤ toOf s.data.toList (m + 1)) := (to_bounds hm1).1
      have B1 := Lib.hid b1
      clear hT hF a1 a2 a3 a4 b1 b2 hm0 hm1
      generalize byteAt s.data.toList j = b at *
      have hidx : s[j].toNat = b := hbk.symm
      clear hbk
      by_cases hb : b = 10
      · have hb2 : ((b : Int) == 10) = true := by rw [hb]; rfl
        have e1 := HT.out hb
        have HB2 : Hid (fromOf s.data.toList (m + 1) ≤ j + 1 ∧ j + 1 ≤ toOf s.data.toList (m + 1)) := ⟨by omega, by have := HM.out; omega⟩
        have HE := Lib.hid e1
        clear HB HT HF hb e1 HM
        go_wp2_with fail
        go_round
        case rel => exact ⟨m + 1, r - 1, j + 1, by rw [show ((r - 1 : Nat) : Int) = (r : Int) - 1 from by omega], by go_num, by omega, HB2, by omega, fun h => by rw [← Hfr.out, ← HE.out, show m + 1 = L from by omega]⟩
        case measure => simp [intOf]; omega
      · have hb2 : ((b : Int) == 10) = false := by simp; omega
        have HB2 : Hid (fromOf s.data.toList m ≤ j + 1 ∧ j + 1 ≤ toOf s.data.toList m) := ⟨by have := B1.out; omega, HF.out hb⟩
        clear HB HT HF hb HM
        go_wp2_with fail
        go_round
        case rel => exact ⟨m, r, j + 1, rfl, by go_num, hmr, HB2, by omega, fun h => by omega⟩
        case measure => simp [intOf]; omega
    · have hr2 : r = 0 := by omega
      have hjf := hr0 hr2
      subst hr2
      subst hjf
      clear hr0 HB hmr hmL hr hrs
      go_wp2_with fail
      clear i1 i0 hll hL
      go_loop [2, 10] (fun hv i => ∃ k u p : Nat, hv = .int .i64 ((N : Int) - wt (!ch) k u) ∧ i = .int .i64 p ∧ Hid (Goes s.data.toList j k u p) ∧ p ≤ to_ ∧ wt (!ch) k u ≤ N) (fun _ i => to_ - (intOf i).toNat)
      case atStart => exact ⟨0, 0, j, by rw [show wt (!ch) 0 0 = 0 from by unfold wt; split <;> rfl]; simp, rfl, Goes.zero _, tb1, by rw [show wt (!ch) 0 0 = 0 from by unfold wt; split <;> rfl]; exact Nat.zero_le _⟩
      case round =>
        obtain ⟨k, u, p, rfl, rfl, HG, hp, hN⟩ := hrel
        have hwb := wt_bd HG.out (!ch)
        obtain ⟨gb1, -, -, -⟩ := HG.out.bounds
        by_cases hlt : p < to_
        · have hps : p < s.size := by omega
          have hpT : p < s.data.toList.length := by rw [dlen]; exact hps
          have hb10 := noTen HL.out (i := p) (by rw [Hfr.out]; omega) (by rw [Hto.out]; exact hlt)
          have hin := inLine HL.out (i := p) (by rw [Hfr.out]; omega) (by rw [Hto.out]; exact hlt)
          rw [Hto.out] at hin
          have hbk := byteK s p hps
          rw [hbk] at hb10
          have hb2 : ((s[p].toNat : Int) == 10) = false := by simp; omega
          have hz1 := sAt_pos s.data.toList p
          have hw1 := w1_bd (!ch) (cAt s.data.toList p)
          have HS : Hid (Goes s.data.toList j (k + 1) (u + unitsOf (cAt s.data.toList p)) (p + sAt s.data.toList p)) := HG.out.snoc hpT
          have HW : Hid (wt (!ch) (k + 1) (u + unitsOf (cAt s.data.toList p)) = wt (!ch) k u + w1 (!ch) (cAt s.data.toList p)) := wt_snoc _ _ _ _
          have HF : Hid (N < wt (!ch) k u + w1 (!ch) (cAt s.data.toList p) → Sel s.data.toList j to_ (!ch) N p) := fun hx => ⟨k, u, HG.out, hp, hN, .inr hx⟩
          have HD : Hid (∀ w, Calls Tryd.prog 19 #[.string (s.extract p s.size)] w fun e w' => e = .returned (.tuple #[.int .i64 (cAt s.data.toList p), .int .i64 (sAt s.data.toList p)]) ∧ w = w') := fun w => rruneAt_walk s p hps w
          have HU : Hid (∀ w, Calls Tryd.prog 57 #[.int .i64 (cAt s.data.toList p)] w fun e w' => e = .returned (.int .i64 (unitsOf (cAt s.data.toList p))) ∧ w = w') := fun w => runits_walk _ w
          have HX : Hid ((if ch then 1 else unitsOf (cAt s.data.toList p)) = w1 (!ch) (cAt s.data.toList p)) := by show _ = _; unfold w1; cases ch <;> rfl
          have hA0 : wt (!ch) k u ≤ 33554432 := by omega
          have HWV : Hid (∃ A, wt (!ch) k u = A) := ⟨_, rfl⟩
          clear hb10 hbk
          obtain ⟨c, hc⟩ : ∃ c, cAt s.data.toList p = c := ⟨_, rfl⟩
          rw [hc] at HS HW HF HD HU HX hw1
          obtain ⟨z, hz⟩ : ∃ z, sAt s.data.toList p = z := ⟨_, rfl⟩
          rw [hz] at HS HD hin hz1
          clear hc hz
          generalize wt (!ch) k u = A at *
          generalize w1 (!ch) c = W at *
          by_cases hgt : N < A + W
          · have HR := Lib.hid (HF.out hgt)
            have hq : ((N : Int) - A < W) := by omega
            cases ch
            · have hW : unitsOf c = W := HX.out
              have HW3 := Lib.hid hW
              clear hW
              go_wp2_with (first | (go_at_call 19; refine (HD.out _).mono ?_; rintro e w' ⟨rfl, rfl⟩) | (go_at_call 57; refine (HU.out _).mono ?_; rw [HW3.out]; rintro e w' ⟨rfl, rfl⟩))
              go_ret
              exact ⟨p, rfl, HR.out, rfl⟩
            · have hW : 1 = W := HX.out
              subst hW
              go_wp2_with (first | (go_at_call 19; refine (HD.out _).mono ?_; rintro e w' ⟨rfl, rfl⟩) | (go_at_call 57; refine (HU.out _).mono ?_; rintro e w' ⟨rfl, rfl⟩))
              go_ret
              exact ⟨p, rfl, HR.out, rfl⟩
          · have hq : ¬ ((N : Int) - A < W) := by omega
            cases ch
            · have hW : unitsOf c = W := HX.out
              have HW3 := Lib.hid hW
              clear hW
              go_wp2_with (first | (go_at_call 19; refine (HD.out _).mono ?_; rintro e w' ⟨rfl, rfl⟩) | (go_at_call 57; refine (HU.out _).mono ?_; rw [HW3.out]; rintro e w' ⟨rfl, rfl⟩))
              go_round
              case rel => exact ⟨k + 1, u + unitsOf c, p + z, by rw [HW.out, show (N : Int) - ((A + W : Nat) : Int) = (N : Int) - A - W from by omega], by go_num, HS, hin, by rw [HW.out]; omega⟩
              case measure => simp [intOf]; omega
            · have hW : 1 = W := HX.out
              subst hW
              go_wp2_with (first | (go_at_call 19; refine (HD.out _).mono ?_; rintro e w' ⟨rfl, rfl⟩) | (go_at_call 57; refine (HU.out _).mono ?_; rintro e w' ⟨rfl, rfl⟩))
              go_round
              case rel => exact ⟨k + 1, u + unitsOf c, p + z, by rw [HW.out, show (N : Int) - ((A + 1 : Nat) : Int) = (N : Int) - A - 1 from by omega], by go_num, HS, hin, by rw [HW.out]; omega⟩
              case measure => simp [intOf]; omega
        · obtain rfl : p = to_ := by omega
          have HR : Hid (Sel s.data.toList j p (!ch) N p) := ⟨k, u, HG.out, Nat.le_refl _, hN, .inl rfl⟩
          have hend : p = s.size ∨ (p < s.size ∧ byteAt s.data.toList p = 10) := by
            rcases to_end (T := s.data.toList) L with h | h
            · rw [Hto.out, dlen] at h; exact .inl h
            · rw [Hto.out] at h
              rcases Nat.lt_or_ge p s.size with h' | h'
              · exact .inr ⟨h', h⟩
              · exact .inl (by omega)
          rcases hend with h | ⟨h, h'⟩
          · have hnl : ¬ p < s.size := by omega
            clear h
            go_wp2_with fail
            go_ret
            exact ⟨p, rfl, HR.out, rfl⟩
          · have hbk := byteK s p h
            rw [h'] at hbk
            have hb2 : ((s[p].toNat : Int) == 10) = true := by rw [← hbk]; rfl
            clear hbk h'
            go_wp2_with fail
            go_ret
            exact ⟨p, rfl, HR.out, rfl⟩

set_option maxHeartbeats 1000000 in
set_option maxRecDepth 100000 in
theorem rfind_walk (s : ByteArray) (line : Int) (N : Nat) (ch : Bool) (w : World) (hs : s.size ≤ 16777216) (hNb : (N : Int) ≤ 9223372036854775807) :
    Calls Tryd.prog 18 #[.string s, .int .i64 line, .int .i64 N, .bool ch] w fun e w' => ∃ x : Nat, e = .returned (.int .i64 x) ∧ FindIs s.data.toList line N (!ch) x ∧ w = w' := by
  by_cases h1 : line < 0
  · go_enter Tryd.func18, Tryd.ntmps18
    go_wp2_with fail
    go_ret
    exact ⟨0, rfl, by unfold FindIs; rw [if_pos h1], rfl⟩
  · by_cases h2 : ((linesOf s.data.toList).length : Int) ≤ line
    · have HF : Hid (FindIs s.data.toList line N (!ch) s.size) := by show FindIs _ _ _ _ _; unfold FindIs; rw [if_neg h1, if_pos h2, dlen]
      have hrl := rlines_walk s w hs
      generalize (linesOf s.data.toList).length = ln at hrl h2
      go_enter Tryd.func18, Tryd.ntmps18
      go_wp2_with fail
      refine hrl.mono ?_
      clear hrl
      rintro e w' ⟨rfl, rfl⟩
      go_wp2_with fail
      go_ret
      exact ⟨s.size, rfl, HF.out, rfl⟩
    · obtain ⟨n, rfl⟩ := Int.eq_ofNat_of_zero_le (a := line) (by omega)
      refine (rfind_in s n N ch w hs hNb (by omega)).mono ?_
      rintro e w' ⟨x, rfl, hx, hb⟩
      exact ⟨x, rfl, by unfold FindIs; rw [if_neg h1, if_neg h2]; exact hx, hb⟩
end Go.Proofs.YtffcfnnbdmihaaaDoor
