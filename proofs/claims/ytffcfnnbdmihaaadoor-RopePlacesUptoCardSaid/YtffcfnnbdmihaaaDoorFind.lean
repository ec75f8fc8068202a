/-
  THE WALKS of (*rope.Rope).find, At, RuneAt.
-/
import Derived.Test.YtffcfnnbdmihaaaDoorPlaceW
import Derived.Laws.RangeString
import Derived.Laws.RangeAny
namespace Go.Proofs.YtffcfnnbdmihaaaDoor
open Go.RowKit

def wt (b : Bool) (k u : Nat) : Nat := if b then u else k
def w1 (b : Bool) (c : Nat) : Nat := if b then unitsOf c else 1
def Sel (T : List UInt8) (fr to_ : Nat) (b : Bool) (N x : Nat) : Prop :=
  ∃ k u, Goes T fr k u x ∧ x ≤ to_ ∧ wt b k u ≤ N ∧ (x = to_ ∨ N < wt b k u + w1 b (cAt T x))
def FindIs (T : List UInt8) (line : Int) (N : Nat) (b : Bool) (x : Nat) : Prop :=
  if line < 0 then x = 0 else if ((linesOf T).length : Int) ≤ line then x = T.length else Sel T (fromOf T line.toNat) (toOf T line.toNat) b N x

theorem w1_bd (b : Bool) (c : Nat) : 1 ≤ w1 b c ∧ w1 b c ≤ 2 := by
  unfold w1
  have := unitsOf_pos c
  split <;> omega
theorem wt_bd {T : List UInt8} {i k u j : Nat} (h : Goes T i k u j) (b : Bool) : wt b k u ≤ 2 * k := by
  have := h.bounds
  unfold wt
  split <;> omega
theorem wt_snoc (b : Bool) (k u c : Nat) : wt b (k + 1) (u + unitsOf c) = wt b k u + w1 b c := by
  unfold wt w1
  split <;> rfl
/-- a character of a line is the same in the line alone -/
theorem dec_line {T : List UInt8} {fr m pos : Nat} (hp : pos < m) (hm : fr + m ≤ T.length) (he : fr + m = T.length ∨ byteAt T (fr + m) = 10) :
    dec ((((T.drop fr).take m)).drop pos) = dec (T.drop (fr + pos)) ∧ pos + sAt T (fr + pos) ≤ m := by
  have e1 : (((T.drop fr).take m)).drop pos = (T.drop (fr + pos)).take (m - pos) := by
    rw [List.drop_take, List.drop_drop]
  have e2 : dec ((T.drop (fr + pos)).take (m - pos)) = dec (T.drop (fr + pos)) := by
    refine dec_take (by omega) ?_
    rcases he with h | h
    · left; simp; omega
    · right
      unfold byteAt at h ⊢
      rw [List.getElem?_drop, show fr + pos + (m - pos) = fr + m from by omega]
      exact h
  refine ⟨by rw [e1, e2], ?_⟩
  have h3 := dec_le ((T.drop (fr + pos)).take (m - pos)) (by intro e; have := congrArg List.length e; simp at this; omega)
  rw [e2, List.length_take, List.length_drop] at h3
  unfold sAt
  omega

set_option maxRecDepth 100000 in
theorem one_walk (c : Nat) (w : World) : Calls Tryd.prog 55 #[.int .i32 c] w fun e w' => e = .returned (.int .i64 ((1 : Nat) : Int)) ∧ w = w' := by
  go_enter Tryd.func55, Tryd.ntmps55
  go_wp2
  go_ret
  exact ⟨rfl, rfl⟩

set_option maxHeartbeats 1000000 in
set_option maxRecDepth 100000 in
theorem findU_in (r : Nat) (s : ByteArray) (n N : Nat) (w : World) (h : RopeAt w r s) (hn : n < (linesOf s.data.toList).length) (hs : s.size ≤ 16777216) :
    Calls Tryd.prog 54 #[.pointer (some ⟨r, 0, none⟩), .int .i64 n, .int .i64 N, .func (.func 53) #[] #[]] w fun e w' => ∃ x : Nat, e = .returned (.int .i64 x) ∧ Sel s.data.toList (fromOf s.data.toList n) (toOf s.data.toList n) true N x ∧ Below w.heap.size w w' := by
  obtain ⟨t1, t2⟩ := to_bounds hn
  have te := to_end (T := s.data.toList) n
  rw [dlen] at t2
  have Hn := Lib.hid hn
  obtain ⟨g, cap, r0, r1, hc⟩ := h.start hn
  clear hc
  have hl := linesOf_len s.data.toList
  rw [dlen] at hl
  have hli := line_walk r s n w h hn hs
  have Hte := Lib.hid te
  clear te
  have i1 : ¬ (((linesOf s.data.toList).length : Int) ≤ (n : Int)) := by omega
  generalize (linesOf s.data.toList).length = ln at r1 hl hn i1
  obtain ⟨fr, hfr⟩ : ∃ fr, fromOf s.data.toList n = fr := ⟨_, rfl⟩
  obtain ⟨to_, hto⟩ : ∃ to_, toOf s.data.toList n = to_ := ⟨_, rfl⟩
  rw [hfr, hto] at hli t1 ⊢
  rw [hto] at t2 Hte
  clear hfr hto
  have i0 : ¬ ((n : Int) < 0) := by omega
  have hxs : (s.extract fr to_).size = to_ - fr := by rw [ByteArray.size_extract]; omega
  have hxd : (s.extract fr to_).data.toList = (s.data.toList.drop fr).take (to_ - fr) := ext_data s fr to_
  go_enter Tryd.func54, Tryd.ntmps54
  go_wp2_with fail
  refine hli.mono ?_
  clear hli
  rintro e wl ⟨rfl, q, hq⟩
  have hb1 : Below w.heap.size w wl := by rw [hq]; exact below_drewN (Below.refl _ _) q
  have r01 : wl.cell? ⟨r, 0, none⟩ = some (.string s) := by rw [hq]; exact r0
  clear r0 r1 hq
  have hbs := hb1.size
  have Hxd := Lib.hid hxd
  have Hxs := Lib.hid hxs
  clear hxd hxs
  go_wp2_with fail
  generalize s.extract fr to_ = x at *
  go_loopw [11] (fun ah wr => ∃ pos k u : Nat, wr = wl.iter x pos ∧ ah = .int .i64 (wt true k u) ∧ Hid (Goes s.data.toList fr k u (fr + pos)) ∧ pos ≤ to_ - fr ∧ wt true k u ≤ N) (fun _ wr => x.size - wr.iterPos wl.heap.size)
  case atStart => exact ⟨0, 0, 0, rfl, rfl, Goes.zero _, Nat.zero_le _, Nat.zero_le _⟩
  case round =>
    obtain ⟨pos, k, u, rfl, rfl, HG, hpos, hN⟩ := hrel
    have hwb := wt_bd HG.out true
    have hgb := HG.out.bounds
    obtain ⟨gb1, -, -, -⟩ := hgb
    by_cases hp : pos < to_ - fr
    · obtain ⟨e1, e2⟩ := dec_line (T := s.data.toList) (fr := fr) hp (by rw [dlen]; omega) (by rw [show fr + (to_ - fr) = to_ from by omega]; exact Hte.out)
      have hpx : pos < x.size := by rw [Hxs.out]; exact hp
      have e3 : Utf8.decode x pos = (cAt s.data.toList (fr + pos), sAt s.data.toList (fr + pos)) := by
        rw [decode_eq, Hxd.out, e1]; rfl
      have hnx := fun ty => run_next_any (P := Tryd.prog) wl x pos ty hpx
      rw [e3] at hnx
      simp only at hnx
      have hw1 := w1_bd true (cAt s.data.toList (fr + pos))
      have hz := sAt_pos s.data.toList (fr + pos)
      have HS : Hid (Goes s.data.toList fr (k + 1) (u + unitsOf (cAt s.data.toList (fr + pos))) (fr + pos + sAt s.data.toList (fr + pos))) := HG.out.snoc (by rw [dlen]; omega)
      have HW : Hid (wt true (k + 1) (u + unitsOf (cAt s.data.toList (fr + pos))) = wt true k u + w1 true (cAt s.data.toList (fr + pos))) := wt_snoc _ _ _ _
      have HF : Hid (N < wt true k u + w1 true (cAt s.data.toList (fr + pos)) → Sel s.data.toList fr to_ true N (fr + pos)) := fun hx => ⟨k, u, HG.out, by omega, hN, .inr hx⟩
      have hu : ∀ w, Calls Tryd.prog 53 #[.int .i32 (cAt s.data.toList (fr + pos))] w fun e w' => e = .returned (.int .i64 (w1 true (cAt s.data.toList (fr + pos)) : Nat)) ∧ w = w' := fun w => units_walk _ w
      have HU := Lib.hid hu
      clear e1 e3 hpx hu
      generalize sAt s.data.toList (fr + pos) = z at *
      generalize w1 true (cAt s.data.toList (fr + pos)) = W at *
      generalize wt true k u = A at *
      have hA : A ≤ 33554432 := by omega
      by_cases hgt : N < A + W
      · have HR := Lib.hid (HF.out hgt)
        go_wp2_with (first | (go_at_call 53; refine (HU.out _).mono ?_; rintro e w' ⟨rfl, rfl⟩))
        go_ret
        exact ⟨fr + pos, by go_num, HR.out, hb1.alloc hbs _⟩
      · go_wp2_with (first | (go_at_call 53; refine (HU.out _).mono ?_; rintro e w' ⟨rfl, rfl⟩))
        go_roundw
        case rel => exact ⟨pos + z, k + 1, u + unitsOf (cAt s.data.toList (fr + pos)), rfl, by rw [HW.out]; go_num, by rw [← Nat.add_assoc]; exact HS.out, e2, by rw [HW.out]; omega⟩
        case measure => rw [World.iterPos_iter, World.iterPos_iter, Hxs.out]; omega
    · obtain rfl : pos = to_ - fr := by omega
      have hnx := fun ty => run_next_end (P := Tryd.prog) wl x (to_ - fr) ty (by rw [Hxs.out]; omega)
      have HR : Hid (Sel s.data.toList fr to_ true N to_) := ⟨k, u, by have := HG.out; rwa [show fr + (to_ - fr) = to_ from by omega] at this, Nat.le_refl _, hN, .inl rfl⟩
      go_wp2_with fail
      go_ret
      exact ⟨to_, rfl, HR.out, hb1.alloc hbs _⟩

set_option maxHeartbeats 1000000 in
set_option maxRecDepth 100000 in
theorem findR_in (r : Nat) (s : ByteArray) (n N : Nat) (w : World) (h : RopeAt w r s) (hn : n < (linesOf s.data.toList).length) (hs : s.size ≤ 16777216) :
    Calls Tryd.prog 54 #[.pointer (some ⟨r, 0, none⟩), .int .i64 n, .int .i64 N, .func (.func 55) #[] #[]] w fun e w' => ∃ x : Nat, e = .returned (.int .i64 x) ∧ Sel s.data.toList (fromOf s.data.toList n) (toOf s.data.toList n) false N x ∧ Below w.heap.size w w' := by
  obtain ⟨t1, t2⟩ := to_bounds hn
  have te := to_end (T := s.data.toList) n
  rw [dlen] at t2
  have Hn := Lib.hid hn
  obtain ⟨g, cap, r0, r1, hc⟩ := h.start hn
  clear hc
  have hl := linesOf_len s.data.toList
  rw [dlen] at hl
  have hli := line_walk r s n w h hn hs
  have Hte := Lib.hid te
  clear te
  have i1 : ¬ (((linesOf s.data.toList).length : Int) ≤ (n : Int)) := by omega
  generalize (linesOf s.data.toList).length = ln at r1 hl hn i1
  obtain ⟨fr, hfr⟩ : ∃ fr, fromOf s.data.toList n = fr := ⟨_, rfl⟩
  obtain ⟨to_, hto⟩ : ∃ to_, toOf s.data.toList n = to_ := ⟨_, rfl⟩
  rw [hfr, hto] at hli t1 ⊢
  rw [hto] at t2 Hte
  clear hfr hto
  have i0 : ¬ ((n : Int) < 0) := by omega
  have hxs : (s.extract fr to_).size = to_ - fr := by rw [ByteArray.size_extract]; omega
  have hxd : (s.extract fr to_).data.toList = (s.data.toList.drop fr).take (to_ - fr) := ext_data s fr to_
  go_enter Tryd.func54, Tryd.ntmps54
  go_wp2_with fail
  refine hli.mono ?_
  clear hli
  rintro e wl ⟨rfl, q, hq⟩
  have hb1 : Below w.heap.size w wl := by rw [hq]; exact below_drewN (Below.refl _ _) q
  have r01 : wl.cell? ⟨r, 0, none⟩ = some (.string s) := by rw [hq]; exact r0
  clear r0 r1 hq
  have hbs := hb1.size
  have Hxd := Lib.hid hxd
  have Hxs := Lib.hid hxs
  clear hxd hxs
  go_wp2_with fail
  generalize s.extract fr to_ = x at *
  go_loopw [11] (fun ah wr => ∃ pos k u : Nat, wr = wl.iter x pos ∧ ah = .int .i64 (wt false k u) ∧ Hid (Goes s.data.toList fr k u (fr + pos)) ∧ pos ≤ to_ - fr ∧ wt false k u ≤ N) (fun _ wr => x.size - wr.iterPos wl.heap.size)
  case atStart => exact ⟨0, 0, 0, rfl, rfl, Goes.zero _, Nat.zero_le _, Nat.zero_le _⟩
  case round =>
    obtain ⟨pos, k, u, rfl, rfl, HG, hpos, hN⟩ := hrel
    have hwb := wt_bd HG.out false
    have hgb := HG.out.bounds
    obtain ⟨gb1, -, -, -⟩ := hgb
    by_cases hp : pos < to_ - fr
    · obtain ⟨e1, e2⟩ := dec_line (T := s.data.toList) (fr := fr) hp (by rw [dlen]; omega) (by rw [show fr + (to_ - fr) = to_ from by omega]; exact Hte.out)
      have hpx : pos < x.size := by rw [Hxs.out]; exact hp
      have e3 : Utf8.decode x pos = (cAt s.data.toList (fr + pos), sAt s.data.toList (fr + pos)) := by
        rw [decode_eq, Hxd.out, e1]; rfl
      have hnx := fun ty => run_next_any (P := Tryd.prog) wl x pos ty hpx
      rw [e3] at hnx
      simp only at hnx
      have hw1 := w1_bd false (cAt s.data.toList (fr + pos))
      have hz := sAt_pos s.data.toList (fr + pos)
      have HS : Hid (Goes s.data.toList fr (k + 1) (u + unitsOf (cAt s.data.toList (fr + pos))) (fr + pos + sAt s.data.toList (fr + pos))) := HG.out.snoc (by rw [dlen]; omega)
      have HW : Hid (wt false (k + 1) (u + unitsOf (cAt s.data.toList (fr + pos))) = wt false k u + w1 false (cAt s.data.toList (fr + pos))) := wt_snoc _ _ _ _
      have HF : Hid (N < wt false k u + w1 false (cAt s.data.toList (fr + pos)) → Sel s.data.toList fr to_ false N (fr + pos)) := fun hx => ⟨k, u, HG.out, by omega, hN, .inr hx⟩
      have hu : ∀ w, Calls Tryd.prog 55 #[.int .i32 (cAt s.data.toList (fr + pos))] w fun e w' => e = .returned (.int .i64 (w1 false (cAt s.data.toList (fr + pos)) : Nat)) ∧ w = w' := fun w => one_walk _ w
      have HU := Lib.hid hu
      clear e1 e3 hpx hu
      generalize sAt s.data.toList (fr + pos) = z at *
      generalize w1 false (cAt s.data.toList (fr + pos)) = W at *
      generalize wt false k u = A at *
      have hA : A ≤ 33554432 := by omega
      by_cases hgt : N < A + W
      · have HR := Lib.hid (HF.out hgt)
        go_wp2_with (first | (go_at_call 55; refine (HU.out _).mono ?_; rintro e w' ⟨rfl, rfl⟩))
        go_ret
        exact ⟨fr + pos, by go_num, HR.out, hb1.alloc hbs _⟩
      · go_wp2_with (first | (go_at_call 55; refine (HU.out _).mono ?_; rintro e w' ⟨rfl, rfl⟩))
        go_roundw
        case rel => exact ⟨pos + z, k + 1, u + unitsOf (cAt s.data.toList (fr + pos)), rfl, by rw [HW.out]; go_num, by rw [← Nat.add_assoc]; exact HS.out, e2, by rw [HW.out]; omega⟩
        case measure => rw [World.iterPos_iter, World.iterPos_iter, Hxs.out]; omega
    · obtain rfl : pos = to_ - fr := by omega
      have hnx := fun ty => run_next_end (P := Tryd.prog) wl x (to_ - fr) ty (by rw [Hxs.out]; omega)
      have HR : Hid (Sel s.data.toList fr to_ false N to_) := ⟨k, u, by have := HG.out; rwa [show fr + (to_ - fr) = to_ from by omega] at this, Nat.le_refl _, hN, .inl rfl⟩
      go_wp2_with fail
      go_ret
      exact ⟨to_, rfl, HR.out, hb1.alloc hbs _⟩

set_option maxHeartbeats 1000000 in
set_option maxRecDepth 100000 in
theorem findU_walk (r : Nat) (s : ByteArray) (line : Int) (N : Nat) (w : World) (h : RopeAt w r s) (hs : s.size ≤ 16777216) :
    Calls Tryd.prog 54 #[.pointer (some ⟨r, 0, none⟩), .int .i64 line, .int .i64 N, .func (.func 53) #[] #[]] w fun e w' => ∃ x : Nat, e = .returned (.int .i64 x) ∧ FindIs s.data.toList line N true x ∧ Below w.heap.size w w' := by
  by_cases h1 : line < 0
  · go_enter Tryd.func54, Tryd.ntmps54
    go_wp2_with fail
    go_ret
    exact ⟨0, rfl, by unfold FindIs; rw [if_pos h1], Below.refl _ _⟩
  · by_cases h2 : ((linesOf s.data.toList).length : Int) ≤ line
    · have HF : Hid (FindIs s.data.toList line N true s.size) := by show FindIs _ _ _ _ _; unfold FindIs; rw [if_neg h1, if_pos h2, dlen]
      obtain ⟨g, cap, r0, r1⟩ : ∃ g cap, w.cell? ⟨r, 0, none⟩ = some (.string s) ∧ w.cell? ⟨r, 1, none⟩ = some (.slice (some ⟨g, 0, none⟩) (linesOf s.data.toList).length cap) := by
        obtain ⟨g, cap, a, b⟩ := h
        exact ⟨g, cap, a.cell 0, a.cell 1⟩
      go_enter Tryd.func54, Tryd.ntmps54
      go_wp2_with fail
      go_ret
      exact ⟨s.size, rfl, HF.out, Below.refl _ _⟩
    · obtain ⟨n, rfl⟩ := Int.eq_ofNat_of_zero_le (a := line) (by omega)
      refine (findU_in r s n N w h (by omega) hs).mono ?_
      rintro e w' ⟨x, rfl, hx, hb⟩
      exact ⟨x, rfl, by unfold FindIs; rw [if_neg h1, if_neg h2]; exact hx, hb⟩

set_option maxRecDepth 100000 in
theorem atU_walk (r : Nat) (s : ByteArray) (line unit : Int) (w : World) (h : RopeAt w r s) (hs : s.size ≤ 16777216) :
    Calls Tryd.prog 13 #[.pointer (some ⟨r, 0, none⟩), .int .i64 line, .int .i64 unit] w fun e w' => ∃ x : Nat, e = .returned (.int .i64 x) ∧ FindIs s.data.toList line (max unit 0).toNat true x ∧ Below w.heap.size w w' := by
  obtain ⟨N, hN⟩ : ∃ N : Nat, (max unit 0).toNat = N := ⟨_, rfl⟩
  have hmx : max unit 0 = (N : Int) := by omega
  rw [hN]
  clear hN
  have hf := findU_walk r s line N w h hs
  go_enter Tryd.func13, Tryd.ntmps13
  go_wp2_with fail
  refine hf.mono ?_
  rintro e w' ⟨x, rfl, hx, hb⟩
  go_wp2_with fail
  go_ret
  exact ⟨x, rfl, hx, hb⟩

set_option maxHeartbeats 1000000 in
set_option maxRecDepth 100000 in
theorem findR_walk (r : Nat) (s : ByteArray) (line : Int) (N : Nat) (w : World) (h : RopeAt w r s) (hs : s.size ≤ 16777216) :
    Calls Tryd.prog 54 #[.pointer (some ⟨r, 0, none⟩), .int .i64 line, .int .i64 N, .func (.func 55) #[] #[]] w fun e w' => ∃ x : Nat, e = .returned (.int .i64 x) ∧ FindIs s.data.toList line N false x ∧ Below w.heap.size w w' := by
  by_cases h1 : line < 0
  · go_enter Tryd.func54, Tryd.ntmps54
    go_wp2_with fail
    go_ret
    exact ⟨0, rfl, by unfold FindIs; rw [if_pos h1], Below.refl _ _⟩
  · by_cases h2 : ((linesOf s.data.toList).length : Int) ≤ line
    · have HF : Hid (FindIs s.data.toList line N false s.size) := by show FindIs _ _ _ _ _; unfold FindIs; rw [if_neg h1, if_pos h2, dlen]
      obtain ⟨g, cap, r0, r1⟩ : ∃ g cap, w.cell? ⟨r, 0, none⟩ = some (.string s) ∧ w.cell? ⟨r, 1, none⟩ = some (.slice (some ⟨g, 0, none⟩) (linesOf s.data.toList).length cap) := by
        obtain ⟨g, cap, a, b⟩ := h
        exact ⟨g, cap, a.cell 0, a.cell 1⟩
      go_enter Tryd.func54, Tryd.ntmps54
      go_wp2_with fail
      go_ret
      exact ⟨s.size, rfl, HF.out, Below.refl _ _⟩
    · obtain ⟨n, rfl⟩ := Int.eq_ofNat_of_zero_le (a := line) (by omega)
      refine (findR_in r s n N w h (by omega) hs).mono ?_
      rintro e w' ⟨x, rfl, hx, hb⟩
      exact ⟨x, rfl, by unfold FindIs; rw [if_neg h1, if_neg h2]; exact hx, hb⟩

set_option maxRecDepth 100000 in
theorem atR_walk (r : Nat) (s : ByteArray) (line unit : Int) (w : World) (h : RopeAt w r s) (hs : s.size ≤ 16777216) :
    Calls Tryd.prog 14 #[.pointer (some ⟨r, 0, none⟩), .int .i64 line, .int .i64 unit] w fun e w' => ∃ x : Nat, e = .returned (.int .i64 x) ∧ FindIs s.data.toList line (max unit 0).toNat false x ∧ Below w.heap.size w w' := by
  obtain ⟨N, hN⟩ : ∃ N : Nat, (max unit 0).toNat = N := ⟨_, rfl⟩
  have hmx : max unit 0 = (N : Int) := by omega
  rw [hN]
  clear hN
  have hf := findR_walk r s line N w h hs
  go_enter Tryd.func14, Tryd.ntmps14
  go_wp2_with fail
  refine hf.mono ?_
  rintro e w' ⟨x, rfl, hx, hb⟩
  go_wp2_with fail
  go_ret
  exact ⟨x, rfl, hx, hb⟩
end Go.Proofs.YtffcfnnbdmihaaaDoor
