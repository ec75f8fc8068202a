/-
  THE WALK of (*rope.Rope).Place.
-/
import Derived.Test.YtffcfnnbdmihaaaDoorPlace
namespace Go.Proofs.YtffcfnnbdmihaaaDoor
open Go.RowKit

/-- what is told of a byte's place: the line, the characters and the units ahead; j: where the character stands -/
def PlaceIs (T : List UInt8) (a n k u j : Nat) : Prop :=
  n < (linesOf T).length ∧ fromOf T n ≤ a ∧ a ≤ toOf T n ∧ Goes T (fromOf T n) k u j ∧ j ≤ a ∧ (j = a ∨ (j < T.length ∧ a < j + sAt T j))
def clampA (T : List UInt8) (at_ : Int) : Nat := (max 0 (min at_ (T.length : Int))).toNat

theorem clampA_le (T : List UInt8) (at_ : Int) : clampA T at_ ≤ T.length := by unfold clampA; omega

/-- the line of a place -/
theorem lineOf_spec (T : List UInt8) (a : Nat) (ha : a ≤ T.length) : ∃ n, (linesOf T).countP (fun y => decide (y < a + 1)) = n + 1 ∧ n < (linesOf T).length ∧ fromOf T n ≤ a ∧ a ≤ toOf T n := by
  obtain ⟨h1, h2⟩ := below_count (linesOf_sorted T) (a + 1)
  have h0 : 0 < (linesOf T).length := by simp [linesOf]
  have h3 := (h2 0 h0).2 (by simp [linesOf])
  obtain ⟨n, hn⟩ : ∃ n, (linesOf T).countP (fun y => decide (y < a + 1)) = n + 1 := ⟨_, (Nat.succ_pred_eq_of_pos h3).symm⟩
  rw [hn] at h1 h2
  refine ⟨n, hn, by omega, ?_, ?_⟩
  · have := (h2 n (by omega)).1 (by omega)
    unfold fromOf
    rw [List.getElem?_eq_getElem (by omega)]
    show (linesOf T)[n] ≤ a
    omega
  · by_cases h : n + 1 < (linesOf T).length
    · obtain ⟨f1, f2, -⟩ := from_succ h
      have := (h2 (n + 1) h)
      have h4 : ¬ (linesOf T)[n + 1] < a + 1 := fun hx => by have := this.2 hx; omega
      unfold fromOf at f1 f2
      rw [List.getElem?_eq_getElem h] at f1 f2
      simp only [Option.getD_some] at f1 f2
      omega
    · unfold toOf; rw [if_neg h]; exact ha

set_option maxHeartbeats 2000000 in
set_option maxRecDepth 100000 in
theorem place_walk (r : Nat) (s : ByteArray) (at_ : Int) (w : World) (hT : T8 w) (h : RopeAt w r s) (hs : s.size ≤ 16777216) :
    Calls Tryd.prog 12 #[.pointer (some ⟨r, 0, none⟩), .int .i64 at_] w fun e w' => ∃ n k u j : Nat, e = .returned (.agg #[.int .i64 n, .int .i64 k, .int .i64 u]) ∧ PlaceIs s.data.toList (clampA s.data.toList at_) n k u j ∧ Below w.heap.size w w' := by
  obtain ⟨a, ha⟩ : ∃ a, clampA s.data.toList at_ = a := ⟨_, rfl⟩
  have hal := clampA_le s.data.toList at_
  rw [ha] at hal ⊢
  obtain ⟨n, hn1, hn2, hn3, hn4⟩ := lineOf_spec s.data.toList a hal
  rw [dlen] at hal
  have hmx : max 0 (min at_ (s.size : Int)) = (a : Int) := by
    rw [← ha]; unfold clampA; rw [dlen]; omega
  have Ha := Lib.hid ha
  have Hn1 := Lib.hid hn1
  clear ha hn1
  have H := h
  obtain ⟨g, cap, r0, r1, hc⟩ := h.start hn2
  have Hc := Lib.hid hc
  have hr2 : Rd w w.heap.size 1 (some ⟨g, 0, none⟩) (linesOf s.data.toList).length (nums (linesOf s.data.toList)) := by
    obtain ⟨g', cap', h1, h2⟩ := H
    have := h1.cell 1
    rw [r1] at this
    injection this with this
    injection this with e1 _ _
    rw [e1]; exact h2
  clear hc
  have hl := linesOf_len s.data.toList
  rw [dlen] at hl
  have hrl := h.lt
  go_enter Tryd.func12, Tryd.ntmps12
  go_wp2_with fail
  have hb0 : Below w.heap.size w (w.alloc (.cells #[.int .i64 0, .int .i64 0, .int .i64 0] 25)) := (Below.refl _ _).alloc (Nat.le_refl _) _
  have hR0 := Blk.new w 25 #[.int .i64 0, .int .i64 0, .int .i64 0]
  generalize w.alloc (.cells #[.int .i64 0, .int .i64 0, .int .i64 0] 25) = w0 at *
  have hsw := search_walk g cap (linesOf s.data.toList) (a + 1) w0 ((hr2.below hb0).more hb0.size) (linesOf_sorted _) (by omega) (by omega)
  rw [Hn1.out] at hsw
  have e1 : ((a + 1 : Nat) : Int) = (a : Int) + 1 := by omega
  rw [e1] at hsw
  refine hsw.mono ?_
  clear hsw e1 hmx
  rintro e w1 ⟨rfl, hb1⟩
  have hb01 := hb0.trans (hb1.mono hb0.size)
  have hR1 := hR0.below hb1 hR0.lt
  have H1 := H.below hb01
  have hrl1 := H1.lt
  obtain ⟨g1, cap1, r01, r11, hc1⟩ := H1.start hn2
  have c1 := hc1 n hn2
  have hT1 := hT.below hb01
  have hsz1 := hb01.size
  have hgl1 : g1 < w1.heap.size := World.block_lt_of_cell? w1 ⟨g1, n, none⟩ c1
  have ft := from_lt hn2
  rw [dlen] at ft
  clear r0 r1 hc1 hR0 hb0 hb1
  have e2 : ((n + 1 : Nat) : Int) - 1 = n := by omega
  generalize hln : (linesOf s.data.toList).length = ln at *
  have Hn2 : Hid (n < (linesOf s.data.toList).length) := by show n < _; rw [hln]; exact hn2
  clear hln
  go_wp2_with fail
  have hbp : Below w.heap.size w (w1.alloc (.cells #[.int .i64 n, .int .i64 0, .int .i64 0] 25)) := hb01.alloc hsz1 _
  have hRz0 := hR1.alloc (.cells #[.int .i64 n, .int .i64 0, .int .i64 0] 25)
  have hRp0 := Blk.new w1 25 #[.int .i64 n, .int .i64 0, .int .i64 0]
  have hlt1 := hR1.lt
  generalize w1.alloc (.cells #[.int .i64 n, .int .i64 0, .int .i64 0] 25) = wp at *
  generalize w1.heap.size = pb at *
  go_loopw [7] (fun i wr => ∃ k u j : Nat, i = .int .i64 j ∧ Hid (Goes s.data.toList (fromOf s.data.toList n) k u j) ∧ j ≤ a ∧ Below w.heap.size w wr ∧ Blk wr w.heap.size 25 #[.int .i64 0, .int .i64 0, .int .i64 0] ∧ Blk wr pb 25 #[.int .i64 n, .int .i64 k, .int .i64 u]) (fun i _ => a - (intOf i).toNat)
  case atStart => exact ⟨0, 0, _, rfl, Goes.zero _, hn3, hbp, hRz0, hRp0⟩
  case round =>
    clear hbp hRz0 hRp0 hR1 hb01 H1 r01 r11 c1 hT1
    obtain ⟨k, u, j, rfl, HG, hja, hb, hRz, hRp⟩ := hrel
    have hbs := hb.size
    obtain ⟨b1, b2, b3, b4⟩ := HG.out.bounds
    have Hr := H.below hb
    obtain ⟨g2, cap2, r0, r1, hc2⟩ := Hr.start Hn2.out
    clear hc2
    have p0 := hRp.cell 0
    have p1 := hRp.cell 1
    have p2 := hRp.cell 2
    have fp1 := hRp.frozen 1
    have fp2 := hRp.frozen 2
    have hpl := hRp.lt
    simp at p0 p1 p2
    have hjs0 : j ≤ s.size := by omega
    by_cases hlt : j < a
    · have hjs : j < s.size := by omega
      have hz1 := sAt_pos s.data.toList j
      have hz2 := sAt_le (T := s.data.toList) (i := j) (by rw [dlen]; exact hjs)
      rw [dlen] at hz2
      have hu := unitsOf_pos (cAt s.data.toList j)
      have HS : Hid (Goes s.data.toList (fromOf s.data.toList n) (k + 1) (u + unitsOf (cAt s.data.toList j)) (j + sAt s.data.toList j)) := HG.out.snoc (by rw [dlen]; exact hjs)
      have HZ : Hid (a < j + sAt s.data.toList j → PlaceIs s.data.toList a n k u j) := fun h => ⟨Hn2.out, hn3, hn4, HG.out, hja, .inr ⟨by rw [dlen]; exact hjs, h⟩⟩
      have hd := decode_walk s j hjs wr (hT.below hb)
      have hk : k ≤ 16777216 := by omega
      have huu : u ≤ 33554432 := by omega
      clear b1 b2 b3 b4
      generalize sAt s.data.toList j = z at *
      have Hu := units_walk (cAt s.data.toList j)
      generalize cAt s.data.toList j = c at *
      go_wp2_with fail
      refine hd.mono ?_
      clear hd r0 r1
      rintro e w2 ⟨rfl, hb2⟩
      have hb02 := hb.trans (hb2.mono hbs)
      have hRz2 := hRz.below hb2 hRz.lt
      have hRp2 := hRp.below hb2 hRp.lt
      clear p0 p1 p2 fp1 fp2
      have p0 := hRp2.cell 0
      have p1 := hRp2.cell 1
      have p2 := hRp2.cell 2
      have fp1 := hRp2.frozen 1
      have fp2 := hRp2.frozen 2
      have z0 := hRz2.cell 0
      have z1 := hRz2.cell 1
      have z2 := hRz2.cell 2
      have fz0 := hRz2.frozen 0
      have fz1 := hRz2.frozen 1
      have fz2 := hRz2.frozen 2
      simp at p0 p1 p2 z0 z1 z2
      by_cases hbk : a < j + z
      · have HP := Lib.hid (HZ.out hbk)
        go_wp2_with fail
        have hres : Tryd.f12.results = #[.cell 4 25] := by kernel_rfl
        refine bodyPost_ret (v := .agg #[.int .i64 n, .int .i64 k, .int .i64 u]) ?_ rfl ⟨n, k, u, j, rfl, HP.out, ?_⟩
        · simp only [results, hres]
          go_simp
        · exact ((hb02.setCell (p := ⟨w.heap.size, 0, none⟩) (Nat.le_refl _) _).setCell (p := ⟨w.heap.size, 1, none⟩) (Nat.le_refl _) _).setCell (p := ⟨w.heap.size, 2, none⟩) (Nat.le_refl _) _
      · have hk2 : IntKind.i64.wrap ((u : Int) + unitsOf c) = u + unitsOf c := by rw [IntWalk.i64_in _ (by omega)]
        go_wp2_with fail
        have hRp3 := hRp2.set_ 1 (.int .i64 ((k : Int) + 1))
        have hRz3 := hRz2.far (p := ⟨pb, 1, none⟩) (Nat.ne_of_lt hlt1) (.int .i64 ((k : Int) + 1))
        have hb3 := hb02.setCell (p := ⟨pb, 1, none⟩) (Nat.le_of_lt hlt1) (.int .i64 ((k : Int) + 1))
        clear p0 p1 p2 fp1 fp2 z0 z1 z2 fz0 fz1 fz2 hRz2 hRp2 hb02 hRz hRp hb hb2
        generalize w2.setCell ⟨pb, 1, none⟩ (.int .i64 ((k : Int) + 1)) = w3 at *
        have p2 : w3.cell? ⟨pb, 2, none⟩ = some (.int .i64 u) := (hRp3.cell 2).trans rfl
        have fp2 := hRp3.frozen 2
        have hpl3 := hRp3.lt
        go_region_with (first | (go_at_call 53; refine (Hu _).mono ?_; rintro e w' ⟨rfl, rfl⟩))
        all_goals
          go_wp2_with fail
          go_roundw
          case rel =>
            refine ⟨k + 1, u + unitsOf c, j + z, by go_num, HS, by omega, (hb3.setCell (p := ⟨pb, 2, none⟩) (Nat.le_of_lt hlt1) _).drew, (hRz3.far (p := ⟨pb, 2, none⟩) (Nat.ne_of_lt hlt1) _).drew, ?_⟩
            have := (hRp3.set_ 2 (.int .i64 ((u : Int) + unitsOf c))).drew
            exact this
          case measure => simp [intOf]; omega
    · obtain rfl : j = a := by omega
      have z0 := hRz.cell 0
      have z1 := hRz.cell 1
      have z2 := hRz.cell 2
      have fz0 := hRz.frozen 0
      have fz1 := hRz.frozen 1
      have fz2 := hRz.frozen 2
      simp at z0 z1 z2
      go_wp2_with fail
      have hres : Tryd.f12.results = #[.cell 4 25] := by kernel_rfl
      refine bodyPost_ret (v := .agg #[.int .i64 n, .int .i64 k, .int .i64 u]) ?_ rfl ⟨n, k, u, j, rfl, ⟨Hn2.out, hn3, hn4, HG.out, hja, .inl rfl⟩, ?_⟩
      · simp only [results, hres]
        go_simp
      · exact ((hb.setCell (p := ⟨w.heap.size, 0, none⟩) (Nat.le_refl _) _).setCell (p := ⟨w.heap.size, 1, none⟩) (Nat.le_refl _) _).setCell (p := ⟨w.heap.size, 2, none⟩) (Nat.le_refl _) _
end Go.Proofs.YtffcfnnbdmihaaaDoor
