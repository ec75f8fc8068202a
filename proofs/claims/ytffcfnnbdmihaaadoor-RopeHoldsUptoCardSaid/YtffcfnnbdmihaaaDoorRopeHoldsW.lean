/-
  THE WALK of the law RopeHolds.
-/
import Derived.Test.YtffcfnnbdmihaaaDoorRope
import Derived.Test.YtffcfnnbdmihaaaDoorTold
namespace Go.Proofs.YtffcfnnbdmihaaaDoor
open Go.RowKit

theorem RopeAt.drewN {w : World} {r : Nat} {s : ByteArray} (h : RopeAt w r s) (n : Nat) : RopeAt (w.drewN n) r s := by
  obtain ⟨g, cap, h1, h2⟩ := h
  exact ⟨g, cap, h1.drewN n, h2.keep fun _ _ _ => rfl⟩
theorem isThere_not {n f t : Int} (h : isThere n f t = false) : ¬ (0 ≤ f ∧ f ≤ t ∧ t ≤ n) := of_decide_eq_false h

set_option maxHeartbeats 1000000 in
set_option maxRecDepth 100000 in
theorem ropeHolds_no (s : ByteArray) (f t : Int) (x : ByteArray) (w : World) (hg : ErrT w) (hbk : s.size + x.size ≤ 1048576) (hn : isThere s.size f t = false) :
    Calls Tryd.prog 6 #[.string s, .int .i64 f, .int .i64 t, .string x] w fun e w' => e = .returned (.bool true) ∧ Below w.heap.size w w' := by
  have hways : decide (0 ≤ f) = false ∨ (decide (0 ≤ f) = true ∧ decide (f ≤ t) = false) ∨ (decide (0 ≤ f) = true ∧ decide (f ≤ t) = true ∧ decide (t ≤ (s.size : Int)) = false) := by
    have := isThere_not hn
    simp only [decide_eq_true_eq, decide_eq_false_iff_not]
    omega
  have Hn := Lib.hid hn
  have Hw := Lib.hid hways
  clear hn hways
  go_enter Tryd.func6, Tryd.ntmps6
  go_wp2_with fail
  refine (new_walk s _ (by omega)).mono ?_
  rintro e w1 ⟨r, rfl, hr0, hR1, hb1⟩
  go_wp2_with fail
  refine (len_walk r s _ hR1).mono ?_
  rintro e w' ⟨rfl, rfl⟩
  go_wp2_with fail
  refine (lines_walk r s _ hR1).mono ?_
  rintro e w' ⟨rfl, rfl⟩
  go_wp2_with fail
  refine (text_no r s f t _ hR1 Hn.out).mono ?_
  rintro e w2 ⟨rfl, hb2⟩
  have hR2 := hR1.below hb2
  have hb02 := hb1.trans (hb2.mono hb1.size)
  go_wp2_with fail
  refine (replace_no r s x f t _ hR2 Hn.out).mono ?_
  rintro e w3 ⟨rfl, hb3⟩
  have hR3 := hR2.below hb3
  have hb03 := hb02.trans (hb3.mono hb02.size)
  generalize hls : (linesOf s.data.toList).length = ls at *
  have Hls := Lib.hid hls
  clear hls
  rcases Hw.out with d1 | ⟨d1, d2⟩ | ⟨d1, d2, d3⟩
  all_goals
    go_wp2_with fail
    refine (error_yes 1 1 _ (hg.size hb03) rfl).mono ?_
    rintro e w4 ⟨rfl, hb4⟩
    have hb04 := hb03.trans (hb4.mono hb03.size)
    go_wp2_with fail
    refine (rlines_walk s _ (by omega)).mono ?_
    rw [Hls.out]
    rintro e w' ⟨rfl, rfl⟩
    go_wp2_with fail
    go_ret
    exact ⟨rfl, hb04⟩

set_option maxHeartbeats 1000000 in
set_option maxRecDepth 100000 in
theorem ropeHolds_yes (s : ByteArray) (f t : Nat) (x : ByteArray) (w : World) (hg : ErrT w) (hbk : s.size + x.size ≤ 1048576) (hft : f ≤ t) (hts : t ≤ s.size) :
    Calls Tryd.prog 6 #[.string s, .int .i64 f, .int .i64 t, .string x] w fun e w' => e = .returned (.bool true) ∧ Below w.heap.size w w' := by
  have d1 : decide ((0 : Int) ≤ (f : Int)) = true := by simp
  have d2 : decide (f ≤ t) = true := by simp [hft]
  have d3 : decide (t ≤ s.size) = true := by simp [hts]
  have hfs : f ≤ s.size := by omega
  have e1 : ¬ 9223372036854775807 < f + x.size := by omega
  have e2 : ¬ 9223372036854775807 < f + x.size + (s.size - t) := by omega
  have hz : (repl s x f t).size ≤ 1048576 := by unfold repl; rw [ByteArray.size_append, ByteArray.size_append, ByteArray.size_extract, ByteArray.size_extract]; omega
  have Hq : Hid (s.extract 0 f ++ x ++ s.extract t s.size = repl s x f t) := rfl
  have Hx1 : Hid ((repl s x f t).extract 0 (repl s x f t).size = repl s x f t) := ByteArray.extract_zero_size
  have Hx2 : Hid (s.extract 0 s.size = s) := ByteArray.extract_zero_size
  go_enter Tryd.func6, Tryd.ntmps6
  go_wp2_with fail
  refine (new_walk s _ (by omega)).mono ?_
  rintro e w1 ⟨r, rfl, hr0, hR1, hb1⟩
  go_wp2_with fail
  refine (len_walk r s _ hR1).mono ?_
  rintro e w' ⟨rfl, rfl⟩
  go_wp2_with fail
  refine (lines_walk r s _ hR1).mono ?_
  rintro e w' ⟨rfl, rfl⟩
  go_wp2_with fail
  refine (text_yes r s f t _ hR1 hft hts (by omega)).mono ?_
  rintro e w2 ⟨rfl, hb2⟩
  have hR2 := hR1.below hb2
  have hb02 := hb1.trans (hb2.mono hb1.size)
  go_wp2_with fail
  refine (replace_yes r s x f t _ hR2 hft hts (by omega)).mono ?_
  rintro e w3 ⟨q, rfl, hq0, hQ3, hb3⟩
  have hR3 := hR2.below hb3
  have hb03 := hb02.trans (hb3.mono hb02.size)
  generalize hls : (linesOf s.data.toList).length = ls at *
  have Hls := Lib.hid hls
  clear hls
  go_wp2_with fail
  refine (error_yes 0 0 _ (hg.size hb03) rfl).mono ?_
  rintro e w4 ⟨rfl, hb4⟩
  have hb04 := hb03.trans (hb4.mono hb03.size)
  have hR4 := hR3.below hb4
  have hQ4 := hQ3.below hb4
  go_wp2_with fail
  refine (rlines_walk s _ (by omega)).mono ?_
  rw [Hls.out]
  rintro e w' ⟨rfl, rfl⟩
  go_wp2_with fail
  go_quiet (fail)
  rw [Hq.out]
  generalize repl s x f t = y at *
  clear hR3 hQ3 hR2 hR1 hb4 hb03 hb3 hb02 hb2 hb1 Hq
  go_wp2_with fail
  refine (len_walk q y _ (hQ4.drewN _)).mono ?_
  rintro e w' ⟨rfl, rfl⟩
  go_wp2_with fail
  refine (lines_walk q y _ (hQ4.drewN _)).mono ?_
  rintro e w' ⟨rfl, rfl⟩
  generalize hly : (linesOf y.data.toList).length = ly at *
  have Hly := Lib.hid hly
  clear hly
  go_wp2_with fail
  refine (text_yes q y 0 y.size _ (hQ4.drewN _) (Nat.zero_le _) (Nat.le_refl _) (by omega)).mono ?_
  rw [Hx1.out]
  rintro e w6 ⟨rfl, hb6⟩
  have hR6 := (hR4.drewN _).below hb6
  have hb06 := (below_drewN hb04 _).trans (hb6.mono (below_drewN hb04 _).size)
  go_wp2_with fail
  refine (rlines_walk y _ (by omega)).mono ?_
  rw [Hly.out]
  rintro e w' ⟨rfl, rfl⟩
  go_wp2_with fail
  refine (len_walk r s _ hR6).mono ?_
  rintro e w' ⟨rfl, rfl⟩
  go_wp2_with fail
  have htx := text_yes r s 0 s.size _ hR6 (Nat.zero_le _) (Nat.le_refl _) (by omega)
  rw [Hx2.out] at htx
  refine htx.mono ?_
  clear htx
  rintro e w7 ⟨rfl, hb7⟩
  go_wp2_with fail
  go_ret
  exact ⟨by simp, hb06.trans (hb7.mono hb06.size)⟩

theorem ropeHolds_walk (s : ByteArray) (f t : Int) (x : ByteArray) (w : World) (hg : ErrT w) (hbk : s.size + x.size ≤ 1048576) :
    Calls Tryd.prog 6 #[.string s, .int .i64 f, .int .i64 t, .string x] w fun e w' => e = .returned (.bool true) ∧ Below w.heap.size w w' := by
  cases h : isThere s.size f t with
  | false => exact ropeHolds_no s f t x w hg hbk h
  | true =>
    obtain ⟨h1, h2, h3⟩ := of_decide_eq_true h
    obtain ⟨f, rfl⟩ := Int.eq_ofNat_of_zero_le h1
    obtain ⟨t, rfl⟩ := Int.eq_ofNat_of_zero_le (a := t) (by omega)
    exact ropeHolds_yes s f t x w hg hbk (by omega) (by omega)
end Go.Proofs.YtffcfnnbdmihaaaDoor
