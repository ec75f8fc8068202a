/-
  THE WALKS of package rope: Units, line, Place, Rune.
-/
import Derived.Test.YtffcfnnbdmihaaaDoorSearch
import Derived.StillTailTactics
import Derived.Deep.DeepCutAuto
namespace Go.Proofs.YtffcfnnbdmihaaaDoor
open Go.RowKit

set_option maxRecDepth 100000 in
theorem units_walk (c : Nat) (w : World) : Calls Tryd.prog 53 #[.int .i32 c] w fun e w' => e = .returned (.int .i64 (unitsOf c)) ∧ w = w' := by
  by_cases h : c > 0xFFFF
  · have e1 : unitsOf c = 2 := by unfold unitsOf; rw [if_pos h]
    rw [e1]
    go_enter Tryd.func53, Tryd.ntmps53
    go_wp2
    go_ret
    exact ⟨rfl, rfl⟩
  · have e1 : unitsOf c = 1 := by unfold unitsOf; rw [if_neg h]
    rw [e1]
    go_enter Tryd.func53, Tryd.ntmps53
    go_wp2
    go_ret
    exact ⟨rfl, rfl⟩

/-- where the n-th line of a text ends -/
def toOf (T : List UInt8) (n : Nat) : Nat := if n + 1 < (linesOf T).length then (linesOf T)[n + 1]?.getD 0 - 1 else T.length
def fromOf (T : List UInt8) (n : Nat) : Nat := (linesOf T)[n]?.getD 0

theorem RopeAt.start {w : World} {r : Nat} {s : ByteArray} (h : RopeAt w r s) {n : Nat} (hn : n < (linesOf s.data.toList).length) :
    ∃ g cap, w.cell? ⟨r, 0, none⟩ = some (.string s) ∧ w.cell? ⟨r, 1, none⟩ = some (.slice (some ⟨g, 0, none⟩) (linesOf s.data.toList).length cap) ∧ ∀ k, k < (linesOf s.data.toList).length → w.cell? ⟨g, k, none⟩ = some (.int .i64 (fromOf s.data.toList k)) := by
  obtain ⟨g, cap, h1, h2⟩ := h
  refine ⟨g, cap, h1.cell 0, h1.cell 1, fun k hk => ?_⟩
  obtain ⟨b, o, e, hb, hc⟩ := h2.2 (by omega)
  injection e with e
  injection e with e1 e2
  subst e1 e2
  have := hc k (.int .i64 (fromOf s.data.toList k)) (by simp [nums, fromOf, hk])
  simpa using this

theorem from_lt {T : List UInt8} {n : Nat} (hn : n < (linesOf T).length) : fromOf T n ≤ T.length := by
  unfold fromOf
  rw [List.getElem?_eq_getElem hn]
  exact linesOf_le T _ (List.getElem_mem _)
theorem from_succ {T : List UInt8} {n : Nat} (hn : n + 1 < (linesOf T).length) : fromOf T n < fromOf T (n + 1) ∧ toOf T n = fromOf T (n + 1) - 1 ∧ byteAt T (toOf T n) = 10 := by
  have h1 := List.pairwise_iff_getElem.1 (linesOf_sorted T) n (n + 1) (by omega) hn (by omega)
  unfold fromOf toOf
  rw [if_pos hn, List.getElem?_eq_getElem hn, List.getElem?_eq_getElem (by omega)]
  refine ⟨h1, rfl, ?_⟩
  have h2 : (linesOf T)[n + 1] ∈ starts 0 T := by
    simp only [linesOf, List.getElem_cons_succ]
    exact List.getElem_mem _
  have := starts_ten T 0 _ h2
  simpa using this
theorem to_bounds {T : List UInt8} {n : Nat} (hn : n < (linesOf T).length) : fromOf T n ≤ toOf T n ∧ toOf T n ≤ T.length := by
  by_cases h : n + 1 < (linesOf T).length
  · obtain ⟨h1, h2, h3⟩ := from_succ h
    have := from_lt h
    omega
  · have := from_lt hn
    unfold toOf
    rw [if_neg h]
    omega
theorem to_end {T : List UInt8} (n : Nat) : toOf T n = T.length ∨ byteAt T (toOf T n) = 10 := by
  by_cases h : n + 1 < (linesOf T).length
  · exact .inr (from_succ h).2.2
  · left; unfold toOf; rw [if_neg h]

set_option maxHeartbeats 1000000 in
set_option maxRecDepth 100000 in
theorem line_walk (r : Nat) (s : ByteArray) (n : Nat) (w : World) (h : RopeAt w r s) (hn : n < (linesOf s.data.toList).length) (hs : s.size ≤ 16777216) :
    Calls Tryd.prog 73 #[.pointer (some ⟨r, 0, none⟩), .int .i64 n] w fun e w' => e = .returned (.tuple #[.int .i64 (fromOf s.data.toList n), .int .i64 (toOf s.data.toList n)]) ∧ ∃ k, w' = w.drewN k := by
  obtain ⟨g, cap, r0, r1, hc⟩ := h.start hn
  have hl := linesOf_len s.data.toList
  rw [dlen] at hl
  have c0 := hc n hn
  by_cases h1 : n + 1 < (linesOf s.data.toList).length
  · have c1 := hc (n + 1) h1
    obtain ⟨f1, f2, -⟩ := from_succ h1
    have f3 := from_lt h1
    rw [dlen] at f3
    rw [f2]
    clear f2
    generalize (linesOf s.data.toList).length = ln at *
    generalize fromOf s.data.toList n = a at *
    generalize fromOf s.data.toList (n + 1) = b at *
    have e0 : ((b - 1 : Nat) : Int) = (b : Int) - 1 := by omega
    rw [e0]
    have i0 : (0 : Int) ≤ (n : Int) := by omega
    have i1 : (n : Int) < (ln : Int) := by omega
    have i2 : (0 : Int) ≤ (n : Int) + 1 := by omega
    have i3 : (n : Int) + 1 < (ln : Int) := by omega
    have i4 : ((n : Int) + 1).toNat = n + 1 := by omega
    have w1 : IntKind.i64.wrap ((n : Int) + 1) = n + 1 := by rw [IntWalk.i64_in _ (by omega)]
    have w2 : IntKind.i64.wrap ((b : Int) - 1) = b - 1 := by rw [IntWalk.i64_in _ (by omega)]
    clear hc e0
    go_enter Tryd.func73, Tryd.ntmps73
    go_wp2_with fail
    go_quiet (fail)
    go_wp2_with fail
    go_ret2
    exact ⟨rfl, _, rfl⟩
  · have e1 : toOf s.data.toList n = s.size := by unfold toOf; rw [if_neg h1, dlen]
    rw [e1]
    generalize (linesOf s.data.toList).length = ln at *
    generalize fromOf s.data.toList n = a at *
    have i0 : (0 : Int) ≤ (n : Int) := by omega
    have i1 : (n : Int) < (ln : Int) := by omega
    clear hc
    go_enter Tryd.func73, Tryd.ntmps73
    go_wp2_with fail
    go_quiet (fail)
    go_wp2_with fail
    go_ret2
    exact ⟨rfl, _, rfl⟩

set_option maxRecDepth 100000 in
theorem rune_no (r : Nat) (s : ByteArray) (at_ : Int) (w : World) (h : RopeAt w r s) (hn : at_ < 0 ∨ (s.size : Int) ≤ at_) :
    Calls Tryd.prog 15 #[.pointer (some ⟨r, 0, none⟩), .int .i64 at_] w fun e w' => e = .returned (.tuple #[.int .i32 0, .int .i64 0]) ∧ Below w.heap.size w w' := by
  obtain ⟨g, cap, h1, h2⟩ := h
  have r0 := h1.cell 0
  simp at r0
  by_cases h3 : at_ < 0
  · clear hn
    go_enter Tryd.func15, Tryd.ntmps15
    go_wp2
    go_ret2
    exact ⟨rfl, Below.refl _ _⟩
  · have h4 : (s.size : Int) ≤ at_ := by omega
    have d1 : decide (at_ < 0) = false := by simp; omega
    clear hn
    go_enter Tryd.func15, Tryd.ntmps15
    go_wp2
    go_ret2
    exact ⟨rfl, Below.refl _ _⟩
set_option maxRecDepth 100000 in
theorem rune_yes (r : Nat) (s : ByteArray) (i : Nat) (w : World) (hT : T8 w) (h : RopeAt w r s) (hi : i < s.size) :
    Calls Tryd.prog 15 #[.pointer (some ⟨r, 0, none⟩), .int .i64 i] w fun e w' => e = .returned (.tuple #[.int .i32 (cAt s.data.toList i), .int .i64 (sAt s.data.toList i)]) ∧ Below w.heap.size w w' := by
  obtain ⟨g, cap, h1, h2⟩ := h
  have r0 := h1.cell 0
  simp at r0
  have d1 : decide ((i : Int) < 0) = false := by simp
  have d2 : decide (s.size ≤ i) = false := by simp; omega
  have h3 : i ≤ s.size := by omega
  go_enter Tryd.func15, Tryd.ntmps15
  go_wp2_with fail
  refine (decode_walk s i hi _ hT).mono ?_
  rintro e w1 ⟨rfl, hb⟩
  go_wp2_with fail
  go_ret2
  exact ⟨rfl, hb⟩
end Go.Proofs.YtffcfnnbdmihaaaDoor
