/-
  THE WALK of the law QueryFew.
-/
import Derived.Test.YtnadldoebfmgmaaDoorQP
import Derived.Test.YtnadldoebfmgmaaDoorQU
namespace Go.Proofs.YtnadldoebfmgmaaDoor.q
open Go.RowKit

set_option maxRecDepth 100000 in
/-- too many rules -/
theorem New_full (A : Option Addr) (c : Nat) (n : Nat) (w : World) (h64 : 64 < n) :
    Calls Tryd.prog 13 #[.slice A n c] w fun e w' => e = .returned (.tuple #[.pointer none, errQ 12]) ∧ w = w' := by
  have i1 : (64 : Int) < (n : Int) := by omega
  go_enter Tryd.func13, Tryd.ntmps13
  go_wp2
  go_ret2
  exact ⟨rfl, rfl⟩
theorem fault_cases (l : List Ru) : faultM l = 0 ∨ faultM l = 1 ∨ faultM l = 12 := by
  unfold faultM
  split
  · exact .inr (.inr rfl)
  · split
    · exact .inr (.inl rfl)
    · exact .inl rfl
/-- New, what is wrong known -/
theorem New_bad (A : Option Addr) (c : Nat) (l : List Ru) (w : World) (hr : Rd w w.heap.size 4 A l.length (ruCells l)) (hf : faultM l ≠ 0) :
    Calls Tryd.prog 13 #[.slice A l.length c] w fun e w' => e = .returned (.tuple #[.pointer none, .iface 66 (.int .i64 (faultM l))]) ∧ Below w.heap.size w w' := by
  have he : errQ (faultM l) = .iface 66 (.int .i64 (faultM l)) := by
    rcases fault_cases l with h | h | h
    · exact absurd h hf
    · rw [h]; rfl
    · rw [h]; rfl
  by_cases h64 : l.length ≤ 64
  · refine (New_walk A c l w hr h64).mono fun e w' h => ?_
    obtain ⟨hb, h | ⟨h, _⟩⟩ := h
    · exact ⟨by rw [h.2, he], hb⟩
    · exact absurd h hf
  · refine (New_full A c l.length w (by omega)).mono ?_
    rintro e w' ⟨rfl, rfl⟩
    have e : faultM l = 12 := by unfold faultM; rw [if_pos (by omega)]
    exact ⟨by rw [e]; rfl, Below.refl _ _⟩
theorem New_good (A : Option Addr) (c : Nat) (l : List Ru) (w : World) (hr : Rd w w.heap.size 4 A l.length (ruCells l)) (hf : faultM l = 0) :
    Calls Tryd.prog 13 #[.slice A l.length c] w fun e w' => ∃ sp ps vc rb rc, e = .returned (.tuple #[.pointer (some ⟨sp, 0, none⟩), .nilIface]) ∧ ShAt (fun j => j < w.heap.size) w' w.heap.size sp 0 ps vc rb rc (newS l) ∧ Below w.heap.size w w' := by
  refine (New_walk A c l w hr (fault_zero hf).1).mono fun e w' h => ?_
  obtain ⟨hb, h | ⟨_, sp, ps, vc, rb, rc, h1, h2⟩⟩ := h
  · exact absurd hf h.1
  · exact ⟨sp, ps, vc, rb, rc, h1, h2, hb⟩
def liveL : List Ru := [⟨0, 0, 0, 0⟩, ⟨5, 0, 0, 0⟩]
theorem live_fault : faultM liveL = 0 := by decide
def liveS : Sh := (setM (newS liveL) 0 7).1
theorem live_get : (getM liveS 1).2 = (3, 0) := by decide +kernel
theorem live_runs : runsV (getM liveS 1).1 = #[.int .i64 0, .int .i64 1] := by
  have h : ((getM liveS 1).1.cs.map Cel.runs) = [0, 1] := by decide +kernel
  have e : runsV (getM liveS 1).1 = (((getM liveS 1).1.cs.map Cel.runs).map fun n => Value.int .i64 n).toArray := by unfold runsV; rw [List.map_map]; rfl
  rw [e, h]; rfl
theorem live_rest : liveS.Rest 1 := set_rest (new_rest live_fault) ⟨by omega, by omega⟩
set_option maxHeartbeats 1000000 in
set_option maxRecDepth 100000 in
theorem lives_walk (w : World) : Calls Tryd.prog 12 #[] w fun e w' => e = .returned (.bool true) ∧ Below w.heap.size w w' := by
  go_enter Tryd.func12, Tryd.ntmps12
  go_wp2_with fail
  have hr : Rd (w.alloc (.cells #[.int .i64 0, .int .i64 0, .int .i64 0, .int .i64 0, .int .i64 5, .int .i64 0, .int .i64 0, .int .i64 0] 65)) (w.alloc (.cells #[.int .i64 0, .int .i64 0, .int .i64 0, .int .i64 0, .int .i64 5, .int .i64 0, .int .i64 0, .int .i64 0] 65)).heap.size 4 (some ⟨w.heap.size, 0, none⟩) 2 (ruCells liveL) := by
    have hB := Blk.new w 65 #[.int .i64 0, .int .i64 0, .int .i64 0, .int .i64 0, .int .i64 5, .int .i64 0, .int .i64 0, .int .i64 0]
    refine ⟨rfl, fun _ => ⟨_, 0, rfl, hB.lt, fun j u hu => ?_⟩⟩
    rw [Nat.zero_add, hB.cell j, ← hu]
    have e : (#[.int .i64 0, .int .i64 0, .int .i64 0, .int .i64 0, .int .i64 5, .int .i64 0, .int .i64 0, .int .i64 0] : Array Value).toList = ruCells liveL := rfl
    rw [← Array.getElem?_toList, e]
  have hb1 : Below w.heap.size w (w.alloc (.cells #[.int .i64 0, .int .i64 0, .int .i64 0, .int .i64 0, .int .i64 5, .int .i64 0, .int .i64 0, .int .i64 0] 65)) := (Below.refl _ _).alloc (Nat.le_refl _) _
  have HN := Lib.hid (New_good (some ⟨w.heap.size, 0, none⟩) 2 liveL _ hr live_fault)
  clear hr
  generalize w.alloc (.cells #[.int .i64 0, .int .i64 0, .int .i64 0, .int .i64 0, .int .i64 5, .int .i64 0, .int .i64 0, .int .i64 0] 65) = w1 at *
  have hz1 := hb1.size
  refine HN.out.mono ?_
  rintro e w2 ⟨sp, ps, vc, rb, rc, rfl, hS2, hb2⟩
  have HB2 := Lib.hid (hb1.trans (hb2.mono hz1))
  have hz2 := hb2.size
  have hpl : ps.length = 2 := hS2.len
  have Hpl := Lib.hid hpl
  clear HN hb1 hb2 hpl
  go_wp2_with fail
  refine (Set_walk hS2 0 7 (by decide) (by decide) (by decide)).mono ?_
  rintro e w3 ⟨rfl, hS3, _, hb3⟩
  have HB3 := Lib.hid (HB2.out.trans (hb3.mono hz1))
  have hz3 := hb3.size
  have hS3' : ShAt (fun j => j < w1.heap.size) w3 w1.heap.size sp 0 ps vc rb rc liveS := hS3
  clear hS2 hb3 hS3 HB2
  go_wp2_with fail
  refine (Get_walk (B := 1) hS3' (fun j hj => by omega) (by omega) live_rest (by omega) 1).mono ?_
  rintro e w4 ⟨rfl, hS4, _, hb4⟩
  rw [live_get]
  have HB4 := Lib.hid (HB3.out.trans (hb4.mono hz1))
  have hz4 := hb4.size
  have hlen4 : (getM liveS 1).1.cs.length ≤ 1048576 := Nat.le_trans (get_rest (k := 1) live_rest (by omega)).1.small (by omega)
  have hru := live_runs
  generalize (getM liveS 1).1 = s4 at *
  have Hru := Lib.hid hru
  clear hS3' hb4 HB3 hru
  simp only [errQ]
  go_wp2_with fail
  refine (Runs_walk hS4 hlen4).mono ?_
  rintro e w5 ⟨g, rfl, hg, hgz, hb5⟩
  rw [Hru.out] at hg
  rw [Hpl.out]
  have HB5 := Lib.hid (HB4.out.trans (hb5.mono (by omega)))
  have g0 := hg.cell 0
  have g1 := hg.cell 1
  simp at g0 g1
  clear hS4 hb5 hg HB4 Hru hlen4
  go_wp2_with fail
  go_ret
  exact ⟨rfl, HB5.out⟩
end Go.Proofs.YtnadldoebfmgmaaDoor.q
