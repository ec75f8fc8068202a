/-
  WALKS of package wire's reader: four.
-/
import Derived.Test.YtgpjcjnimheglaaGreatDoorNC
namespace Go.Proofs.YtgpjcjnimheglaaGreatDoor
open Go.RowKit

namespace Jp
theorem hex4_take (l : List UInt8) (h : 4 ≤ l.length) : hex4 l = Lx.hexN 0 (l.take 4) := by
  match l, h with
  | [], h => simp at h
  | [_], h => simp at h
  | [_, _], h => simp at h
  | [_, _, _], h => simp at h
  | a :: b :: c :: d :: t, _ =>
    simp only [List.take_succ_cons, List.take_zero, hex4, Lx.hexN]
    cases Lx.hexV a with
    | none => rfl
    | some x =>
      cases Lx.hexV b with
      | none => rfl
      | some y =>
        cases Lx.hexV c with
        | none => rfl
        | some z =>
          cases Lx.hexV d with
          | none => rfl
          | some u => simp
theorem hex4_short (l : List UInt8) (h : l.length < 4) : hex4 l = none := by
  match l, h with
  | [], _ => rfl
  | [_], _ => rfl
  | [_, _], _ => rfl
  | [_, _, _], _ => rfl
  | _ :: _ :: _ :: _ :: _, h => simp at h; omega
theorem four_at (s : List UInt8) (a : Nat) (h : a + 4 ≤ s.length) : fourP s a = Lx.hexN 0 ((s.take (a + 4)).drop a) := by
  unfold fourP
  rw [hex4_take _ (by rw [List.length_drop]; omega), List.drop_take, Nat.add_sub_cancel_left]
theorem four_no (s : List UInt8) (a : Nat) (h : ¬ a + 4 ≤ s.length) : fourP s a = none := by
  unfold fourP
  exact hex4_short _ (by rw [List.length_drop]; omega)
theorem four_lt {s : List UInt8} {a n : Nat} (h : fourP s a = some n) : n < 65536 := by
  have hl := four_len h
  rw [four_at s a hl] at h
  have h1 := Lx.hexN_lt _ 0 n h
  rw [show ((s.take (a + 4)).drop a).length = 4 by rw [List.length_drop, List.length_take]; omega] at h1
  have h2 : (16 : Nat) ^ 4 = 65536 := by decide
  omega
end Jp

/-- the number of four digits, if they are -/
def fourV : Option Nat → Value
  | some n => .tuple #[.int .i32 n, .bool true]
  | none => .tuple #[.int .i32 0, .bool false]

set_option maxHeartbeats 1000000 in
set_option maxRecDepth 100000 in
theorem hexpub_walk (l : Bs) (w : World) (h1 : 1 ≤ l.length) (h6 : l.length ≤ 6) (hall : ∀ b ∈ l, ∃ d, Lx.hexV b = some d) (n : Nat) (hn : Lx.hexN 0 l = some n) :
    Calls Tryz.prog 165 #[.string ⟨l.toArray⟩, .int .i64 16, .int .i64 32] w fun e w' => e = .returned (.tuple #[.int .u64 n, .nilIface]) ∧ Below w.heap.size w w' := by
  have hU := hexuint_walk l w h1 h6 hall n hn
  clear hall hn
  go_enter Tryz.func165, Tryz.ntmps165
  go_wp2_with fail
  refine hU.mono ?_
  clear hU
  rintro e w' ⟨rfl, hb⟩
  go_wp2_with fail
  go_ret2
  exact ⟨rfl, hb⟩

set_option maxHeartbeats 2000000 in
set_option maxRecDepth 100000 in
theorem jfour_walk (g : Nat) (s : Bs) (i a : Nat) (w : World) (h : RdrAt w g s i) (ha : a ≤ 33554432) (_hl : s.length ≤ 16777216) :
    Calls Tryz.prog 149 #[.pointer (some ⟨g, 0, none⟩), .int .i64 a] w fun e w' => e = .returned (fourV (Jp.fourP s a)) ∧ Below w.heap.size w w' := by
  have c0 := h.c0
  have j0 : (0 : Int) ≤ (a : Int) := by omega
  by_cases hle : a + 4 ≤ s.length
  · have hF := Jp.four_at s a hle
    have hD4 : ((s.take (a + 4)).drop a).length = 4 := by rw [List.length_drop, List.length_take]; omega
    have hway := Lx.hex_way ((s.take (a + 4)).drop a)
    have htr := fun w => htrim_walk ((s.take (a + 4)).drop a) w (by omega)
    have hpu := fun w => hexpub_walk ((s.take (a + 4)).drop a) w (by omega) (by omega)
    have hx := ext_str s a (a + 4)
    unfold strV at hx
    have hFl : ∀ n, Jp.fourP s a = some n → n < 65536 := fun n hn => Jp.four_lt hn
    generalize (s.take (a + 4)).drop a = D at *
    generalize Jp.fourP s a = F at *
    have HF := Lib.hid hF
    have HFl := Lib.hid hFl
    clear hF hFl
    have d1 : decide ((s.length : Int) < (a : Int) + 4) = false := decide_eq_false (by omega)
    have d2 : decide (s.length < a + 4) = false := decide_eq_false (by omega)
    have j1 : (a : Int) + 4 ≤ (s.length : Int) := by omega
    rcases hway with ⟨k1, k2, n, k3⟩ | ⟨k1, k2⟩
    · have hn : n < 65536 := HFl.out n (by rw [HF.out, k3])
      have HV : Hid (F = some n) := by show _ = _; rw [HF.out, k3]
      have hpu2 := fun w => hpu w k2 n k3
      rw [k1] at htr
      clear k1 k2 k3 hpu
      go_enter Tryz.func149, Tryz.ntmps149
      go_wp2_with fail
      refine (htr _).mono ?_
      rintro e w1 ⟨rfl, hb1⟩
      have c0 := (h.below hb1).c0
      go_wp2_with fail
      refine (hpu2 _).mono ?_
      rintro e w2 ⟨rfl, hb2⟩
      go_wp2_with fail
      go_quiet (fail)
      go_wp2_with fail
      go_ret2
      rw [HV.out]
      exact ⟨rfl, below_drewN (hb1.trans (hb2.mono hb1.size)) _⟩
    · have HV : Hid (F = none) := by show _ = _; rw [HF.out, k2]
      generalize Lib.trimS D Lx.hexs = Y at *
      have hY : (Y == []) = false := by simpa using k1
      clear k2 hpu
      go_enter Tryz.func149, Tryz.ntmps149
      go_wp2_with fail
      refine (htr _).mono ?_
      rintro e w1 ⟨rfl, hb1⟩
      go_wp2_with fail
      go_ret2
      rw [HV.out]
      exact ⟨rfl, hb1⟩
  · rw [Jp.four_no s a hle]
    have d1 : decide ((s.length : Int) < (a : Int) + 4) = true := decide_eq_true (by omega)
    have d2 : decide (s.length < a + 4) = true := decide_eq_true (by omega)
    go_enter Tryz.func149, Tryz.ntmps149
    go_wp2_with fail
    go_ret2
    exact ⟨rfl, Below.refl _ _⟩

end Go.Proofs.YtgpjcjnimheglaaGreatDoor
