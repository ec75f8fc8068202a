/-
  SMALL WALKS of package lex: letter, digit, space; the two closures of scan.
-/
import Derived.Test.YtgpjcjnimheglaaGreatDoorBase
import Derived.Test.YtgpjcjnimheglaaGreatDoorLP
import Derived.Deep.DeepCutAuto
namespace Go.Proofs.YtgpjcjnimheglaaGreatDoor
open Go.RowKit

set_option maxRecDepth 100000 in
theorem digit_walk (c : Nat) (w : World) : Calls Tryz.prog 113 #[.int .i32 c] w fun e w' => e = .returned (.bool (Lx.digitB c)) ∧ w = w' := by
  rcases Nat.lt_or_ge c 48 with h1 | h1
  · have hr : Lx.digitB c = false := by simp [Lx.digitB]; omega
    rw [hr]
    have d1 : ¬ (48 : Int) ≤ (c : Int) := by omega
    go_enter Tryz.func113, Tryz.ntmps113
    go_wp2
    go_ret
    exact ⟨rfl, rfl⟩
  · have d1 : (48 : Int) ≤ (c : Int) := by omega
    rcases Nat.lt_or_ge 57 c with h2 | h2
    · have hr : Lx.digitB c = false := by simp [Lx.digitB]; omega
      rw [hr]
      have d2 : ¬ (c : Int) ≤ 57 := by omega
      go_enter Tryz.func113, Tryz.ntmps113
      go_wp2
      go_ret
      exact ⟨rfl, rfl⟩
    · have hr : Lx.digitB c = true := by simp [Lx.digitB]; omega
      rw [hr]
      have d2 : (c : Int) ≤ 57 := by omega
      go_enter Tryz.func113, Tryz.ntmps113
      go_wp2
      go_ret
      exact ⟨rfl, rfl⟩

set_option maxRecDepth 100000 in
theorem space_walk (c : Nat) (w : World) : Calls Tryz.prog 106 #[.int .i32 c] w fun e w' => e = .returned (.bool (Lx.spaceB c)) ∧ w = w' := by
  by_cases h1 : c = 9
  · subst h1
    go_enter Tryz.func106, Tryz.ntmps106
    go_wp2
    go_ret
    exact ⟨rfl, rfl⟩
  · by_cases h2 : c = 10
    · subst h2
      go_enter Tryz.func106, Tryz.ntmps106
      go_wp2
      go_ret
      exact ⟨rfl, rfl⟩
    · by_cases h3 : c = 13
      · subst h3
        go_enter Tryz.func106, Tryz.ntmps106
        go_wp2
        go_ret
        exact ⟨rfl, rfl⟩
      · by_cases h4 : c = 32
        · subst h4
          go_enter Tryz.func106, Tryz.ntmps106
          go_wp2
          go_ret
          exact ⟨rfl, rfl⟩
        · have hr : Lx.spaceB c = false := by simp [Lx.spaceB, h1, h2, h3, h4]
          rw [hr]
          have d1 : ((c : Int) == 9) = false := by simp; omega
          have d2 : ((c : Int) == 10) = false := by simp; omega
          have d3 : ((c : Int) == 13) = false := by simp; omega
          have d4 : ((c : Int) == 32) = false := by simp; omega
          clear h1 h2 h3 h4
          go_enter Tryz.func106, Tryz.ntmps106
          go_wp2
          go_ret
          exact ⟨rfl, rfl⟩

/-- the ranges of letters -/
theorem letter_cases (c : Nat) : (Lx.letterB c = true ∧ (97 ≤ c ∧ c ≤ 122 ∨ c < 97 ∧ 65 ≤ c ∧ c ≤ 90 ∨ c = 95)) ∨ (Lx.letterB c = false ∧ c < 65) ∨ (Lx.letterB c = false ∧ 91 ≤ c ∧ c ≤ 96 ∧ c ≠ 95) ∨ (Lx.letterB c = false ∧ 123 ≤ c ∧ c < 192) ∨
    (Lx.letterB c = false ∧ c = 215) ∨ (Lx.letterB c = false ∧ c = 247) ∨ (Lx.letterB c = true ∧ 192 ≤ c ∧ c ≤ 591 ∧ c ≠ 215 ∧ c ≠ 247) ∨ (Lx.letterB c = false ∧ 592 ≤ c ∧ c < 880) ∨ (Lx.letterB c = true ∧ 880 ≤ c ∧ c ≤ 1023) ∨ (Lx.letterB c = true ∧ 1024 ≤ c ∧ c ≤ 1279) ∨ (Lx.letterB c = false ∧ 1280 ≤ c) := by
  have key : Lx.letterB c = decide ((97 ≤ c ∧ c ≤ 122) ∨ (65 ≤ c ∧ c ≤ 90) ∨ c = 95 ∨ (192 ≤ c ∧ c ≤ 591 ∧ c ≠ 215 ∧ c ≠ 247) ∨ (880 ≤ c ∧ c ≤ 1023) ∨ (1024 ≤ c ∧ c ≤ 1279)) := by
    rw [Bool.eq_iff_iff]
    simp only [Lx.letterB, Bool.or_eq_true, Bool.and_eq_true, decide_eq_true_eq, beq_iff_eq, bne_iff_ne, ne_eq]
    omega
  rw [key]
  simp only [decide_eq_true_eq, decide_eq_false_iff_not]
  omega

set_option maxHeartbeats 2000000 in
set_option maxRecDepth 100000 in
theorem letter_walk (c : Nat) (w : World) : Calls Tryz.prog 111 #[.int .i32 c] w fun e w' => e = .returned (.bool (Lx.letterB c)) ∧ w = w' := by
  rcases letter_cases c with ⟨hr, h | h | h⟩ | ⟨hr, h⟩ | ⟨hr, h⟩ | ⟨hr, h⟩ | ⟨hr, h⟩ | ⟨hr, h⟩ | ⟨hr, h⟩ | ⟨hr, h⟩ | ⟨hr, h⟩ | ⟨hr, h⟩ | ⟨hr, h⟩
  all_goals
    rw [hr]
    clear hr
    first | have a97 : (97 : Int) ≤ (c : Int) := by omega | have a97 : ¬ (97 : Int) ≤ (c : Int) := by omega | skip
    first | have a122 : (c : Int) ≤ 122 := by omega | have a122 : ¬ (c : Int) ≤ 122 := by omega | skip
    first | have a65 : (65 : Int) ≤ (c : Int) := by omega | have a65 : ¬ (65 : Int) ≤ (c : Int) := by omega | skip
    first | have a90 : (c : Int) ≤ 90 := by omega | have a90 : ¬ (c : Int) ≤ 90 := by omega | skip
    first | have a192 : (192 : Int) ≤ (c : Int) := by omega | have a192 : ¬ (192 : Int) ≤ (c : Int) := by omega | skip
    first | have a591 : (c : Int) ≤ 591 := by omega | have a591 : ¬ (c : Int) ≤ 591 := by omega | skip
    first | have a880 : (880 : Int) ≤ (c : Int) := by omega | have a880 : ¬ (880 : Int) ≤ (c : Int) := by omega | skip
    first | have a1023 : (c : Int) ≤ 1023 := by omega | have a1023 : ¬ (c : Int) ≤ 1023 := by omega | skip
    first | have a1024 : (1024 : Int) ≤ (c : Int) := by omega | have a1024 : ¬ (1024 : Int) ≤ (c : Int) := by omega | skip
    first | have a1279 : (c : Int) ≤ 1279 := by omega | have a1279 : ¬ (c : Int) ≤ 1279 := by omega | skip
    first | have b95 : ((c : Int) == 95) = true := by simp; omega | have b95 : ((c : Int) == 95) = false := by simp; omega | skip
    first | have b215 : ((c : Int) != 215) = true := by simp; omega | have b215 : ((c : Int) != 215) = false := by simp; omega | skip
    first | have b247 : ((c : Int) != 247) = true := by simp; omega | have b247 : ((c : Int) != 247) = false := by simp; omega | skip
    clear h
    go_enter Tryz.func111, Tryz.ntmps111
    go_wp2
    all_goals (go_ret; exact ⟨rfl, rfl⟩)

set_option maxRecDepth 100000 in
theorem both_walk (c : Nat) (w : World) : Calls Tryz.prog 112 #[.int .i32 c] w fun e w' => e = .returned (.bool (Lx.bothB c)) ∧ w = w' := by
  have hL := letter_walk c w
  have hD := digit_walk c w
  unfold Lx.bothB
  cases h : Lx.letterB c with
  | true =>
    rw [h] at hL
    go_enter Tryz.func112, Tryz.ntmps112
    go_wp2_with fail
    refine hL.mono ?_
    rintro e w' ⟨rfl, rfl⟩
    go_wp2_with fail
    go_ret
    exact ⟨rfl, rfl⟩
  | false =>
    rw [h] at hL
    cases h2 : Lx.digitB c with
    | true =>
      rw [h2] at hD
      go_enter Tryz.func112, Tryz.ntmps112
      go_wp2_with fail
      refine hL.mono ?_
      rintro e w' ⟨rfl, rfl⟩
      go_wp2_with fail
      refine hD.mono ?_
      rintro e w' ⟨rfl, rfl⟩
      go_wp2_with fail
      go_ret
      exact ⟨rfl, rfl⟩
    | false =>
      rw [h2] at hD
      go_enter Tryz.func112, Tryz.ntmps112
      go_wp2_with fail
      refine hL.mono ?_
      rintro e w' ⟨rfl, rfl⟩
      go_wp2_with fail
      refine hD.mono ?_
      rintro e w' ⟨rfl, rfl⟩
      go_wp2_with fail
      go_ret
      exact ⟨rfl, rfl⟩

set_option maxRecDepth 100000 in
theorem kind_walk (b : Bool) (k : Int) (w : World) : Calls Tryz.prog 104 #[.bool b, .int .i64 k] w fun e w' => e = .returned (.int .i64 (if b then k else 8)) ∧ w = w' := by
  cases b with
  | true =>
    go_enter Tryz.func104, Tryz.ntmps104
    go_wp2
    go_ret
    exact ⟨rfl, rfl⟩
  | false =>
    go_enter Tryz.func104, Tryz.ntmps104
    go_wp2
    go_ret
    exact ⟨rfl, rfl⟩
end Go.Proofs.YtgpjcjnimheglaaGreatDoor
