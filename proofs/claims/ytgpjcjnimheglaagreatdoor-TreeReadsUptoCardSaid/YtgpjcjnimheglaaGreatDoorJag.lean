/-
  JOINED of the texts LJ LK
-/
import Derived.Test.YtgpjcjnimheglaaGreatDoorJae
import Derived.Test.YtgpjcjnimheglaaGreatDoorJaf
import Derived.Lib.ConvBytes
import Derived.Laws.Strings3
import Derived.Laws.Closers25
import Derived.Laws.Closers25b
import Derived.BigCall
import Derived.BigGuard
import Derived.Test.YtgpjcjnimheglaaGreatDoorShelfX
import Derived.Shelf.Spec.BytesIndexFunc
import Derived.Deep.RegionHeld3
import Derived.Deep.DeepCutAuto
import Derived.Lib.IndexMore
import Derived.Lib.Strings
import Derived.Test.YtgpjcjnimheglaaGreatDoorRows
import Derived.WalkKit
import Derived.WalkSpells
import Derived.WalkLawsBesides
import Derived.Below
import Derived.Laws.OwnMore
import Derived.Deep.AppendLies
import Derived.Deep.Draws
import Derived.Lib.Hide
import Derived.Deep.QuietTactic
import Derived.BigQuiet
import Derived.IntWalk
import Derived.Lib.RuneBytes
import Derived.Test.YtgpjcjnimheglaaGreatDoorShelfW
import Derived.Shelf.Strings.SlTrimAscii
import Derived.Lib.LaidTab
import Derived.Lib.AtoiAll
import Derived.Lib.IndexLaws
import Derived.Lib.SlTrimSet
import Derived.Lib.ItoaNum
import Derived.Lib.Atoi
import Derived.WalkMore
import Derived.ScopeJumps
/-
  THE WALK of package lex's scan.
-/
namespace Go.Proofs.YtgpjcjnimheglaaGreatDoor
open Go.RowKit

theorem dec_quote (l : Bs) (hne : l ≠ []) (h : (dec l).1 = 34) : ∃ t, l = 34 :: t := by
  cases l with
  | nil => exact absurd rfl hne
  | cons a t =>
    have hb : byteAt (a :: t) 0 = a.toNat := rfl
    rcases Nat.lt_or_ge a.toNat 128 with h1 | h1
    · rw [dec_small (by rw [hb]; exact h1), hb] at h
      exact ⟨t, by rw [UInt8.toNat_inj.1 (show a.toNat = (34 : UInt8).toNat from h)]⟩
    · have := dec_big (l := a :: t) (by rw [hb]; exact h1)
      omega

def oneV (x : Nat × Nat) : Value := .tuple #[.int .i64 x.1, .int .i64 x.2]
theorem enters_space : ∀ args w, (callFunc 106 args).run Tryz.prog w = .ok (.enter 106 args) w := enters_of Tryz.func106 (by kernel_rfl) rfl
theorem enters_both : ∀ args w, (callFunc 112 args).run Tryz.prog w = .ok (.enter 112 args) w := enters_of Tryz.func112 (by kernel_rfl) rfl
theorem enters_digit : ∀ args w, (callFunc 113 args).run Tryz.prog w = .ok (.enter 113 args) w := enters_of Tryz.func113 (by kernel_rfl) rfl

section
variable (l : Bs) (m : Int) (w : World)
theorem space_rev (c : Nat) (w : World) : Calls Tryz.prog 106 #[.int .i32 c] w fun e w' => e = .returned (.bool (Lx.spaceB c)) ∧ w' = w := (space_walk c w).mono fun _ _ h => ⟨h.1, h.2.symm⟩
theorem letter_rev (c : Nat) (w : World) : Calls Tryz.prog 111 #[.int .i32 c] w fun e w' => e = .returned (.bool (Lx.letterB c)) ∧ w' = w := (letter_walk c w).mono fun _ _ h => ⟨h.1, h.2.symm⟩
theorem digit_rev (c : Nat) (w : World) : Calls Tryz.prog 113 #[.int .i32 c] w fun e w' => e = .returned (.bool (Lx.digitB c)) ∧ w' = w := (digit_walk c w).mono fun _ _ h => ⟨h.1, h.2.symm⟩

set_option maxHeartbeats 1000000 in
set_option maxRecDepth 100000 in
theorem scan_space (hM : MaxL w m) (hT : T8 w) (hW : WordsIs w) (hne : l ≠ []) (hl : l.length ≤ 100000000) (hS : Lx.spaceB (dec l).1 = true) :
    Calls Tryz.prog 70 #[.string ⟨l.toArray⟩] w fun e w' => e = .returned (oneV (1, Lx.run Lx.spaceB l)) ∧ Below w.heap.size w w' := by
  have _u : MaxL w m ∧ T8 w ∧ WordsIs w ∧ l.length ≤ 100000000 := ⟨hM, hT, hW, hl⟩
  clear _u
  have hdec := dec_walk l hne w hT
  have hsp := space_rev (dec l).1
  have hp1 : ∀ w, Calls Tryz.prog 108 #[.string ⟨l.toArray⟩, .string ⟨#[45, 45]⟩] w fun e w' => e = .returned (.bool ([45, 45].isPrefixOf l)) ∧ w' = w := fun w => pre_walk l [45, 45] w
  have hp2 : ∀ w, Calls Tryz.prog 108 #[.string ⟨l.toArray⟩, .string ⟨#[123, 45]⟩] w fun e w' => e = .returned (.bool ([123, 45].isPrefixOf l)) ∧ w' = w := fun w => pre_walk l [123, 45] w
  have hlt := letter_rev (dec l).1
  have hdg := digit_rev (dec l).1
  have hrun := fun w1 (hb : Below w.heap.size w w1) => run_walk l 106 Lx.spaceB enters_space space_walk w1 (hT.below hb) hl
  generalize dec l = D at *
  obtain ⟨c, z⟩ := D
  simp only at *
  go_enter Tryz.func70, Tryz.ntmps70
  go_wp2_with fail
  refine hdec.mono ?_
  rintro e w1 ⟨rfl, hb1⟩
  have hq := hsp w1
  rw [hS] at hq
  go_wp2_with fail
  refine hq.mono ?_
  clear hq
  rintro e w1 ⟨rfl, rfl⟩
  go_wp2_with fail
  refine (hrun w1 hb1).mono ?_
  rintro e w2 ⟨rfl, hb2⟩
  go_wp2_with fail
  go_ret2
  exact ⟨rfl, hb1.trans (hb2.mono hb1.size)⟩

set_option maxHeartbeats 1000000 in
set_option maxRecDepth 100000 in
theorem scan_line (hM : MaxL w m) (hT : T8 w) (hW : WordsIs w) (hne : l ≠ []) (hl : l.length ≤ 100000000) (hS : Lx.spaceB (dec l).1 = false) (hP1 : [45, 45].isPrefixOf l = true) :
    Calls Tryz.prog 70 #[.string ⟨l.toArray⟩] w fun e w' => e = .returned (oneV (2, (l.takeWhile (· != 10)).length)) ∧ Below w.heap.size w w' := by
  have _u : MaxL w m ∧ T8 w ∧ WordsIs w ∧ l.length ≤ 100000000 := ⟨hM, hT, hW, hl⟩
  clear _u
  have hdec := dec_walk l hne w hT
  have hsp := space_rev (dec l).1
  have hp1 : ∀ w, Calls Tryz.prog 108 #[.string ⟨l.toArray⟩, .string ⟨#[45, 45]⟩] w fun e w' => e = .returned (.bool ([45, 45].isPrefixOf l)) ∧ w' = w := fun w => pre_walk l [45, 45] w
  have hp2 : ∀ w, Calls Tryz.prog 108 #[.string ⟨l.toArray⟩, .string ⟨#[123, 45]⟩] w fun e w' => e = .returned (.bool ([123, 45].isPrefixOf l)) ∧ w' = w := fun w => pre_walk l [123, 45] w
  have hlt := letter_rev (dec l).1
  have hdg := digit_rev (dec l).1
  have hcut := fun w1 (hb : Below w.heap.size w w1) => cut_walk1 10 l m w1 (hM.below hb hM.lt) hl
  generalize dec l = D at *
  obtain ⟨c, z⟩ := D
  simp only at *
  go_enter Tryz.func70, Tryz.ntmps70
  go_wp2_with fail
  refine hdec.mono ?_
  rintro e w1 ⟨rfl, hb1⟩
  have hq := hsp w1
  rw [hS] at hq
  go_wp2_with fail
  refine hq.mono ?_
  clear hq
  rintro e w1 ⟨rfl, rfl⟩
  have hq := hp1 w1
  rw [hP1] at hq
  go_wp2_with fail
  refine hq.mono ?_
  clear hq
  rintro e w1 ⟨rfl, rfl⟩
  go_wp2_with fail
  refine (hcut w1 hb1).mono ?_
  rintro e w2 ⟨rfl, n, rfl⟩
  go_wp2_with fail
  go_ret2
  exact ⟨rfl, below_drewN hb1 n⟩

set_option maxHeartbeats 1000000 in
set_option maxRecDepth 100000 in
theorem scan_remark (hM : MaxL w m) (hT : T8 w) (hW : WordsIs w) (hne : l ≠ []) (hl : l.length ≤ 100000000) (hS : Lx.spaceB (dec l).1 = false) (hP1 : [45, 45].isPrefixOf l = false) (hP2 : [123, 45].isPrefixOf l = true) :
    Calls Tryz.prog 70 #[.string ⟨l.toArray⟩] w fun e w' => e = .returned (oneV (match Lx.remM 1 (l.drop 2) with | some k => (2, k + 2) | none => (8, l.length))) ∧ Below w.heap.size w w' := by
  have _u : MaxL w m ∧ T8 w ∧ WordsIs w ∧ l.length ≤ 100000000 := ⟨hM, hT, hW, hl⟩
  clear _u
  have hdec := dec_walk l hne w hT
  have hsp := space_rev (dec l).1
  have hp1 : ∀ w, Calls Tryz.prog 108 #[.string ⟨l.toArray⟩, .string ⟨#[45, 45]⟩] w fun e w' => e = .returned (.bool ([45, 45].isPrefixOf l)) ∧ w' = w := fun w => pre_walk l [45, 45] w
  have hp2 : ∀ w, Calls Tryz.prog 108 #[.string ⟨l.toArray⟩, .string ⟨#[123, 45]⟩] w fun e w' => e = .returned (.bool ([123, 45].isPrefixOf l)) ∧ w' = w := fun w => pre_walk l [123, 45] w
  have hlt := letter_rev (dec l).1
  have hdg := digit_rev (dec l).1
  have hrem := fun w1 => remark_walk l w1 hP2 hl
  generalize Lx.remM 1 (l.drop 2) = R at *
  generalize dec l = D at *
  obtain ⟨c, z⟩ := D
  simp only at *
  go_enter Tryz.func70, Tryz.ntmps70
  go_wp2_with fail
  refine hdec.mono ?_
  rintro e w1 ⟨rfl, hb1⟩
  have hq := hsp w1
  rw [hS] at hq
  go_wp2_with fail
  refine hq.mono ?_
  clear hq
  rintro e w1 ⟨rfl, rfl⟩
  have hq := hp1 w1
  rw [hP1] at hq
  go_wp2_with fail
  refine hq.mono ?_
  clear hq
  rintro e w1 ⟨rfl, rfl⟩
  have hq := hp2 w1
  rw [hP2] at hq
  go_wp2_with fail
  refine hq.mono ?_
  clear hq
  rintro e w1 ⟨rfl, rfl⟩
  cases R with
  | none =>
    go_wp2_with fail
    refine (hrem w1).mono ?_
    rintro e w' ⟨rfl, rfl⟩
    go_wp2_with fail
    refine (kind_walk false 2 _).mono ?_
    rintro e w' ⟨rfl, rfl⟩
    go_wp2_with fail
    go_ret2
    exact ⟨rfl, hb1⟩
  | some k =>
    go_wp2_with fail
    refine (hrem w1).mono ?_
    rintro e w' ⟨rfl, rfl⟩
    go_wp2_with fail
    refine (kind_walk true 2 _).mono ?_
    rintro e w' ⟨rfl, rfl⟩
    go_wp2_with fail
    go_ret2
    exact ⟨rfl, hb1⟩

set_option maxHeartbeats 1000000 in
set_option maxRecDepth 100000 in
theorem scan_name (hM : MaxL w m) (hT : T8 w) (hW : WordsIs w) (hne : l ≠ []) (hl : l.length ≤ 100000000) (hS : Lx.spaceB (dec l).1 = false) (hP1 : [45, 45].isPrefixOf l = false) (hP2 : [123, 45].isPrefixOf l = false) (hL : Lx.letterB (dec l).1 = true) :
    Calls Tryz.prog 70 #[.string ⟨l.toArray⟩] w fun e w' => e = .returned (oneV (if Lx.wordM (l.take (Lx.run Lx.bothB l)) then 4 else 3, Lx.run Lx.bothB l)) ∧ Below w.heap.size w w' := by
  have _u : MaxL w m ∧ T8 w ∧ WordsIs w ∧ l.length ≤ 100000000 := ⟨hM, hT, hW, hl⟩
  clear _u
  have hdec := dec_walk l hne w hT
  have hsp := space_rev (dec l).1
  have hp1 : ∀ w, Calls Tryz.prog 108 #[.string ⟨l.toArray⟩, .string ⟨#[45, 45]⟩] w fun e w' => e = .returned (.bool ([45, 45].isPrefixOf l)) ∧ w' = w := fun w => pre_walk l [45, 45] w
  have hp2 : ∀ w, Calls Tryz.prog 108 #[.string ⟨l.toArray⟩, .string ⟨#[123, 45]⟩] w fun e w' => e = .returned (.bool ([123, 45].isPrefixOf l)) ∧ w' = w := fun w => pre_walk l [123, 45] w
  have hlt := letter_rev (dec l).1
  have hdg := digit_rev (dec l).1
  have hrun := fun w1 (hb : Below w.heap.size w w1) => run_walk l 112 Lx.bothB enters_both both_walk w1 (hT.below hb) hl
  have hle := Lx.run_le Lx.bothB _ l rfl
  have hword := fun w1 (hb : Below w.heap.size w w1) => word_walk (l.take (Lx.run Lx.bothB l)) w1 (hW.below hb)
  have hex := ext_str l 0 (Lx.run Lx.bothB l)
  unfold strV at hex
  rw [List.drop_zero] at hex
  rw [← hex] at hword
  clear hex
  generalize Lx.wordM (l.take (Lx.run Lx.bothB l)) = B at *
  generalize Lx.run Lx.bothB l = n at *
  generalize dec l = D at *
  obtain ⟨c, z⟩ := D
  simp only at *
  go_enter Tryz.func70, Tryz.ntmps70
  go_wp2_with fail
  refine hdec.mono ?_
  rintro e w1 ⟨rfl, hb1⟩
  have hq := hsp w1
  rw [hS] at hq
  go_wp2_with fail
  refine hq.mono ?_
  clear hq
  rintro e w1 ⟨rfl, rfl⟩
  have hq := hp1 w1
  rw [hP1] at hq
  go_wp2_with fail
  refine hq.mono ?_
  clear hq
  rintro e w1 ⟨rfl, rfl⟩
  have hq := hp2 w1
  rw [hP2] at hq
  go_wp2_with fail
  refine hq.mono ?_
  clear hq
  rintro e w1 ⟨rfl, rfl⟩
  have hq := hlt w1
  rw [hL] at hq
  go_wp2_with fail
  refine hq.mono ?_
  clear hq
  rintro e w1 ⟨rfl, rfl⟩
  cases B with
  | true =>
    go_wp2_with fail
    refine (hrun w1 hb1).mono ?_
    rintro e w2 ⟨rfl, hb2⟩
    have hb12 := hb1.trans (hb2.mono hb1.size)
    go_wp2_with fail
    refine (hword w2 hb12).mono ?_
    rintro e w' ⟨rfl, rfl⟩
    go_wp2_with fail
    go_ret2
    exact ⟨rfl, hb12⟩
  | false =>
    go_wp2_with fail
    refine (hrun w1 hb1).mono ?_
    rintro e w2 ⟨rfl, hb2⟩
    have hb12 := hb1.trans (hb2.mono hb1.size)
    go_wp2_with fail
    refine (hword w2 hb12).mono ?_
    rintro e w' ⟨rfl, rfl⟩
    go_wp2_with fail
    go_ret2
    exact ⟨rfl, hb12⟩

set_option maxHeartbeats 1000000 in
set_option maxRecDepth 100000 in
theorem scan_int (hM : MaxL w m) (hT : T8 w) (hW : WordsIs w) (hne : l ≠ []) (hl : l.length ≤ 100000000) (hS : Lx.spaceB (dec l).1 = false) (hP1 : [45, 45].isPrefixOf l = false) (hP2 : [123, 45].isPrefixOf l = false) (hL : Lx.letterB (dec l).1 = false) (hD : Lx.digitB (dec l).1 = true) :
    Calls Tryz.prog 70 #[.string ⟨l.toArray⟩] w fun e w' => e = .returned (oneV (if Lx.run Lx.digitB l ≤ 18 then 5 else 8, Lx.run Lx.digitB l)) ∧ Below w.heap.size w w' := by
  have _u : MaxL w m ∧ T8 w ∧ WordsIs w ∧ l.length ≤ 100000000 := ⟨hM, hT, hW, hl⟩
  clear _u
  have hdec := dec_walk l hne w hT
  have hsp := space_rev (dec l).1
  have hp1 : ∀ w, Calls Tryz.prog 108 #[.string ⟨l.toArray⟩, .string ⟨#[45, 45]⟩] w fun e w' => e = .returned (.bool ([45, 45].isPrefixOf l)) ∧ w' = w := fun w => pre_walk l [45, 45] w
  have hp2 : ∀ w, Calls Tryz.prog 108 #[.string ⟨l.toArray⟩, .string ⟨#[123, 45]⟩] w fun e w' => e = .returned (.bool ([123, 45].isPrefixOf l)) ∧ w' = w := fun w => pre_walk l [123, 45] w
  have hlt := letter_rev (dec l).1
  have hdg := digit_rev (dec l).1
  have hrun := fun w1 (hb : Below w.heap.size w w1) => run_walk l 113 Lx.digitB enters_digit digit_walk w1 (hT.below hb) hl
  have hle := Lx.run_le Lx.digitB _ l rfl
  generalize Lx.run Lx.digitB l = n at *
  generalize hK : (if n ≤ 18 then 5 else 8 : Nat) = K
  have HK := Lib.hid hK
  clear hK
  generalize dec l = D at *
  obtain ⟨c, z⟩ := D
  simp only at *
  go_enter Tryz.func70, Tryz.ntmps70
  go_wp2_with fail
  refine hdec.mono ?_
  rintro e w1 ⟨rfl, hb1⟩
  have hq := hsp w1
  rw [hS] at hq
  go_wp2_with fail
  refine hq.mono ?_
  clear hq
  rintro e w1 ⟨rfl, rfl⟩
  have hq := hp1 w1
  rw [hP1] at hq
  go_wp2_with fail
  refine hq.mono ?_
  clear hq
  rintro e w1 ⟨rfl, rfl⟩
  have hq := hp2 w1
  rw [hP2] at hq
  go_wp2_with fail
  refine hq.mono ?_
  clear hq
  rintro e w1 ⟨rfl, rfl⟩
  have hq := hlt w1
  rw [hL] at hq
  go_wp2_with fail
  refine hq.mono ?_
  clear hq
  rintro e w1 ⟨rfl, rfl⟩
  have hq := hdg w1
  rw [hD] at hq
  go_wp2_with fail
  refine hq.mono ?_
  clear hq
  rintro e w1 ⟨rfl, rfl⟩
  by_cases hn : n ≤ 18
  · have hn2 : (n : Int) ≤ 18 := by omega
    obtain rfl : K = 5 := by rw [← HK.out, if_pos hn]
    clear hn HK
    go_wp2_with fail
    refine (hrun w1 hb1).mono ?_
    rintro e w2 ⟨rfl, hb2⟩
    go_wp2_with fail
    refine (kind_walk true 5 _).mono ?_
    rintro e w' ⟨rfl, rfl⟩
    go_wp2_with fail
    go_ret2
    exact ⟨rfl, hb1.trans (hb2.mono hb1.size)⟩
  · have hn2 : ¬ (n : Int) ≤ 18 := by omega
    obtain rfl : K = 8 := by rw [← HK.out, if_neg hn]
    have hkw : ∀ w, Calls Tryz.prog 104 #[.bool (decide ((n : Int) ≤ 18)), .int .i64 5] w fun e w' => e = .returned (.int .i64 8) ∧ w = w' := fun w => by rw [decide_eq_false hn2]; exact kind_walk false 5 w
    clear hn HK
    go_wp2_with fail
    refine (hrun w1 hb1).mono ?_
    rintro e w2 ⟨rfl, hb2⟩
    go_wp2_with fail
    refine (hkw _).mono ?_
    rintro e w' ⟨rfl, rfl⟩
    go_wp2_with fail
    go_ret2
    exact ⟨rfl, hb1.trans (hb2.mono hb1.size)⟩

set_option maxHeartbeats 1000000 in
set_option maxRecDepth 100000 in
theorem scan_text (hM : MaxL w m) (hT : T8 w) (hW : WordsIs w) (hne : l ≠ []) (hl : l.length ≤ 100000000) (hS : Lx.spaceB (dec l).1 = false) (hP1 : [45, 45].isPrefixOf l = false) (hP2 : [123, 45].isPrefixOf l = false) (hL : Lx.letterB (dec l).1 = false) (hD : Lx.digitB (dec l).1 = false) (hc : (dec l).1 = 34) (t : Bs) (ht : l = 34 :: t) :
    Calls Tryz.prog 70 #[.string ⟨l.toArray⟩] w fun e w' => e = .returned (oneV (if (Lx.textM t).2.1 ∧ (Lx.textM t).2.2 then 6 else 8, (Lx.textM t).1 + 1)) ∧ Below w.heap.size w w' := by
  have _u : MaxL w m ∧ T8 w ∧ WordsIs w ∧ l.length ≤ 100000000 := ⟨hM, hT, hW, hl⟩
  clear _u
  have hdec := dec_walk l hne w hT
  have hsp := space_rev (dec l).1
  have hp1 : ∀ w, Calls Tryz.prog 108 #[.string ⟨l.toArray⟩, .string ⟨#[45, 45]⟩] w fun e w' => e = .returned (.bool ([45, 45].isPrefixOf l)) ∧ w' = w := fun w => pre_walk l [45, 45] w
  have hp2 : ∀ w, Calls Tryz.prog 108 #[.string ⟨l.toArray⟩, .string ⟨#[123, 45]⟩] w fun e w' => e = .returned (.bool ([123, 45].isPrefixOf l)) ∧ w' = w := fun w => pre_walk l [123, 45] w
  have hlt := letter_rev (dec l).1
  have hdg := digit_rev (dec l).1
  have htx := fun w1 (hb : Below w.heap.size w w1) => text_walk l t ht m w1 (hM.below hb hM.lt) (hT.below hb) hl
  generalize Lx.textM t = X at *
  obtain ⟨n, b1, b2⟩ := X
  simp only at htx ⊢
  generalize hK : (if b1 = true ∧ b2 = true then 6 else 8 : Nat) = K
  have HK := Lib.hid hK
  clear hK
  clear ht
  generalize dec l = D at *
  obtain ⟨c, z⟩ := D
  simp only at *
  have hc2 : ((c : Int) == 34) = true := by simp; omega
  clear hc
  go_enter Tryz.func70, Tryz.ntmps70
  go_wp2_with fail
  refine hdec.mono ?_
  rintro e w1 ⟨rfl, hb1⟩
  have hq := hsp w1
  rw [hS] at hq
  go_wp2_with fail
  refine hq.mono ?_
  clear hq
  rintro e w1 ⟨rfl, rfl⟩
  have hq := hp1 w1
  rw [hP1] at hq
  go_wp2_with fail
  refine hq.mono ?_
  clear hq
  rintro e w1 ⟨rfl, rfl⟩
  have hq := hp2 w1
  rw [hP2] at hq
  go_wp2_with fail
  refine hq.mono ?_
  clear hq
  rintro e w1 ⟨rfl, rfl⟩
  have hq := hlt w1
  rw [hL] at hq
  go_wp2_with fail
  refine hq.mono ?_
  clear hq
  rintro e w1 ⟨rfl, rfl⟩
  have hq := hdg w1
  rw [hD] at hq
  go_wp2_with fail
  refine hq.mono ?_
  clear hq
  rintro e w1 ⟨rfl, rfl⟩
  cases b1 with
  | false =>
    obtain rfl : K = 8 := by rw [← HK.out]; rfl
    clear HK
    go_wp2_with fail
    refine (htx w1 hb1).mono ?_
    rintro e w2 ⟨rfl, hb2⟩
    go_wp2_with fail
    refine (kind_walk false 6 _).mono ?_
    rintro e w' ⟨rfl, rfl⟩
    go_wp2_with fail
    go_ret2
    exact ⟨rfl, hb1.trans (hb2.mono hb1.size)⟩
  | true =>
    cases b2 with
    | false =>
      obtain rfl : K = 8 := by rw [← HK.out]; rfl
      clear HK
      go_wp2_with fail
      refine (htx w1 hb1).mono ?_
      rintro e w2 ⟨rfl, hb2⟩
      go_wp2_with fail
      refine (kind_walk false 6 _).mono ?_
      rintro e w' ⟨rfl, rfl⟩
      go_wp2_with fail
      go_ret2
      exact ⟨rfl, hb1.trans (hb2.mono hb1.size)⟩
    | true =>
      obtain rfl : K = 6 := by rw [← HK.out]; rfl
      clear HK
      go_wp2_with fail
      refine (htx w1 hb1).mono ?_
      rintro e w2 ⟨rfl, hb2⟩
      go_wp2_with fail
      refine (kind_walk true 6 _).mono ?_
      rintro e w' ⟨rfl, rfl⟩
      go_wp2_with fail
      go_ret2
      exact ⟨rfl, hb1.trans (hb2.mono hb1.size)⟩

set_option maxHeartbeats 1000000 in
set_option maxRecDepth 100000 in
theorem scan_rest (hM : MaxL w m) (hT : T8 w) (hW : WordsIs w) (hne : l ≠ []) (hl : l.length ≤ 100000000) (hS : Lx.spaceB (dec l).1 = false) (hP1 : [45, 45].isPrefixOf l = false) (hP2 : [123, 45].isPrefixOf l = false) (hL : Lx.letterB (dec l).1 = false) (hD : Lx.digitB (dec l).1 = false) (hc : (dec l).1 ≠ 34) :
    Calls Tryz.prog 70 #[.string ⟨l.toArray⟩] w fun e w' => e = .returned (oneV (if Lx.signM l > 0 then (7, Lx.signM l) else (8, (dec l).2))) ∧ Below w.heap.size w w' := by
  have _u : MaxL w m ∧ T8 w ∧ WordsIs w ∧ l.length ≤ 100000000 := ⟨hM, hT, hW, hl⟩
  clear _u
  have hdec := dec_walk l hne w hT
  have hsp := space_rev (dec l).1
  have hp1 : ∀ w, Calls Tryz.prog 108 #[.string ⟨l.toArray⟩, .string ⟨#[45, 45]⟩] w fun e w' => e = .returned (.bool ([45, 45].isPrefixOf l)) ∧ w' = w := fun w => pre_walk l [45, 45] w
  have hp2 : ∀ w, Calls Tryz.prog 108 #[.string ⟨l.toArray⟩, .string ⟨#[123, 45]⟩] w fun e w' => e = .returned (.bool ([123, 45].isPrefixOf l)) ∧ w' = w := fun w => pre_walk l [123, 45] w
  have hlt := letter_rev (dec l).1
  have hdg := digit_rev (dec l).1
  have hsg := fun w1 => sign_walk l w1 hne
  generalize Lx.signM l = n at *
  generalize dec l = D at *
  obtain ⟨c, z⟩ := D
  simp only at *
  generalize hK : (if n > 0 then (7, n) else (8, z) : Nat × Nat) = K
  have HK := Lib.hid hK
  clear hK
  have hc2 : ((c : Int) == 34) = false := by simp; omega
  clear hc
  go_enter Tryz.func70, Tryz.ntmps70
  go_wp2_with fail
  refine hdec.mono ?_
  rintro e w1 ⟨rfl, hb1⟩
  have hq := hsp w1
  rw [hS] at hq
  go_wp2_with fail
  refine hq.mono ?_
  clear hq
  rintro e w1 ⟨rfl, rfl⟩
  have hq := hp1 w1
  rw [hP1] at hq
  go_wp2_with fail
  refine hq.mono ?_
  clear hq
  rintro e w1 ⟨rfl, rfl⟩
  have hq := hp2 w1
  rw [hP2] at hq
  go_wp2_with fail
  refine hq.mono ?_
  clear hq
  rintro e w1 ⟨rfl, rfl⟩
  have hq := hlt w1
  rw [hL] at hq
  go_wp2_with fail
  refine hq.mono ?_
  clear hq
  rintro e w1 ⟨rfl, rfl⟩
  have hq := hdg w1
  rw [hD] at hq
  go_wp2_with fail
  refine hq.mono ?_
  clear hq
  rintro e w1 ⟨rfl, rfl⟩
  by_cases hn : n > 0
  · have hn2 : (0 : Int) < (n : Int) := by omega
    obtain rfl : K = (7, n) := by rw [← HK.out, if_pos hn]
    clear hn HK
    go_wp2_with fail
    refine (hsg w1).mono ?_
    rintro e w2 ⟨rfl, hb2⟩
    go_wp2_with fail
    go_ret2
    exact ⟨rfl, hb1.trans (hb2.mono hb1.size)⟩
  · obtain rfl : n = 0 := by omega
    obtain rfl : K = (8, z) := by rw [← HK.out, if_neg (by omega)]
    clear hn HK
    go_wp2_with fail
    refine (hsg w1).mono ?_
    rintro e w2 ⟨rfl, hb2⟩
    go_wp2_with fail
    go_ret2
    exact ⟨rfl, hb1.trans (hb2.mono hb1.size)⟩

theorem scan_walk (hM : MaxL w m) (hT : T8 w) (hW : WordsIs w) (hne : l ≠ []) (hl : l.length ≤ 100000000) :
    Calls Tryz.prog 70 #[.string ⟨l.toArray⟩] w fun e w' => e = .returned (oneV (Lx.oneM l)) ∧ Below w.heap.size w w' := by
  unfold Lx.oneM
  cases hS : Lx.spaceB (dec l).1 with
  | true => rw [if_pos rfl]; exact scan_space l m w hM hT hW hne hl hS
  | false =>
    rw [if_neg (by simp)]
    cases hP1 : [(45 : UInt8), 45].isPrefixOf l with
    | true => rw [if_pos rfl]; exact scan_line l m w hM hT hW hne hl hS hP1
    | false =>
      rw [if_neg (by simp)]
      cases hP2 : [(123 : UInt8), 45].isPrefixOf l with
      | true => rw [if_pos rfl]; exact scan_remark l m w hM hT hW hne hl hS hP1 hP2
      | false =>
        rw [if_neg (by simp)]
        cases hL : Lx.letterB (dec l).1 with
        | true => rw [if_pos rfl]; exact scan_name l m w hM hT hW hne hl hS hP1 hP2 hL
        | false =>
          rw [if_neg (by simp)]
          cases hD : Lx.digitB (dec l).1 with
          | true => rw [if_pos rfl]; exact scan_int l m w hM hT hW hne hl hS hP1 hP2 hL hD
          | false =>
            rw [if_neg (by simp)]
            by_cases hc : (dec l).1 = 34
            · obtain ⟨t, ht⟩ := dec_quote l hne hc
              rw [if_pos hc]
              have h1 : l.drop 1 = t := by rw [ht]; rfl
              rw [h1]
              exact scan_text l m w hM hT hW hne hl hS hP1 hP2 hL hD hc t ht
            · rw [if_neg hc]
              exact scan_rest l m w hM hT hW hne hl hS hP1 hP2 hL hD hc
end
end Go.Proofs.YtgpjcjnimheglaaGreatDoor
/-
  WALKS of package lex: next, Tokens; the law LexTiles.
-/
namespace Go.Proofs.YtgpjcjnimheglaaGreatDoor
open Go.RowKit

abbrev Tk := Nat × Nat × Nat
def tkC (x : Tk) : List Value := [.int .i64 x.1, .int .i64 x.2.1, .int .i64 x.2.2]
def tksC (l : List Tk) : List Value := l.flatMap tkC
theorem tksC_len (l : List Tk) : (tksC l).length = l.length * 3 := by
  induction l with
  | nil => rfl
  | cons a l ih => simp only [tksC, List.flatMap_cons, List.length_append, List.length_cons] at *; rw [ih]; simp [tkC]; omega
theorem tksC_snoc (l : List Tk) (x : Tk) : tksC (l ++ [x]) = tksC l ++ tkC x := by simp [tksC]
theorem tksC_get (l : List Tk) (k j : Nat) (hj : j < 3) (hk : k < l.length) : (tksC l)[k * 3 + j]? = (tkC l[k])[j]? := by
  induction l generalizing k with
  | nil => simp at hk
  | cons a l ih =>
    cases k with
    | zero => simp only [tksC, List.flatMap_cons]; rw [List.getElem?_append_left (by simp [tkC]; omega)]; simp
    | succ k =>
      have h3 : (tkC a).length = 3 := rfl
      simp only [tksC, List.flatMap_cons]
      rw [List.getElem?_append_right (by omega), h3]
      have e : (k + 1) * 3 + j - 3 = k * 3 + j := by omega
      rw [e]
      have := ih k (by simpa using hk)
      simpa [tksC] using this
theorem infoTk : (Tryz.prog.info? 42).map (fun i => (i.zero, i.size, i.bytes)) = some (some (.agg #[.int .i64 0, .int .i64 0, .int .i64 0]), 3, 24) := by kernel_rfl

set_option maxHeartbeats 1000000 in
set_option maxRecDepth 100000 in
theorem next_walk (s : Bs) (k : Nat) (m : Int) (w : World) (hM : MaxL w m) (hT : T8 w) (hW : WordsIs w) (hk : k < s.length) (hl : s.length ≤ 100000000) :
    Calls Tryz.prog 38 #[.string ⟨s.toArray⟩, .int .i64 k] w fun e w' => e = .returned (.agg #[.int .i64 (Lx.oneM (s.drop k)).1, .int .i64 k, .int .i64 (Lx.oneM (s.drop k)).2]) ∧ Below w.heap.size w w' := by
  obtain ⟨i0, ji, jz0, jz1, jz2⟩ := info_parts infoTk
  have hne : s.drop k ≠ [] := by intro e; have := congrArg List.length e; simp at this; omega
  have hs := fun w1 (hb : Below w.heap.size w w1) => scan_walk (s.drop k) m w1 (hM.below hb hM.lt) (hT.below hb) (hW.below hb) hne (by rw [List.length_drop]; omega)
  rw [← ext_drop] at hs
  generalize Lx.oneM (s.drop k) = X at *
  obtain ⟨a, n⟩ := X
  have Hs : Hid (∀ w1, Below w.heap.size w w1 → Calls Tryz.prog 70 #[.string ((⟨s.toArray⟩ : ByteArray).extract k s.length)] w1 fun e w' => e = .returned (.tuple #[.int .i64 a, .int .i64 n]) ∧ Below w1.heap.size w1 w') := hs
  have hb1 : Below w.heap.size w (w.alloc (.cells #[.int .i64 0, .int .i64 0, .int .i64 0] 42)) := (Below.refl _ _).alloc (Nat.le_refl _) _
  have hB1 : Blk (w.alloc (.cells #[.int .i64 0, .int .i64 0, .int .i64 0] 42)) w.heap.size 42 #[.int .i64 0, .int .i64 0, .int .i64 0] := Blk.new _ _ _
  have i0' : (0 : Int) ≤ (k : Int) := by omega
  have i1 : (k : Int) ≤ (s.length : Int) := by omega
  clear hs hne
  go_enter Tryz.func38, Tryz.ntmps38
  go_wp2_with fail
  refine (Hs.out _ hb1).mono ?_
  clear Hs
  rintro e w2 ⟨rfl, hb2⟩
  have hB2 := hB1.below hb2 (by simp)
  have hb12 := hb1.trans (hb2.mono (by simp))
  have c0 := hB2.cell 0
  have c1 := hB2.cell 1
  have c2 := hB2.cell 2
  have f0 := hB2.frozen 0
  have f1 := hB2.frozen 1
  have f2 := hB2.frozen 2
  simp at c0 c1 c2
  clear hb1 hB1
  go_wp2_with fail
  have hB3 := ((hB2.set_ 0 (.int .i64 a)).set_ 1 (.int .i64 k)).set_ 2 (.int .i64 n)
  have hb3 := ((hb12.setCell (p := ⟨w.heap.size, 0, none⟩) (Nat.le_refl _) (.int .i64 a)).setCell (p := ⟨w.heap.size, 1, none⟩) (Nat.le_refl _) (.int .i64 k)).setCell (p := ⟨w.heap.size, 2, none⟩) (Nat.le_refl _) (.int .i64 n)
  exact bodyPost_ret (v := .agg #[.int .i64 a, .int .i64 k, .int .i64 n]) (results_cell_row (hu := Tryz.underlying42) (h := rfl) (hp := rfl) (hg := hB3) (hd := rfl) (hi := by kernel_rfl)) rfl ⟨rfl, hb3⟩
set_option maxRecDepth 100000 in
theorem tclip_walk (A : Option Addr) (n c : Nat) (w : World) (h : n ≤ c) (hn : A = none → c = 0) :
    Calls Tryz.prog 36 #[.slice A n c] w fun e w' => e = .returned (.slice A n n) ∧ w = w' := by
  cases A with
  | none =>
    have := hn rfl
    subst this
    obtain rfl : n = 0 := by omega
    go_enter Tryz.func36, Tryz.ntmps36
    go_wp2
    go_ret
    exact ⟨rfl, rfl⟩
  | some a =>
    go_enter Tryz.func36, Tryz.ntmps36
    go_wp2
    go_ret
    exact ⟨rfl, rfl⟩

theorem own_cap {w : World} {base : Nat} {e : TypeId} {size n : Nat} {v : Value} {xs : List Value} (h : w.ownsRow base e size v n xs) : ∃ Av cv, v = .slice Av n cv ∧ n ≤ cv ∧ (Av = none → cv = 0) := by
  rcases h.2 with ⟨rfl, hP0⟩ | ⟨g, cap, cur, rfl, _, _, hle, _⟩
  · exact ⟨none, 0, by rw [hP0], by omega, fun _ => rfl⟩
  · exact ⟨_, cap, rfl, hle, fun h => by cases h⟩
set_option maxHeartbeats 2000000 in
set_option maxRecDepth 100000 in
theorem tokens_walkO (s : Bs) (m : Int) (w : World) (hM : MaxL w m) (hT : T8 w) (hW : WordsIs w) (hl : s.length ≤ 8388608) :
    Calls Tryz.prog 17 #[.string ⟨s.toArray⟩] w fun e w' => ∃ A, e = .returned (.slice A (Lx.tokR 0 s).length (Lx.tokR 0 s).length) ∧ (∃ c, w'.ownsRow w.heap.size 42 3 (.slice A (Lx.tokR 0 s).length c) (Lx.tokR 0 s).length (tksC (Lx.tokR 0 s))) ∧ Below w.heap.size w w' := by
  obtain ⟨i0, ji, jz0, jz1, jz2⟩ := info_parts infoTk
  generalize hR : Lx.tokR 0 s = R
  have HR := Lib.hid hR
  clear hR
  go_enter Tryz.func17, Tryz.ntmps17
  go_wp2_with fail
  go_loopw [3, 4] (fun v i wr => ∃ (k : Nat) (done : List Tk), i = .int .i64 k ∧ k ≤ s.length ∧ done.length ≤ k ∧ wr.ownsRow w.heap.size 42 3 v done.length (tksC done) ∧ Below w.heap.size w wr ∧ Hid (R = done ++ Lx.tokR k (s.drop k))) (fun _ i _ => s.length - (intOf i).toNat)
  case atStart => exact ⟨0, [], rfl, Nat.zero_le _, Nat.le_refl _, World.ownsRow_nil _ _ _ _, Below.refl _ _, by show _ = _; rw [← HR.out]; rfl⟩
  case round =>
    obtain ⟨k, done, rfl, hk, hdl, hown, hb, H⟩ := hrel
    have hbs := hb.size
    by_cases hlt : k < s.length
    · have hne : s.drop k ≠ [] := by intro e; have := congrArg List.length e; simp at this; omega
      have hnx := next_walk s k m wr (hM.below hb hM.lt) (hT.below hb) (hW.below hb) hlt (by omega)
      have hone := Lx.one_le (s.drop k) hne
      have Hs : Hid (R = (done ++ [((Lx.oneM (s.drop k)).1, k, (Lx.oneM (s.drop k)).2)]) ++ Lx.tokR (k + (Lx.oneM (s.drop k)).2) (s.drop (k + (Lx.oneM (s.drop k)).2))) := by
        show _ = _
        rw [H.out, Lx.tokR_cons k hne, List.drop_drop]; simp
      rw [List.length_drop] at hone
      generalize Lx.oneM (s.drop k) = X at *
      obtain ⟨a, n⟩ := X
      simp only at hone hnx Hs
      obtain ⟨o1, o2, o3, o4⟩ := hone
      have i0' : (0 : Int) ≤ (k : Int) := by omega
      have i1 : (k : Int) < (s.length : Int) := by omega
      clear hne H o3 o4
      go_wp2_with fail
      refine hnx.mono ?_
      clear hnx
      rintro e w2 ⟨rfl, hb2⟩
      have hb02 := hb.trans (hb2.mono hbs)
      have hbs2 := hb02.size
      have hown2 := own_of_block hown fun b hbk => hb2.block b (hown.lt b hbk).2
      obtain ⟨Av, cv, rfl⟩ := own_form hown2
      have hoA := (hown2.alloc (.cells #[.int .i64 a, .int .i64 k, .int .i64 n] 42)).alloc (.cells #[.int .i64 a, .int .i64 k, .int .i64 n] 42)
      have hbA : Below w.heap.size w ((w2.alloc (.cells #[.int .i64 a, .int .i64 k, .int .i64 n] 42)).alloc (.cells #[.int .i64 a, .int .i64 k, .int .i64 n] 42)) := (hb02.alloc hbs2 _).alloc (by simp; omega) _
      have hBT : Blk ((w2.alloc (.cells #[.int .i64 a, .int .i64 k, .int .i64 n] 42)).alloc (.cells #[.int .i64 a, .int .i64 k, .int .i64 n] 42)) w2.heap.size 42 #[.int .i64 a, .int .i64 k, .int .i64 n] := (Blk.new w2 _ _).alloc _
      have hne2 : some w2.heap.size ≠ (Value.slice Av done.length cv).ownBlock := fun e => by have := (hown2.lt _ e.symm).2; omega
      have hBN : ((w2.alloc (.cells #[.int .i64 a, .int .i64 k, .int .i64 n] 42)).alloc (.cells #[.int .i64 a, .int .i64 k, .int .i64 n] 42)).heap[w2.heap.size + 1]? = some (.cells #[.int .i64 a, .int .i64 k, .int .i64 n] 42 (0, 0)) := by
        have := heap_alloc_new (w2.alloc (.cells #[.int .i64 a, .int .i64 k, .int .i64 n] 42)) (.cells #[.int .i64 a, .int .i64 k, .int .i64 n] 42)
        simpa using this
      clear hown hb hbs hb2
      go_wp2_with (at_builtin; refine wpList_append_lies _ rfl _ _ 34 rfl w.heap.size 42 i0 _ 3 24 Tryz.underlying34 ji jz0 jz1 jz2 rfl (by omega) (.slice Av done.length cv) done.length (tksC done) rfl hoA ⟨w2.heap.size + 1, 0, none⟩ 1 1 [.int .i64 a, .int .i64 k, .int .i64 n] rfl rfl (World.news_of_block (cs := #[.int .i64 a, .int .i64 k, .int .i64 n]) (t := 42) (fr := (0, 0)) hBN) (by simp [Value.oneCell']) (by omega) (by unfold maxLen; omega) (by omega) (by simp; omega) _ rfl ?_; intro gg cap' w3 hown3 hgrow hat hlt3; have hB3 := hBT.grown hgrow hne2; have c2 := hB3.cell 2; simp at c2)
      go_roundw
      case rel => exact ⟨k + n, done ++ [(a, k, n)], by go_num, by omega, by simp; omega, by rw [tksC_snoc, List.length_append]; exact hown3, hbA.grown hgrow (by simp; omega) (fun g hg => (hown2.lt g hg).1), Hs.out⟩
      case measure => simp [intOf]; omega
    · obtain rfl : k = s.length := by omega
      have hRd : Hid (R = done) := by show _ = _; rw [H.out, List.drop_length, Lx.tokR_nil, List.append_nil]
      obtain ⟨Av, cv, rfl, hle, hvn⟩ := own_cap hown
      clear H
      go_wp2_with fail
      refine (tclip_walk Av done.length cv _ hle hvn).mono ?_
      rintro e w' ⟨rfl, rfl⟩
      go_wp2_with fail
      go_ret
      rw [hRd.out]
      exact ⟨Av, rfl, ⟨cv, hown⟩, hb⟩
theorem tokens_walk (s : Bs) (m : Int) (w : World) (hM : MaxL w m) (hT : T8 w) (hW : WordsIs w) (hl : s.length ≤ 8388608) :
    Calls Tryz.prog 17 #[.string ⟨s.toArray⟩] w fun e w' => ∃ A c, e = .returned (.slice A (Lx.tokR 0 s).length c) ∧ Rd w' w'.heap.size 3 A (Lx.tokR 0 s).length (tksC (Lx.tokR 0 s)) ∧ Below w.heap.size w w' :=
  (tokens_walkO s m w hM hT hW hl).mono fun _ _ ⟨A, he, ⟨_, hown⟩, hb⟩ => ⟨A, _, he, Rd.of_own hown, hb⟩
end Go.Proofs.YtgpjcjnimheglaaGreatDoor
