/-
  JOINED of the texts LJ LK TD TE CW
-/
import Derived.Test.YtcjjfeephaddcaaGreatDoorJad
set_option linter.all false
namespace Go.Proofs.YtcjjfeephaddcaaGreatDoor
open Go.RowKit
theorem dec_quote (l : Bs) (hne : l ≠ []) (h : (dec l).1 = 34) : ∃ t, l = 34 :: t := by
 cases l with
 | nil => exact absurd rfl hne
 | cons a t =>
  have hb : byteAt (a :: t) 0 = a.toNat := rfl
  rcases Nat.lt_or_ge a.toNat 128 with h1 | h1
  ·rw [dec_small (by rw [hb]; exact h1), hb] at h
   exact ⟨t, by rw [UInt8.toNat_inj.1 (show a.toNat = (34 : UInt8).toNat from h)]⟩
  ·have := dec_big (l := a :: t) (by rw [hb]; exact h1)
   omega
def oneV (x : Nat × Nat) : Value := .tuple #[.int .i64 x.1, .int .i64 x.2]
theorem enters_space : ∀ args w, (callFunc 186 args).run Tryz.prog w = .ok (.enter 186 args) w := enters_of Tryz.func186 (by kernel_rfl) rfl
theorem enters_both : ∀ args w, (callFunc 191 args).run Tryz.prog w = .ok (.enter 191 args) w := enters_of Tryz.func191 (by kernel_rfl) rfl
theorem enters_digit : ∀ args w, (callFunc 192 args).run Tryz.prog w = .ok (.enter 192 args) w := enters_of Tryz.func192 (by kernel_rfl) rfl
section
variable (l : Bs) (m : Int) (w : World)
theorem space_rev (c : Nat) (w : World) : Calls Tryz.prog 186 #[.int .i32 c] w fun e w' => e = .returned (.bool (Lx.spaceB c)) ∧ w' = w := (space_walk c w).mono fun _ _ h => ⟨h.1, h.2.symm⟩
theorem letter_rev (c : Nat) (w : World) : Calls Tryz.prog 190 #[.int .i32 c] w fun e w' => e = .returned (.bool (Lx.letterB c)) ∧ w' = w := (letter_walk c w).mono fun _ _ h => ⟨h.1, h.2.symm⟩
theorem digit_rev (c : Nat) (w : World) : Calls Tryz.prog 192 #[.int .i32 c] w fun e w' => e = .returned (.bool (Lx.digitB c)) ∧ w' = w := (digit_walk c w).mono fun _ _ h => ⟨h.1, h.2.symm⟩
set_option maxHeartbeats 1000000 in
set_option maxRecDepth 100000 in
theorem scan_space (hM : MaxL w m) (hT : T8 w) (hW : WordsIs w) (hne : l ≠ []) (hl : l.length ≤ 100000000) (hS : Lx.spaceB (dec l).1 = true) :
  Calls Tryz.prog 148 #[.string ⟨l.toArray⟩] w fun e w' => e = .returned (oneV (1, Lx.run Lx.spaceB l)) ∧ Below w.heap.size w w' := by
 have _u : MaxL w m ∧ T8 w ∧ WordsIs w ∧ l.length ≤ 100000000 := ⟨hM, hT, hW, hl⟩
 clear _u
 have hdec := dec_walk l hne w hT
 have hsp := space_rev (dec l).1
 have hp1 : ∀ w, Calls Tryz.prog 181 #[.string ⟨l.toArray⟩, .string ⟨#[45, 45]⟩] w fun e w' => e = .returned (.bool ([45, 45].isPrefixOf l)) ∧ w' = w := fun w => pre_walk l [45, 45] w
 have hp2 : ∀ w, Calls Tryz.prog 181 #[.string ⟨l.toArray⟩, .string ⟨#[123, 45]⟩] w fun e w' => e = .returned (.bool ([123, 45].isPrefixOf l)) ∧ w' = w := fun w => pre_walk l [123, 45] w
 have hlt := letter_rev (dec l).1
 have hdg := digit_rev (dec l).1
 have hrun := fun w1 (hb : Below w.heap.size w w1) => run_walk l 186 Lx.spaceB enters_space space_walk w1 (hT.below hb) hl
 generalize dec l = D at *
 obtain ⟨c, z⟩ := D
 simp only at *
 go_enter Tryz.func148, Tryz.ntmps148
 go_wp2_with fail
 refine hdec.mono ?_
 rintro e w1 ⟨rfl, hb1⟩
 have hq := hsp w1
 rw [hS] at hq
 go_wp2_with fail
 refine hq.mono ?_
 clear hq
 rintro e w1 ⟨rfl, rfl⟩
 go_wp2_with fail
 refine (hrun w1 hb1).mono ?_
 rintro e w2 ⟨rfl, hb2⟩
 go_wp2_with fail
 go_ret2
 exact ⟨rfl, hb1.trans (hb2.mono hb1.size)⟩
set_option maxHeartbeats 1000000 in
set_option maxRecDepth 100000 in
theorem scan_line (hM : MaxL w m) (hT : T8 w) (hW : WordsIs w) (hne : l ≠ []) (hl : l.length ≤ 100000000) (hS : Lx.spaceB (dec l).1 = false) (hP1 : [45, 45].isPrefixOf l = true) :
  Calls Tryz.prog 148 #[.string ⟨l.toArray⟩] w fun e w' => e = .returned (oneV (2, (l.takeWhile (· != 10)).length)) ∧ Below w.heap.size w w' := by
 have _u : MaxL w m ∧ T8 w ∧ WordsIs w ∧ l.length ≤ 100000000 := ⟨hM, hT, hW, hl⟩
 clear _u
 have hdec := dec_walk l hne w hT
 have hsp := space_rev (dec l).1
 have hp1 : ∀ w, Calls Tryz.prog 181 #[.string ⟨l.toArray⟩, .string ⟨#[45, 45]⟩] w fun e w' => e = .returned (.bool ([45, 45].isPrefixOf l)) ∧ w' = w := fun w => pre_walk l [45, 45] w
 have hp2 : ∀ w, Calls Tryz.prog 181 #[.string ⟨l.toArray⟩, .string ⟨#[123, 45]⟩] w fun e w' => e = .returned (.bool ([123, 45].isPrefixOf l)) ∧ w' = w := fun w => pre_walk l [123, 45] w
 have hlt := letter_rev (dec l).1
 have hdg := digit_rev (dec l).1
 have hcut := fun w1 (hb : Below w.heap.size w w1) => cut_walk1 10 l m w1 (hM.below hb hM.lt) hl
 generalize dec l = D at *
 obtain ⟨c, z⟩ := D
 simp only at *
 go_enter Tryz.func148, Tryz.ntmps148
 go_wp2_with fail
 refine hdec.mono ?_
 rintro e w1 ⟨rfl, hb1⟩
 have hq := hsp w1
 rw [hS] at hq
 go_wp2_with fail
 refine hq.mono ?_
 clear hq
 rintro e w1 ⟨rfl, rfl⟩
 have hq := hp1 w1
 rw [hP1] at hq
 go_wp2_with fail
 refine hq.mono ?_
 clear hq
 rintro e w1 ⟨rfl, rfl⟩
 go_wp2_with fail
 refine (hcut w1 hb1).mono ?_
 rintro e w2 ⟨rfl, n, rfl⟩
 go_wp2_with fail
 go_ret2
 exact ⟨rfl, below_drewN hb1 n⟩
set_option maxHeartbeats 1000000 in
set_option maxRecDepth 100000 in
theorem scan_remark (hM : MaxL w m) (hT : T8 w) (hW : WordsIs w) (hne : l ≠ []) (hl : l.length ≤ 100000000) (hS : Lx.spaceB (dec l).1 = false) (hP1 : [45, 45].isPrefixOf l = false) (hP2 : [123, 45].isPrefixOf l = true) :
  Calls Tryz.prog 148 #[.string ⟨l.toArray⟩] w fun e w' => e = .returned (oneV (match Lx.remM 1 (l.drop 2) with | some k => (2, k + 2) | none => (8, l.length))) ∧ Below w.heap.size w w' := by
 have _u : MaxL w m ∧ T8 w ∧ WordsIs w ∧ l.length ≤ 100000000 := ⟨hM, hT, hW, hl⟩
 clear _u
 have hdec := dec_walk l hne w hT
 have hsp := space_rev (dec l).1
 have hp1 : ∀ w, Calls Tryz.prog 181 #[.string ⟨l.toArray⟩, .string ⟨#[45, 45]⟩] w fun e w' => e = .returned (.bool ([45, 45].isPrefixOf l)) ∧ w' = w := fun w => pre_walk l [45, 45] w
 have hp2 : ∀ w, Calls Tryz.prog 181 #[.string ⟨l.toArray⟩, .string ⟨#[123, 45]⟩] w fun e w' => e = .returned (.bool ([123, 45].isPrefixOf l)) ∧ w' = w := fun w => pre_walk l [123, 45] w
 have hlt := letter_rev (dec l).1
 have hdg := digit_rev (dec l).1
 have hrem := fun w1 => remark_walk l w1 hP2 hl
 generalize Lx.remM 1 (l.drop 2) = R at *
 generalize dec l = D at *
 obtain ⟨c, z⟩ := D
 simp only at *
 go_enter Tryz.func148, Tryz.ntmps148
 go_wp2_with fail
 refine hdec.mono ?_
 rintro e w1 ⟨rfl, hb1⟩
 have hq := hsp w1
 rw [hS] at hq
 go_wp2_with fail
 refine hq.mono ?_
 clear hq
 rintro e w1 ⟨rfl, rfl⟩
 have hq := hp1 w1
 rw [hP1] at hq
 go_wp2_with fail
 refine hq.mono ?_
 clear hq
 rintro e w1 ⟨rfl, rfl⟩
 have hq := hp2 w1
 rw [hP2] at hq
 go_wp2_with fail
 refine hq.mono ?_
 clear hq
 rintro e w1 ⟨rfl, rfl⟩
 cases R with
 | none =>
  go_wp2_with fail
  refine (hrem w1).mono ?_
  rintro e w' ⟨rfl, rfl⟩
  go_wp2_with fail
  refine (kind_walk false 2 _).mono ?_
  rintro e w' ⟨rfl, rfl⟩
  go_wp2_with fail
  go_ret2
  exact ⟨rfl, hb1⟩
 | some k =>
  go_wp2_with fail
  refine (hrem w1).mono ?_
  rintro e w' ⟨rfl, rfl⟩
  go_wp2_with fail
  refine (kind_walk true 2 _).mono ?_
  rintro e w' ⟨rfl, rfl⟩
  go_wp2_with fail
  go_ret2
  exact ⟨rfl, hb1⟩
set_option maxHeartbeats 1000000 in
set_option maxRecDepth 100000 in
theorem scan_name (hM : MaxL w m) (hT : T8 w) (hW : WordsIs w) (hne : l ≠ []) (hl : l.length ≤ 100000000) (hS : Lx.spaceB (dec l).1 = false) (hP1 : [45, 45].isPrefixOf l = false) (hP2 : [123, 45].isPrefixOf l = false) (hL : Lx.letterB (dec l).1 = true) :
  Calls Tryz.prog 148 #[.string ⟨l.toArray⟩] w fun e w' => e = .returned (oneV (if Lx.wordM (l.take (Lx.run Lx.bothB l)) then 4 else 3, Lx.run Lx.bothB l)) ∧ Below w.heap.size w w' := by
 have _u : MaxL w m ∧ T8 w ∧ WordsIs w ∧ l.length ≤ 100000000 := ⟨hM, hT, hW, hl⟩
 clear _u
 have hdec := dec_walk l hne w hT
 have hsp := space_rev (dec l).1
 have hp1 : ∀ w, Calls Tryz.prog 181 #[.string ⟨l.toArray⟩, .string ⟨#[45, 45]⟩] w fun e w' => e = .returned (.bool ([45, 45].isPrefixOf l)) ∧ w' = w := fun w => pre_walk l [45, 45] w
 have hp2 : ∀ w, Calls Tryz.prog 181 #[.string ⟨l.toArray⟩, .string ⟨#[123, 45]⟩] w fun e w' => e = .returned (.bool ([123, 45].isPrefixOf l)) ∧ w' = w := fun w => pre_walk l [123, 45] w
 have hlt := letter_rev (dec l).1
 have hdg := digit_rev (dec l).1
 have hrun := fun w1 (hb : Below w.heap.size w w1) => run_walk l 191 Lx.bothB enters_both both_walk w1 (hT.below hb) hl
 have hle := Lx.run_le Lx.bothB _ l rfl
 have hword := fun w1 (hb : Below w.heap.size w w1) => word_walk (l.take (Lx.run Lx.bothB l)) w1 (hW.below hb)
 have hex := ext_str l 0 (Lx.run Lx.bothB l)
 unfold strV at hex
 rw [List.drop_zero] at hex
 rw [← hex] at hword
 clear hex
 generalize Lx.wordM (l.take (Lx.run Lx.bothB l)) = B at *
 generalize Lx.run Lx.bothB l = n at *
 generalize dec l = D at *
 obtain ⟨c, z⟩ := D
 simp only at *
 go_enter Tryz.func148, Tryz.ntmps148
 go_wp2_with fail
 refine hdec.mono ?_
 rintro e w1 ⟨rfl, hb1⟩
 have hq := hsp w1
 rw [hS] at hq
 go_wp2_with fail
 refine hq.mono ?_
 clear hq
 rintro e w1 ⟨rfl, rfl⟩
 have hq := hp1 w1
 rw [hP1] at hq
 go_wp2_with fail
 refine hq.mono ?_
 clear hq
 rintro e w1 ⟨rfl, rfl⟩
 have hq := hp2 w1
 rw [hP2] at hq
 go_wp2_with fail
 refine hq.mono ?_
 clear hq
 rintro e w1 ⟨rfl, rfl⟩
 have hq := hlt w1
 rw [hL] at hq
 go_wp2_with fail
 refine hq.mono ?_
 clear hq
 rintro e w1 ⟨rfl, rfl⟩
 cases B with
 | true =>
  go_wp2_with fail
  refine (hrun w1 hb1).mono ?_
  rintro e w2 ⟨rfl, hb2⟩
  have hb12 := hb1.trans (hb2.mono hb1.size)
  go_wp2_with fail
  refine (hword w2 hb12).mono ?_
  rintro e w' ⟨rfl, rfl⟩
  go_wp2_with fail
  go_ret2
  exact ⟨rfl, hb12⟩
 | false =>
  go_wp2_with fail
  refine (hrun w1 hb1).mono ?_
  rintro e w2 ⟨rfl, hb2⟩
  have hb12 := hb1.trans (hb2.mono hb1.size)
  go_wp2_with fail
  refine (hword w2 hb12).mono ?_
  rintro e w' ⟨rfl, rfl⟩
  go_wp2_with fail
  go_ret2
  exact ⟨rfl, hb12⟩
set_option maxHeartbeats 1000000 in
set_option maxRecDepth 100000 in
theorem scan_int (hM : MaxL w m) (hT : T8 w) (hW : WordsIs w) (hne : l ≠ []) (hl : l.length ≤ 100000000) (hS : Lx.spaceB (dec l).1 = false) (hP1 : [45, 45].isPrefixOf l = false) (hP2 : [123, 45].isPrefixOf l = false) (hL : Lx.letterB (dec l).1 = false) (hD : Lx.digitB (dec l).1 = true) :
  Calls Tryz.prog 148 #[.string ⟨l.toArray⟩] w fun e w' => e = .returned (oneV (if Lx.run Lx.digitB l ≤ 18 then 5 else 8, Lx.run Lx.digitB l)) ∧ Below w.heap.size w w' := by
 have _u : MaxL w m ∧ T8 w ∧ WordsIs w ∧ l.length ≤ 100000000 := ⟨hM, hT, hW, hl⟩
 clear _u
 have hdec := dec_walk l hne w hT
 have hsp := space_rev (dec l).1
 have hp1 : ∀ w, Calls Tryz.prog 181 #[.string ⟨l.toArray⟩, .string ⟨#[45, 45]⟩] w fun e w' => e = .returned (.bool ([45, 45].isPrefixOf l)) ∧ w' = w := fun w => pre_walk l [45, 45] w
 have hp2 : ∀ w, Calls Tryz.prog 181 #[.string ⟨l.toArray⟩, .string ⟨#[123, 45]⟩] w fun e w' => e = .returned (.bool ([123, 45].isPrefixOf l)) ∧ w' = w := fun w => pre_walk l [123, 45] w
 have hlt := letter_rev (dec l).1
 have hdg := digit_rev (dec l).1
 have hrun := fun w1 (hb : Below w.heap.size w w1) => run_walk l 192 Lx.digitB enters_digit digit_walk w1 (hT.below hb) hl
 have hle := Lx.run_le Lx.digitB _ l rfl
 generalize Lx.run Lx.digitB l = n at *
 generalize hK : (if n ≤ 18 then 5 else 8 : Nat) = K
 have HK := Lib.hid hK
 clear hK
 generalize dec l = D at *
 obtain ⟨c, z⟩ := D
 simp only at *
 go_enter Tryz.func148, Tryz.ntmps148
 go_wp2_with fail
 refine hdec.mono ?_
 rintro e w1 ⟨rfl, hb1⟩
 have hq := hsp w1
 rw [hS] at hq
 go_wp2_with fail
 refine hq.mono ?_
 clear hq
 rintro e w1 ⟨rfl, rfl⟩
 have hq := hp1 w1
 rw [hP1] at hq
 go_wp2_with fail
 refine hq.mono ?_
 clear hq
 rintro e w1 ⟨rfl, rfl⟩
 have hq := hp2 w1
 rw [hP2] at hq
 go_wp2_with fail
 refine hq.mono ?_
 clear hq
 rintro e w1 ⟨rfl, rfl⟩
 have hq := hlt w1
 rw [hL] at hq
 go_wp2_with fail
 refine hq.mono ?_
 clear hq
 rintro e w1 ⟨rfl, rfl⟩
 have hq := hdg w1
 rw [hD] at hq
 go_wp2_with fail
 refine hq.mono ?_
 clear hq
 rintro e w1 ⟨rfl, rfl⟩
 by_cases hn : n ≤ 18
 ·have hn2 : (n : Int) ≤ 18 := by omega
  obtain rfl : K = 5 := by rw [← HK.out, if_pos hn]
  clear hn HK
  go_wp2_with fail
  refine (hrun w1 hb1).mono ?_
  rintro e w2 ⟨rfl, hb2⟩
  go_wp2_with fail
  refine (kind_walk true 5 _).mono ?_
  rintro e w' ⟨rfl, rfl⟩
  go_wp2_with fail
  go_ret2
  exact ⟨rfl, hb1.trans (hb2.mono hb1.size)⟩
 ·have hn2 : ¬ (n : Int) ≤ 18 := by omega
  obtain rfl : K = 8 := by rw [← HK.out, if_neg hn]
  have hkw : ∀ w, Calls Tryz.prog 185 #[.bool (decide ((n : Int) ≤ 18)), .int .i64 5] w fun e w' => e = .returned (.int .i64 8) ∧ w = w' := fun w => by rw [decide_eq_false hn2]; exact kind_walk false 5 w
  clear hn HK
  go_wp2_with fail
  refine (hrun w1 hb1).mono ?_
  rintro e w2 ⟨rfl, hb2⟩
  go_wp2_with fail
  refine (hkw _).mono ?_
  rintro e w' ⟨rfl, rfl⟩
  go_wp2_with fail
  go_ret2
  exact ⟨rfl, hb1.trans (hb2.mono hb1.size)⟩
set_option maxHeartbeats 1000000 in
set_option maxRecDepth 100000 in
theorem scan_text (hM : MaxL w m) (hT : T8 w) (hW : WordsIs w) (hne : l ≠ []) (hl : l.length ≤ 100000000) (hS : Lx.spaceB (dec l).1 = false) (hP1 : [45, 45].isPrefixOf l = false) (hP2 : [123, 45].isPrefixOf l = false) (hL : Lx.letterB (dec l).1 = false) (hD : Lx.digitB (dec l).1 = false) (hc : (dec l).1 = 34) (t : Bs) (ht : l = 34 :: t) :
  Calls Tryz.prog 148 #[.string ⟨l.toArray⟩] w fun e w' => e = .returned (oneV (if (Lx.textM t).2.1 ∧ (Lx.textM t).2.2 then 6 else 8, (Lx.textM t).1 + 1)) ∧ Below w.heap.size w w' := by
 have _u : MaxL w m ∧ T8 w ∧ WordsIs w ∧ l.length ≤ 100000000 := ⟨hM, hT, hW, hl⟩
 clear _u
 have hdec := dec_walk l hne w hT
 have hsp := space_rev (dec l).1
 have hp1 : ∀ w, Calls Tryz.prog 181 #[.string ⟨l.toArray⟩, .string ⟨#[45, 45]⟩] w fun e w' => e = .returned (.bool ([45, 45].isPrefixOf l)) ∧ w' = w := fun w => pre_walk l [45, 45] w
 have hp2 : ∀ w, Calls Tryz.prog 181 #[.string ⟨l.toArray⟩, .string ⟨#[123, 45]⟩] w fun e w' => e = .returned (.bool ([123, 45].isPrefixOf l)) ∧ w' = w := fun w => pre_walk l [123, 45] w
 have hlt := letter_rev (dec l).1
 have hdg := digit_rev (dec l).1
 have htx := fun w1 (hb : Below w.heap.size w w1) => text_walk l t ht m w1 (hM.below hb hM.lt) (hT.below hb) hl
 generalize Lx.textM t = X at *
 obtain ⟨n, b1, b2⟩ := X
 simp only at htx ⊢
 generalize hK : (if b1 = true ∧ b2 = true then 6 else 8 : Nat) = K
 have HK := Lib.hid hK
 clear hK
 clear ht
 generalize dec l = D at *
 obtain ⟨c, z⟩ := D
 simp only at *
 have hc2 : ((c : Int) == 34) = true := by simp; omega
 clear hc
 go_enter Tryz.func148, Tryz.ntmps148
 go_wp2_with fail
 refine hdec.mono ?_
 rintro e w1 ⟨rfl, hb1⟩
 have hq := hsp w1
 rw [hS] at hq
 go_wp2_with fail
 refine hq.mono ?_
 clear hq
 rintro e w1 ⟨rfl, rfl⟩
 have hq := hp1 w1
 rw [hP1] at hq
 go_wp2_with fail
 refine hq.mono ?_
 clear hq
 rintro e w1 ⟨rfl, rfl⟩
 have hq := hp2 w1
 rw [hP2] at hq
 go_wp2_with fail
 refine hq.mono ?_
 clear hq
 rintro e w1 ⟨rfl, rfl⟩
 have hq := hlt w1
 rw [hL] at hq
 go_wp2_with fail
 refine hq.mono ?_
 clear hq
 rintro e w1 ⟨rfl, rfl⟩
 have hq := hdg w1
 rw [hD] at hq
 go_wp2_with fail
 refine hq.mono ?_
 clear hq
 rintro e w1 ⟨rfl, rfl⟩
 cases b1 with
 | false =>
  obtain rfl : K = 8 := by rw [← HK.out]; rfl
  clear HK
  go_wp2_with fail
  refine (htx w1 hb1).mono ?_
  rintro e w2 ⟨rfl, hb2⟩
  go_wp2_with fail
  refine (kind_walk false 6 _).mono ?_
  rintro e w' ⟨rfl, rfl⟩
  go_wp2_with fail
  go_ret2
  exact ⟨rfl, hb1.trans (hb2.mono hb1.size)⟩
 | true =>
  cases b2 with
  | false =>
   obtain rfl : K = 8 := by rw [← HK.out]; rfl
   clear HK
   go_wp2_with fail
   refine (htx w1 hb1).mono ?_
   rintro e w2 ⟨rfl, hb2⟩
   go_wp2_with fail
   refine (kind_walk false 6 _).mono ?_
   rintro e w' ⟨rfl, rfl⟩
   go_wp2_with fail
   go_ret2
   exact ⟨rfl, hb1.trans (hb2.mono hb1.size)⟩
  | true =>
   obtain rfl : K = 6 := by rw [← HK.out]; rfl
   clear HK
   go_wp2_with fail
   refine (htx w1 hb1).mono ?_
   rintro e w2 ⟨rfl, hb2⟩
   go_wp2_with fail
   refine (kind_walk true 6 _).mono ?_
   rintro e w' ⟨rfl, rfl⟩
   go_wp2_with fail
   go_ret2
   exact ⟨rfl, hb1.trans (hb2.mono hb1.size)⟩
set_option maxHeartbeats 1000000 in
set_option maxRecDepth 100000 in
theorem scan_rest (hM : MaxL w m) (hT : T8 w) (hW : WordsIs w) (hne : l ≠ []) (hl : l.length ≤ 100000000) (hS : Lx.spaceB (dec l).1 = false) (hP1 : [45, 45].isPrefixOf l = false) (hP2 : [123, 45].isPrefixOf l = false) (hL : Lx.letterB (dec l).1 = false) (hD : Lx.digitB (dec l).1 = false) (hc : (dec l).1 ≠ 34) :
  Calls Tryz.prog 148 #[.string ⟨l.toArray⟩] w fun e w' => e = .returned (oneV (if Lx.signM l > 0 then (7, Lx.signM l) else (8, (dec l).2))) ∧ Below w.heap.size w w' := by
 have _u : MaxL w m ∧ T8 w ∧ WordsIs w ∧ l.length ≤ 100000000 := ⟨hM, hT, hW, hl⟩
 clear _u
 have hdec := dec_walk l hne w hT
 have hsp := space_rev (dec l).1
 have hp1 : ∀ w, Calls Tryz.prog 181 #[.string ⟨l.toArray⟩, .string ⟨#[45, 45]⟩] w fun e w' => e = .returned (.bool ([45, 45].isPrefixOf l)) ∧ w' = w := fun w => pre_walk l [45, 45] w
 have hp2 : ∀ w, Calls Tryz.prog 181 #[.string ⟨l.toArray⟩, .string ⟨#[123, 45]⟩] w fun e w' => e = .returned (.bool ([123, 45].isPrefixOf l)) ∧ w' = w := fun w => pre_walk l [123, 45] w
 have hlt := letter_rev (dec l).1
 have hdg := digit_rev (dec l).1
 have hsg := fun w1 => sign_walk l w1 hne
 generalize Lx.signM l = n at *
 generalize dec l = D at *
 obtain ⟨c, z⟩ := D
 simp only at *
 generalize hK : (if n > 0 then (7, n) else (8, z) : Nat × Nat) = K
 have HK := Lib.hid hK
 clear hK
 have hc2 : ((c : Int) == 34) = false := by simp; omega
 clear hc
 go_enter Tryz.func148, Tryz.ntmps148
 go_wp2_with fail
 refine hdec.mono ?_
 rintro e w1 ⟨rfl, hb1⟩
 have hq := hsp w1
 rw [hS] at hq
 go_wp2_with fail
 refine hq.mono ?_
 clear hq
 rintro e w1 ⟨rfl, rfl⟩
 have hq := hp1 w1
 rw [hP1] at hq
 go_wp2_with fail
 refine hq.mono ?_
 clear hq
 rintro e w1 ⟨rfl, rfl⟩
 have hq := hp2 w1
 rw [hP2] at hq
 go_wp2_with fail
 refine hq.mono ?_
 clear hq
 rintro e w1 ⟨rfl, rfl⟩
 have hq := hlt w1
 rw [hL] at hq
 go_wp2_with fail
 refine hq.mono ?_
 clear hq
 rintro e w1 ⟨rfl, rfl⟩
 have hq := hdg w1
 rw [hD] at hq
 go_wp2_with fail
 refine hq.mono ?_
 clear hq
 rintro e w1 ⟨rfl, rfl⟩
 by_cases hn : n > 0
 ·have hn2 : (0 : Int) < (n : Int) := by omega
  obtain rfl : K = (7, n) := by rw [← HK.out, if_pos hn]
  clear hn HK
  go_wp2_with fail
  refine (hsg w1).mono ?_
  rintro e w2 ⟨rfl, hb2⟩
  go_wp2_with fail
  go_ret2
  exact ⟨rfl, hb1.trans (hb2.mono hb1.size)⟩
 ·obtain rfl : n = 0 := by omega
  obtain rfl : K = (8, z) := by rw [← HK.out, if_neg (by omega)]
  clear hn HK
  go_wp2_with fail
  refine (hsg w1).mono ?_
  rintro e w2 ⟨rfl, hb2⟩
  go_wp2_with fail
  go_ret2
  exact ⟨rfl, hb1.trans (hb2.mono hb1.size)⟩
theorem scan_walk (hM : MaxL w m) (hT : T8 w) (hW : WordsIs w) (hne : l ≠ []) (hl : l.length ≤ 100000000) :
  Calls Tryz.prog 148 #[.string ⟨l.toArray⟩] w fun e w' => e = .returned (oneV (Lx.oneM l)) ∧ Below w.heap.size w w' := by
 unfold Lx.oneM
 cases hS : Lx.spaceB (dec l).1 with
 | true => rw [if_pos rfl]; exact scan_space l m w hM hT hW hne hl hS
 | false =>
  rw [if_neg (by simp)]
  cases hP1 : [(45 : UInt8), 45].isPrefixOf l with
  | true => rw [if_pos rfl]; exact scan_line l m w hM hT hW hne hl hS hP1
  | false =>
   rw [if_neg (by simp)]
   cases hP2 : [(123 : UInt8), 45].isPrefixOf l with
   | true => rw [if_pos rfl]; exact scan_remark l m w hM hT hW hne hl hS hP1 hP2
   | false =>
    rw [if_neg (by simp)]
    cases hL : Lx.letterB (dec l).1 with
    | true => rw [if_pos rfl]; exact scan_name l m w hM hT hW hne hl hS hP1 hP2 hL
    | false =>
     rw [if_neg (by simp)]
     cases hD : Lx.digitB (dec l).1 with
     | true => rw [if_pos rfl]; exact scan_int l m w hM hT hW hne hl hS hP1 hP2 hL hD
     | false =>
      rw [if_neg (by simp)]
      by_cases hc : (dec l).1 = 34
      ·obtain ⟨t, ht⟩ := dec_quote l hne hc
       rw [if_pos hc]
       have h1 : l.drop 1 = t := by rw [ht]; rfl
       rw [h1]
       exact scan_text l m w hM hT hW hne hl hS hP1 hP2 hL hD hc t ht
      ·rw [if_neg hc]
       exact scan_rest l m w hM hT hW hne hl hS hP1 hP2 hL hD hc
end
abbrev Tk := Nat × Nat × Nat
def tkC (x : Tk) : List Value := [.int .i64 x.1, .int .i64 x.2.1, .int .i64 x.2.2]
def tksC (l : List Tk) : List Value := l.flatMap tkC
theorem tksC_len (l : List Tk) : (tksC l).length = l.length * 3 := by
 induction l with
 | nil => rfl
 | cons a l ih => simp only [tksC, List.flatMap_cons, List.length_append, List.length_cons] at *; rw [ih]; simp [tkC]; omega
theorem tksC_snoc (l : List Tk) (x : Tk) : tksC (l ++ [x]) = tksC l ++ tkC x := by simp [tksC]
theorem tksC_get (l : List Tk) (k j : Nat) (hj : j < 3) (hk : k < l.length) : (tksC l)[k * 3 + j]? = (tkC l[k])[j]? := by
 induction l generalizing k with
 | nil => simp at hk
 | cons a l ih =>
  cases k with
  | zero => simp only [tksC, List.flatMap_cons]; rw [List.getElem?_append_left (by simp [tkC]; omega)]; simp
  | succ k =>
   have h3 : (tkC a).length = 3 := rfl
   simp only [tksC, List.flatMap_cons]
   rw [List.getElem?_append_right (by omega), h3]
   have e : (k + 1) * 3 + j - 3 = k * 3 + j := by omega
   rw [e]
   have := ih k (by simpa using hk)
   simpa [tksC] using this
theorem infoTk : (Tryz.prog.info? 127).map (fun i => (i.zero, i.size, i.bytes)) = some (some (.agg #[.int .i64 0, .int .i64 0, .int .i64 0]), 3, 24) := by kernel_rfl
set_option maxHeartbeats 1000000 in
set_option maxRecDepth 100000 in
theorem next_walk (s : Bs) (k : Nat) (m : Int) (w : World) (hM : MaxL w m) (hT : T8 w) (hW : WordsIs w) (hk : k < s.length) (hl : s.length ≤ 100000000) :
  Calls Tryz.prog 101 #[.string ⟨s.toArray⟩, .int .i64 k] w fun e w' => e = .returned (.agg #[.int .i64 (Lx.oneM (s.drop k)).1, .int .i64 k, .int .i64 (Lx.oneM (s.drop k)).2]) ∧ Below w.heap.size w w' := by
 obtain ⟨i0, ji, jz0, jz1, jz2⟩ := info_parts infoTk
 have hne : s.drop k ≠ [] := by intro e; have := congrArg List.length e; simp at this; omega
 have hs := fun w1 (hb : Below w.heap.size w w1) => scan_walk (s.drop k) m w1 (hM.below hb hM.lt) (hT.below hb) (hW.below hb) hne (by rw [List.length_drop]; omega)
 rw [← ext_drop] at hs
 generalize Lx.oneM (s.drop k) = X at *
 obtain ⟨a, n⟩ := X
 have Hs : Hid (∀ w1, Below w.heap.size w w1 → Calls Tryz.prog 148 #[.string ((⟨s.toArray⟩ : ByteArray).extract k s.length)] w1 fun e w' => e = .returned (.tuple #[.int .i64 a, .int .i64 n]) ∧ Below w1.heap.size w1 w') := hs
 have hb1 : Below w.heap.size w (w.alloc (.cells #[.int .i64 0, .int .i64 0, .int .i64 0] 127)) := (Below.refl _ _).alloc (Nat.le_refl _) _
 have hB1 : Blk (w.alloc (.cells #[.int .i64 0, .int .i64 0, .int .i64 0] 127)) w.heap.size 127 #[.int .i64 0, .int .i64 0, .int .i64 0] := Blk.new _ _ _
 have i0' : (0 : Int) ≤ (k : Int) := by omega
 have i1 : (k : Int) ≤ (s.length : Int) := by omega
 clear hs hne
 go_enter Tryz.func101, Tryz.ntmps101
 go_wp2_with fail
 refine (Hs.out _ hb1).mono ?_
 clear Hs
 rintro e w2 ⟨rfl, hb2⟩
 have hB2 := hB1.below hb2 (by simp)
 have hb12 := hb1.trans (hb2.mono (by simp))
 have c0 := hB2.cell 0
 have c1 := hB2.cell 1
 have c2 := hB2.cell 2
 have f0 := hB2.frozen 0
 have f1 := hB2.frozen 1
 have f2 := hB2.frozen 2
 simp at c0 c1 c2
 clear hb1 hB1
 go_wp2_with fail
 have hB3 := ((hB2.set_ 0 (.int .i64 a)).set_ 1 (.int .i64 k)).set_ 2 (.int .i64 n)
 have hb3 := ((hb12.setCell (p := ⟨w.heap.size, 0, none⟩) (Nat.le_refl _) (.int .i64 a)).setCell (p := ⟨w.heap.size, 1, none⟩) (Nat.le_refl _) (.int .i64 k)).setCell (p := ⟨w.heap.size, 2, none⟩) (Nat.le_refl _) (.int .i64 n)
 exact bodyPost_ret (v := .agg #[.int .i64 a, .int .i64 k, .int .i64 n]) (results_cell_row (hu := Tryz.underlying127) (h := rfl) (hp := rfl) (hg := hB3) (hd := rfl) (hi := by kernel_rfl)) rfl ⟨rfl, hb3⟩
set_option maxRecDepth 100000 in
theorem tclip_walk (A : Option Addr) (n c : Nat) (w : World) (h : n ≤ c) (hn : A = none → c = 0) :
  Calls Tryz.prog 102 #[.slice A n c] w fun e w' => e = .returned (.slice A n n) ∧ w = w' := by
 cases A with
 | none =>
  have := hn rfl
  subst this
  obtain rfl : n = 0 := by omega
  go_enter Tryz.func102, Tryz.ntmps102
  go_wp2
  go_ret
  exact ⟨rfl, rfl⟩
 | some a =>
  go_enter Tryz.func102, Tryz.ntmps102
  go_wp2
  go_ret
  exact ⟨rfl, rfl⟩
theorem own_cap {w : World} {base : Nat} {e : TypeId} {size n : Nat} {v : Value} {xs : List Value} (h : w.ownsRow base e size v n xs) : ∃ Av cv, v = .slice Av n cv ∧ n ≤ cv ∧ (Av = none → cv = 0) := by
 rcases h.2 with ⟨rfl, hP0⟩ | ⟨g, cap, cur, rfl, _, _, hle, _⟩
 ·exact ⟨none, 0, by rw [hP0], by omega, fun _ => rfl⟩
 ·exact ⟨_, cap, rfl, hle, fun h => by cases h⟩
set_option maxHeartbeats 2000000 in
set_option maxRecDepth 100000 in
theorem tokens_walkO (s : Bs) (m : Int) (w : World) (hM : MaxL w m) (hT : T8 w) (hW : WordsIs w) (hl : s.length ≤ 8388608) :
  Calls Tryz.prog 50 #[.string ⟨s.toArray⟩] w fun e w' => ∃ A, e = .returned (.slice A (Lx.tokR 0 s).length (Lx.tokR 0 s).length) ∧ (∃ c, w'.ownsRow w.heap.size 127 3 (.slice A (Lx.tokR 0 s).length c) (Lx.tokR 0 s).length (tksC (Lx.tokR 0 s))) ∧ Below w.heap.size w w' := by
 obtain ⟨i0, ji, jz0, jz1, jz2⟩ := info_parts infoTk
 generalize hR : Lx.tokR 0 s = R
 have HR := Lib.hid hR
 clear hR
 go_enter Tryz.func50, Tryz.ntmps50
 go_wp2_with fail
 go_loopw [3, 4] (fun v i wr => ∃ (k : Nat) (done : List Tk), i = .int .i64 k ∧ k ≤ s.length ∧ done.length ≤ k ∧ wr.ownsRow w.heap.size 127 3 v done.length (tksC done) ∧ Below w.heap.size w wr ∧ Hid (R = done ++ Lx.tokR k (s.drop k))) (fun _ i _ => s.length - (intOf i).toNat)
 case atStart => exact ⟨0, [], rfl, Nat.zero_le _, Nat.le_refl _, World.ownsRow_nil _ _ _ _, Below.refl _ _, by show _ = _; rw [← HR.out]; rfl⟩
 case round =>
  obtain ⟨k, done, rfl, hk, hdl, hown, hb, H⟩ := hrel
  have hbs := hb.size
  by_cases hlt : k < s.length
  ·have hne : s.drop k ≠ [] := by intro e; have := congrArg List.length e; simp at this; omega
   have hnx := next_walk s k m wr (hM.below hb hM.lt) (hT.below hb) (hW.below hb) hlt (by omega)
   have hone := Lx.one_le (s.drop k) hne
   have Hs : Hid (R = (done ++ [((Lx.oneM (s.drop k)).1, k, (Lx.oneM (s.drop k)).2)]) ++ Lx.tokR (k + (Lx.oneM (s.drop k)).2) (s.drop (k + (Lx.oneM (s.drop k)).2))) := by
    show _ = _
    rw [H.out, Lx.tokR_cons k hne, List.drop_drop]; simp
   rw [List.length_drop] at hone
   generalize Lx.oneM (s.drop k) = X at *
   obtain ⟨a, n⟩ := X
   simp only at hone hnx Hs
   obtain ⟨o1, o2, o3, o4⟩ := hone
   have i0' : (0 : Int) ≤ (k : Int) := by omega
   have i1 : (k : Int) < (s.length : Int) := by omega
   clear hne H o3 o4
   go_wp2_with fail
   refine hnx.mono ?_
   clear hnx
   rintro e w2 ⟨rfl, hb2⟩
   have hb02 := hb.trans (hb2.mono hbs)
   have hbs2 := hb02.size
   have hown2 := own_of_block hown fun b hbk => hb2.block b (hown.lt b hbk).2
   obtain ⟨Av, cv, rfl⟩ := own_form hown2
   have hoA := (hown2.alloc (.cells #[.int .i64 a, .int .i64 k, .int .i64 n] 127)).alloc (.cells #[.int .i64 a, .int .i64 k, .int .i64 n] 127)
   have hbA : Below w.heap.size w ((w2.alloc (.cells #[.int .i64 a, .int .i64 k, .int .i64 n] 127)).alloc (.cells #[.int .i64 a, .int .i64 k, .int .i64 n] 127)) := (hb02.alloc hbs2 _).alloc (by simp; omega) _
   have hBT : Blk ((w2.alloc (.cells #[.int .i64 a, .int .i64 k, .int .i64 n] 127)).alloc (.cells #[.int .i64 a, .int .i64 k, .int .i64 n] 127)) w2.heap.size 127 #[.int .i64 a, .int .i64 k, .int .i64 n] := (Blk.new w2 _ _).alloc _
   have hne2 : some w2.heap.size ≠ (Value.slice Av done.length cv).ownBlock := fun e => by have := (hown2.lt _ e.symm).2; omega
   have hBN : ((w2.alloc (.cells #[.int .i64 a, .int .i64 k, .int .i64 n] 127)).alloc (.cells #[.int .i64 a, .int .i64 k, .int .i64 n] 127)).heap[w2.heap.size + 1]? = some (.cells #[.int .i64 a, .int .i64 k, .int .i64 n] 127 (0, 0)) := by
    have := heap_alloc_new (w2.alloc (.cells #[.int .i64 a, .int .i64 k, .int .i64 n] 127)) (.cells #[.int .i64 a, .int .i64 k, .int .i64 n] 127)
    simpa using this
   clear hown hb hbs hb2
   go_wp2_with (at_builtin; refine wpList_append_lies _ rfl _ _ 124 rfl w.heap.size 127 i0 _ 3 24 Tryz.underlying124 ji jz0 jz1 jz2 rfl (by omega) (.slice Av done.length cv) done.length (tksC done) rfl hoA ⟨w2.heap.size + 1, 0, none⟩ 1 1 [.int .i64 a, .int .i64 k, .int .i64 n] rfl rfl (World.news_of_block (cs := #[.int .i64 a, .int .i64 k, .int .i64 n]) (t := 127) (fr := (0, 0)) hBN) (by simp [Value.oneCell']) (by omega) (by unfold maxLen; omega) (by omega) (by simp; omega) _ rfl ?_; intro gg cap' w3 hown3 hgrow hat hlt3; have hB3 := hBT.grown hgrow hne2; have c2 := hB3.cell 2; simp at c2)
   go_roundw
   case rel => exact ⟨k + n, done ++ [(a, k, n)], by go_num, by omega, by simp; omega, by rw [tksC_snoc, List.length_append]; exact hown3, hbA.grown hgrow (by simp; omega) (fun g hg => (hown2.lt g hg).1), Hs.out⟩
   case measure => simp [intOf]; omega
  ·obtain rfl : k = s.length := by omega
   have hRd : Hid (R = done) := by show _ = _; rw [H.out, List.drop_length, Lx.tokR_nil, List.append_nil]
   obtain ⟨Av, cv, rfl, hle, hvn⟩ := own_cap hown
   clear H
   go_wp2_with fail
   refine (tclip_walk Av done.length cv _ hle hvn).mono ?_
   rintro e w' ⟨rfl, rfl⟩
   go_wp2_with fail
   go_ret
   rw [hRd.out]
   exact ⟨Av, rfl, ⟨cv, hown⟩, hb⟩
structure Calm (w w' : World) : Prop where
 os : w'.os = w.os
 tape : w'.tape = w.tape
 output : w'.output = w.output
theorem Calm.refl (w : World) : Calm w w := ⟨rfl, rfl, rfl⟩
theorem Calm.trans {w w1 w' : World} (h : Calm w w1) (h' : Calm w1 w') : Calm w w' := ⟨h'.os.trans h.os, h'.tape.trans h.tape, h'.output.trans h.output⟩
theorem Calm.below {B : Nat} {w w' : World} (h : Below B w w') : Calm w w' := ⟨h.os, h.tape, h.output⟩
theorem Calm.set (w : World) (a : Addr) (v : Value) : Calm w (w.setCell a v) := by
 cases a with | mk b o k => exact ⟨rfl, rfl, rfl⟩
structure Aft (K : Nat → Prop) (g : Nat) (w w' : World) : Prop where
 size : w.heap.size ≤ w'.heap.size
 oth : ∀ x, K x → x ≠ g → w'.heap[x]? = w.heap[x]?
 calm : Calm w w'
def Old (w : World) : Nat → Prop := fun x => x < w.heap.size
def In (K : Nat → Prop) (w : World) : Prop := ∀ x, K x → x < w.heap.size
section
variable {K K' : Nat → Prop} {g : Nat} {w w' w1 : World}
theorem Aft.refl (K : Nat → Prop) (g : Nat) (w : World) : Aft K g w w := ⟨Nat.le_refl _, fun _ _ _ => rfl, Calm.refl w⟩
theorem Aft.mono (h : Aft K g w w') (hK : ∀ x, K' x → K x) : Aft K' g w w' := ⟨h.size, fun x hx hg => h.oth x (hK x hx) hg, h.calm⟩
theorem Aft.trans (h : Aft K g w w1) (h' : Aft K g w1 w') : Aft K g w w' := ⟨Nat.le_trans h.size h'.size, fun x hx hg => (h'.oth x hx hg).trans (h.oth x hx hg), h.calm.trans h'.calm⟩
theorem In.after (h : In K w) (ha : w.heap.size ≤ w'.heap.size) : In K w' := fun x hx => Nat.lt_of_lt_of_le (h x hx) ha
theorem Old.in_ (w : World) : In (Old w) w := fun _ h => h
theorem Aft.old (h : Aft (Old w) g w w') (hK : In K w) : Aft K g w w' := h.mono fun x hx => hK x hx
theorem Aft.next (h : Aft K g w w1) (h' : Aft (Old w1) g w1 w') (hK : In K w) : Aft K g w w' := h.trans (h'.old (hK.after h.size))
theorem Aft.below (h : Below w.heap.size w w') (hK : In K w) : Aft K g w w' := ⟨h.size, fun x hx _ => h.block x (hK x hx), Calm.below h⟩
theorem Aft.drewN (h : Aft K g w w') (n : Nat) : Aft K g w (w'.drewN n) := ⟨h.size, h.oth, h.calm.os, h.calm.tape, h.calm.output⟩
theorem Aft.drew (h : Aft K g w w') : Aft K g w w'.drew := ⟨h.size, h.oth, h.calm.os, h.calm.tape, h.calm.output⟩
theorem Aft.set (h : Aft K g w w') (i : Nat) (v : Value) : Aft K g w (w'.setCell ⟨g, i, none⟩ v) :=
 ⟨by have := h.size; simpa [World.setCell] using this, fun x hx hg => (Below.heap_setCell w' ⟨g, i, none⟩ v x hg).trans (h.oth x hx hg), h.calm.trans (Calm.set w' _ v)⟩
theorem Aft.alloc (h : Aft K g w w') (hK : In K w) (o : Obj) : Aft K g w (w'.alloc o) :=
 ⟨by have := h.size; simp; omega, fun x hx hg => (Below.heap_alloc w' o x (Nat.lt_of_lt_of_le (hK x hx) h.size)).trans (h.oth x hx hg), h.calm.trans ⟨rfl, rfl, rfl⟩⟩
theorem Blk.aft {b : Nat} {t : TypeId} {cs : Array Value} (h : Blk w b t cs) (ha : Aft K g w w') (hb : K b) (hg : b ≠ g) : Blk w' b t cs := (ha.oth b hb hg).trans h
end
def RowF (w : World) (F : Nat → Prop) (A : Option Addr) (vs : List Value) : Prop :=
 0 < vs.length → ∃ b o, A = some ⟨b, o, none⟩ ∧ F b ∧ b < w.heap.size ∧ ∀ j u, vs[j]? = some u → w.cell? ⟨b, o + j, none⟩ = some u
theorem RowF.keep {w w' : World} {F F' : Nat → Prop} {A : Option Addr} {vs : List Value} (h : RowF w F A vs) (hs : w.heap.size ≤ w'.heap.size) (hk : ∀ b, F b → b < w.heap.size → w'.heap[b]? = w.heap[b]? ∧ F' b) : RowF w' F' A vs := fun hn => by
 obtain ⟨b, o, e, hF, hl, hc⟩ := h hn
 have := hk b hF hl
 exact ⟨b, o, e, this.2, by omega, fun j u hu => (World.cell?_of_block (a := ⟨b, o + j, none⟩) this.1).trans (hc j u hu)⟩
mutual
def PtF (w : World) (F : Nat → Prop) : Tr.PT → Value → Prop
 | .leaf k t a, v => ∃ g, v = .iface 171 (.pointer (some ⟨g, 0, none⟩)) ∧ F g ∧ Blk w g 173 #[.int .i64 (k : Int), .string ⟨t.toArray⟩, .int .i64 (a : Int)]
 | .gap t a d, v => ∃ g, v = .iface 176 (.pointer (some ⟨g, 0, none⟩)) ∧ F g ∧ Blk w g 308 #[.string ⟨t.toArray⟩, .int .i64 (a : Int), .bool d]
 | .branch k a l, v => ∃ g, v = .iface 114 (.pointer (some ⟨g, 0, none⟩)) ∧ F g ∧ ∃ A c vs, Blk w g 178 #[.int .i64 (k : Int), .slice A l.length c, .int .i64 (a : Int)] ∧ l.length ≤ c ∧ RowF w F A vs ∧ PtsF w F l vs
def PtsF (w : World) (F : Nat → Prop) : List Tr.PT → List Value → Prop
 | [], vs => vs = []
 | p :: l, vs => ∃ v vs', vs = v :: vs' ∧ PtF w F p v ∧ PtsF w F l vs'
end
section
variable {w w' : World} {F F' : Nat → Prop}
mutual
theorem PtF.keep (hs : w.heap.size ≤ w'.heap.size) (hk : ∀ b, F b → b < w.heap.size → w'.heap[b]? = w.heap[b]? ∧ F' b) : ∀ (p : Tr.PT) (v : Value), PtF w F p v → PtF w' F' p v
 | .leaf k t a, v, h => by
  obtain ⟨g, e, hF, hB⟩ := h
  have := hk g hF hB.lt
  exact ⟨g, e, this.2, this.1.trans hB⟩
 | .gap t a d, v, h => by
  obtain ⟨g, e, hF, hB⟩ := h
  have := hk g hF hB.lt
  exact ⟨g, e, this.2, this.1.trans hB⟩
 | .branch k a l, v, h => by
  obtain ⟨g, e, hF, A, c, vs, hB, hc, hr, hp⟩ := h
  have := hk g hF hB.lt
  exact ⟨g, e, this.2, A, c, vs, this.1.trans hB, hc, hr.keep hs hk, PtsF.keep hs hk l vs hp⟩
theorem PtsF.keep (hs : w.heap.size ≤ w'.heap.size) (hk : ∀ b, F b → b < w.heap.size → w'.heap[b]? = w.heap[b]? ∧ F' b) : ∀ (l : List Tr.PT) (vs : List Value), PtsF w F l vs → PtsF w' F' l vs
 | [], vs, h => h
 | p :: l, vs, h => by
  obtain ⟨v, vs', e, hp, hl⟩ := h
  exact ⟨v, vs', e, PtF.keep hs hk p v hp, PtsF.keep hs hk l vs' hl⟩
end
theorem PtsF.len : ∀ {l : List Tr.PT} {vs : List Value}, PtsF w F l vs → vs.length = l.length
 | [], vs, h => by have : vs = [] := h; subst this; rfl
 | p :: l, vs, h => by
  obtain ⟨v, vs', rfl, hp, hl⟩ := h
  rw [List.length_cons, List.length_cons, PtsF.len hl]
theorem PtsF.app : ∀ {l m : List Tr.PT} {vs us : List Value}, PtsF w F l vs → PtsF w F m us → PtsF w F (l ++ m) (vs ++ us)
 | [], m, vs, us, h, hm => by have : vs = [] := h; subst this; exact hm
 | p :: l, m, vs, us, h, hm => by
  obtain ⟨v, vs', rfl, hp, hl⟩ := h
  exact ⟨v, vs' ++ us, rfl, hp, PtsF.app hl hm⟩
theorem PtsF.one {p : Tr.PT} {v : Value} (h : PtF w F p v) : PtsF w F [p] [v] := ⟨v, [], rfl, h, rfl⟩
theorem PtsF.at_ : ∀ {l : List Tr.PT} {vs : List Value} {i : Nat}, PtsF w F l vs → ∀ (h : i < l.length), ∃ v, vs[i]? = some v ∧ PtF w F l[i] v
 | [], _, _, _, h => absurd h (by simp)
 | p :: l, vs, 0, hp, _ => by
  obtain ⟨v, vs', rfl, h, _⟩ := hp
  exact ⟨v, rfl, h⟩
 | p :: l, vs, i + 1, hp, h => by
  obtain ⟨v, vs', rfl, _, hl⟩ := hp
  have := PtsF.at_ (i := i) hl (by simpa using h)
  simpa using this
end
theorem PtF.on {w w' : World} {K : Nat → Prop} {g : Nat} {p : Tr.PT} {v : Value} {F : Nat → Prop} (h : PtF w F p v) (ha : Aft K g w w') (hK : ∀ x, F x → x < w.heap.size → K x ∧ x ≠ g) : PtF w' F p v :=
 PtF.keep ha.size (fun b hb hl => ⟨ha.oth b (hK b hb hl).1 (hK b hb hl).2, hb⟩) p v h
structure OB (w : World) (K : Nat → Prop) (h : Nat) (kind at_ : Nat) (pts : List Tr.PT) (A : Option Addr) (c : Nat) (vs : List Value) : Prop where
 nk : ¬ K h
 blk : Blk w h 178 #[.int .i64 (kind : Int), .slice A pts.length c, .int .i64 (at_ : Int)]
 own : w.ownsRow 0 122 1 (.slice A pts.length c) pts.length vs
 nr : ∀ q, (Value.slice A pts.length c).ownBlock = some q → ¬ K q
 parts : PtsF w (fun x => ¬ K x ∧ x ≠ h ∧ some x ≠ (Value.slice A pts.length c).ownBlock) pts vs
def Br (w : World) (K : Nat → Prop) (h : Nat) (kind at_ : Nat) (pts : List Tr.PT) : Prop := ∃ A c vs, OB w K h kind at_ pts A c vs
section
variable {w w' : World} {K K' : Nat → Prop} {g h kind at_ : Nat} {pts : List Tr.PT} {A : Option Addr} {c : Nat} {vs : List Value}
theorem OB.row_lt (hb : OB w K h kind at_ pts A c vs) : ∀ q, (Value.slice A pts.length c).ownBlock = some q → q < w.heap.size := fun q hq => (hb.own.lt q hq).2
theorem OB.row_ne (hb : OB w K h kind at_ pts A c vs) : some h ≠ (Value.slice A pts.length c).ownBlock := own_ne hb.own hb.blk (by decide)
theorem OB.aft (hb : OB w K h kind at_ pts A c vs) (ha : Aft K' g w w') (hg : K g) (hK : ∀ x, x < w.heap.size → K' x) : OB w' K h kind at_ pts A c vs := by
 have hne : ∀ x, ¬ K x → x ≠ g := fun x hx e => hx (e ▸ hg)
 exact ⟨hb.nk, hb.blk.aft ha (hK _ hb.blk.lt) (hne _ hb.nk), own_of_block hb.own fun q hq => ha.oth q (hK _ (hb.row_lt q hq)) (hne _ (hb.nr q hq)), hb.nr,
  PtsF.keep ha.size (fun b hF hl => ⟨ha.oth b (hK b hl) (hne _ hF.1), hF⟩) _ _ hb.parts⟩
theorem Br.aft (hb : Br w K h kind at_ pts) (ha : Aft (Old w) g w w') (hg : K g) : Br w' K h kind at_ pts := by
 obtain ⟨A, c, vs, hb⟩ := hb
 exact ⟨A, c, vs, hb.aft ha hg fun x hx => hx⟩
theorem Br.lt (hb : Br w K h kind at_ pts) : h < w.heap.size := by
 obtain ⟨A, c, vs, hb⟩ := hb
 exact hb.blk.lt
theorem Br.nk (hb : Br w K h kind at_ pts) : ¬ K h := by
 obtain ⟨A, c, vs, hb⟩ := hb
 exact hb.nk
theorem Br.part (hb : Br w K h kind at_ pts) : PtF w (fun x => ¬ K x) (.branch kind at_ pts) (.iface 114 (.pointer (some ⟨h, 0, none⟩))) := by
 obtain ⟨A, c, vs, hb⟩ := hb
 refine ⟨h, rfl, hb.nk, A, c, vs, hb.blk, ?_, ?_, ?_⟩
 ·rcases hb.own.2 with ⟨e, e2⟩ | ⟨q, cap, cur, e, _, _, hle, _⟩
  ·injection e; omega
  ·injection e with _ _ e3; omega
 ·intro hn
  rcases hb.own.2 with ⟨e, e2⟩ | ⟨q, cap, cur, e, _, hq, hle, _, hz, hx⟩
  ·have := hb.own.1; omega
  ·injection e with e1 e2 e3
   subst e1
   refine ⟨q, 0, rfl, hb.nr q rfl, lt_heap hq, fun j u hu => ?_⟩
   rw [Nat.zero_add]
   have h0 := hb.own
   subst e3
   exact own_cell h0 j u hu
 ·exact PtsF.keep (Nat.le_refl _) (fun b hF _ => ⟨rfl, hF.1⟩) _ _ hb.parts
theorem Br.new {w : World} {K : Nat → Prop} (hK : In K w) (kind at_ : Nat) : Br (w.alloc (.cells #[.int .i64 (kind : Int), .slice none 0 0, .int .i64 (at_ : Int)] 178)) K w.heap.size kind at_ [] :=
 ⟨none, 0, [], ⟨fun h => Nat.lt_irrefl _ (hK _ h), Blk.new _ _ _, World.ownsRow_nil _ _ _ _, fun q hq => by simp [Value.ownBlock] at hq, rfl⟩⟩
end
structure TrAt (w : World) (K : Nat → Prop) (g gt : Nat) (s : Bs) (T : List Tk) : Prop where
 kg : K g
 kt : K gt
 ne : gt ≠ g
 ex : ∃ d A c D E vk vt, Blk w gt 131 #[.pointer (some ⟨d, 0, none⟩), .slice A T.length c, vk, vt] ∧ K d ∧ d ≠ g ∧ Blk w d 202 #[.string ⟨s.toArray⟩, D] ∧ RowF w (fun x => K x ∧ x ≠ g) A (tksC T) ∧ E = ()
theorem TrAt.aft {w w' : World} {K : Nat → Prop} {g gt : Nat} {s : Bs} {T : List Tk} (h : TrAt w K g gt s T) (ha : Aft K g w w') : TrAt w' K g gt s T := by
 obtain ⟨d, A, c, D, E, vk, vt, h1, h2, h3, h4, h5, h6⟩ := h.ex
 exact ⟨h.kg, h.kt, h.ne, d, A, c, D, E, vk, vt, h1.aft ha h.kt h.ne, h2, h3, h4.aft ha h2 h3, h5.keep ha.size fun b hb _ => ⟨ha.oth b hb.1 hb.2, hb⟩, h6⟩
theorem TrAt.mono {w : World} {K K' : Nat → Prop} {g gt : Nat} {s : Bs} {T : List Tk} (h : TrAt w K g gt s T) (hK : ∀ x, K x → K' x) : TrAt w K' g gt s T := by
 obtain ⟨d, A, c, D, E, vk, vt, h1, h2, h3, h4, h5, h6⟩ := h.ex
 exact ⟨hK _ h.kg, hK _ h.kt, h.ne, d, A, c, D, E, vk, vt, h1, hK _ h2, h3, h4, h5.keep (Nat.le_refl _) fun b hb _ => ⟨rfl, hK _ hb.1, hb.2⟩, h6⟩
structure Rs3 (w : World) (K : Nat → Prop) (g gt : Nat) (s : Bs) (T : List Tk) (b n i : Nat) : Prop where
 rd : Blk w g 205 #[.pointer (some ⟨gt, 0, none⟩), .int .i64 (i : Int), .int .i64 (b : Int), .int .i64 (n : Int)]
 tr : TrAt w K g gt s T
theorem Rs3.aft {w w' : World} {K : Nat → Prop} {g gt : Nat} {s : Bs} {T : List Tk} {b n i b' n' i' : Nat} (h : Rs3 w K g gt s T b n i) (ha : Aft K g w w')
  (hr : Blk w' g 205 #[.pointer (some ⟨gt, 0, none⟩), .int .i64 (i' : Int), .int .i64 (b' : Int), .int .i64 (n' : Int)]) : Rs3 w' K g gt s T b' n' i' := ⟨hr, h.tr.aft ha⟩
theorem Rs3.mono {w : World} {K K' : Nat → Prop} {g gt : Nat} {s : Bs} {T : List Tk} {b n i : Nat} (h : Rs3 w K g gt s T b n i) (hK : ∀ x, K x → K' x) : Rs3 w K' g gt s T b n i := ⟨h.rd, h.tr.mono hK⟩
theorem Rs3.below {w w' : World} {K : Nat → Prop} {g gt : Nat} {s : Bs} {T : List Tk} {b n i : Nat} (h : Rs3 w K g gt s T b n i) (hb : Below w.heap.size w w') (hK : In K w) : Rs3 w' K g gt s T b n i :=
 ⟨h.rd.below hb h.rd.lt, h.tr.aft (Aft.below hb hK)⟩
theorem RowF.tk {w : World} {F : Nat → Prop} {A : Option Addr} {T : List Tk} {k : Nat} (h : RowF w F A (tksC T)) (hk : k < T.length) :
  ∃ b o, A = some ⟨b, o, none⟩ ∧ F b ∧ b < w.heap.size ∧ w.cell? ⟨b, o + k * 3, none⟩ = some (.int .i64 (T[k].1 : Int)) ∧ w.cell? ⟨b, o + k * 3 + 1, none⟩ = some (.int .i64 (T[k].2.1 : Int)) ∧ w.cell? ⟨b, o + k * 3 + 2, none⟩ = some (.int .i64 (T[k].2.2 : Int)) := by
 have hl := tksC_len T
 obtain ⟨b, o, e, hF, hb, hc⟩ := h (by omega)
 refine ⟨b, o, e, hF, hb, ?_, ?_, ?_⟩
 ·exact hc (k * 3) _ (by have := tksC_get T k 0 (by omega) hk; simpa [tkC] using this)
 ·have := hc (k * 3 + 1) _ (by have := tksC_get T k 1 (by omega) hk; simpa [tkC] using this)
  rwa [← Nat.add_assoc] at this
 ·have := hc (k * 3 + 2) _ (by have := tksC_get T k 2 (by omega) hk; simpa [tkC] using this)
  rwa [← Nat.add_assoc] at this
theorem blank_walk (k : Nat) (w : World) : Calls Tryz.prog 137 #[.int .i64 (k : Int)] w fun e w' => e = .returned (.bool (k == 1 || k == 2)) ∧ w' = w := by
 by_cases h1 : k = 1
 ·subst h1
  go_enter Tryz.func137, Tryz.ntmps137
  go_wp2
  go_ret
  exact ⟨rfl, rfl⟩
 ·have e1 : ((k : Int) == 1) = false := by simp; omega
  have f1 : (k == 1) = false := by simpa using h1
  rw [f1, Bool.false_or]
  by_cases h2 : k = 2
  ·subst h2
   go_enter Tryz.func137, Tryz.ntmps137
   go_wp2
   go_ret
   exact ⟨rfl, rfl⟩
  ·have e2 : ((k : Int) == 2) = false := by simp; omega
   have f2 : (k == 2) = false := by simpa using h2
   rw [f2]
   clear h1 h2 f1 f2
   go_enter Tryz.func137, Tryz.ntmps137
   go_wp2
   go_ret
   exact ⟨rfl, rfl⟩
theorem Rs3.cells {w : World} {K : Nat → Prop} {g gt : Nat} {s : Bs} {T : List Tk} {b n i : Nat} (h : Rs3 w K g gt s T b n i) :
  w.cell? ⟨g, 0, none⟩ = some (.pointer (some ⟨gt, 0, none⟩)) ∧ w.cell? ⟨g, 1, none⟩ = some (.int .i64 (i : Int)) ∧ w.cell? ⟨g, 2, none⟩ = some (.int .i64 (b : Int)) ∧ w.cell? ⟨g, 3, none⟩ = some (.int .i64 (n : Int)) := by
 have c0 := h.rd.cell 0
 have c1 := h.rd.cell 1
 have c2 := h.rd.cell 2
 have c3 := h.rd.cell 3
 simp at c0 c1 c2 c3
 exact ⟨c0, c1, c2, c3⟩
theorem TrAt.cells {w : World} {K : Nat → Prop} {g gt : Nat} {s : Bs} {T : List Tk} (h : TrAt w K g gt s T) :
  ∃ d A c, w.cell? ⟨gt, 0, none⟩ = some (.pointer (some ⟨d, 0, none⟩)) ∧ w.cell? ⟨gt, 1, none⟩ = some (.slice A T.length c) ∧ w.cell? ⟨d, 0, none⟩ = some (.string ⟨s.toArray⟩) ∧ RowF w (fun x => K x ∧ x ≠ g) A (tksC T) := by
 obtain ⟨d, A, c, D, E, vk, vt, h1, h2, h3, h4, h5, h6⟩ := h.ex
 have c0 := h1.cell 0
 have c1 := h1.cell 1
 have d0 := h4.cell 0
 simp at c0 c1 d0
 exact ⟨d, A, c, c0, c1, d0, h5⟩
set_option maxHeartbeats 2000000 in
set_option maxRecDepth 100000 in
theorem next_walkT {w : World} {K : Nat → Prop} {g gt : Nat} {s : Bs} {T : List Tk} {b n i : Nat} (hS : Rs3 w K g gt s T b n i) (hi : i ≤ T.length) (hT : T.length ≤ 8388608) :
  Calls Tryz.prog 104 #[.pointer (some ⟨g, 0, none⟩)] w fun e w' => e = .returned (.int .i64 (Tr.nextP T i : Int)) ∧ w' = w := by
 obtain ⟨g0, g1, _, _⟩ := hS.cells
 obtain ⟨d, A, c, t0, t1, _, hrow⟩ := hS.tr.cells
 clear hS
 generalize hR : Tr.nextP T i = R
 have HR := Lib.hid hR
 clear hR
 go_enter Tryz.func104, Tryz.ntmps104
 go_wp2
 go_loop [3] (fun v => ∃ k : Nat, k ≤ T.length ∧ v = .int .i64 k ∧ Hid (Tr.nextP T k = R)) (fun v => T.length - (intOf v).toNat)
 case atStart => exact ⟨i, hi, rfl, HR⟩
 case round =>
  obtain ⟨k, hk, rfl, Hk⟩ := hrel
  have i0 : (0 : Int) ≤ (k : Int) := by omega
  by_cases hlt : k < T.length
  ·have i1 : (k : Int) < (T.length : Int) := by omega
   obtain ⟨br, o, rfl, _, _, q0, _, _⟩ := hrow.tk hlt
   have Hgo : Hid (Tr.blankT T[k] = true → Tr.nextP T (k + 1) = R) := fun h => by rw [← Tr.next_go T k hlt h]; exact Hk.out
   have Hst : Hid (Tr.blankT T[k] = false → R = k) := fun h => by rw [← Hk.out]; exact Tr.next_stop T k hlt h
   have Hbt : Hid (Tr.blankT T[k] = (T[k].1 == 1 || T[k].1 == 2)) := rfl
   have hbw := fun w => blank_walk T[k].1 w
   generalize T[k].1 = kd at *
   cases hb : (kd == 1 || kd == 2) with
   | true =>
    rw [hb] at hbw Hbt
    have Hb := Hgo.out Hbt.out
    clear hb Hbt Hgo Hst HR
    have Hb := Lib.hid Hb
    go_wp2_with (refine (hbw _).mono ?_; rintro e w' ⟨rfl, rfl⟩)
    go_round
    case rel => exact ⟨k + 1, by omega, by go_num, Hb⟩
    case measure => simp [intOf]; omega
   | false =>
    rw [hb] at hbw Hbt
    have Hb := Hst.out Hbt.out
    clear hb Hbt Hgo Hst HR Hk
    have Hb := Lib.hid Hb
    go_wp2_with (refine (hbw _).mono ?_; rintro e w' ⟨rfl, rfl⟩)
    go_ret
    exact ⟨by rw [Hb.out]; rfl, rfl⟩
  ·have i1 : ¬ (k : Int) < (T.length : Int) := by omega
   have Hb : Hid (R = k) := by show _ = _; rw [← Hk.out]; exact Tr.next_end T k (by omega)
   clear Hk HR hlt
   go_wp2
   go_ret
   exact ⟨by rw [Hb.out]; rfl, rfl⟩
set_option maxHeartbeats 1000000 in
set_option maxRecDepth 100000 in
theorem ttext_walk {w : World} {gt d : Nat} {s : Bs} (t0 : w.cell? ⟨gt, 0, none⟩ = some (.pointer (some ⟨d, 0, none⟩))) (d0 : w.cell? ⟨d, 0, none⟩ = some (.string ⟨s.toArray⟩)) :
  Calls Tryz.prog 106 #[.pointer (some ⟨gt, 0, none⟩)] w fun e w' => e = .returned (.string ⟨s.toArray⟩) ∧ w' = w := by
 have hd : Calls Tryz.prog 153 #[.pointer (some ⟨d, 0, none⟩)] w fun e w' => e = .returned (.string ⟨s.toArray⟩) ∧ w' = w := by
  go_enter Tryz.func153, Tryz.ntmps153
  go_wp2
  go_ret
  exact ⟨rfl, rfl⟩
 go_enter Tryz.func106, Tryz.ntmps106
 go_wp2_with (refine hd.mono ?_; rintro e w' ⟨rfl, rfl⟩)
 go_ret
 exact ⟨rfl, rfl⟩
theorem Tr.Good.at_ {s : List UInt8} {T : List Tk} (h : Tr.Good s T) {k : Nat} (hk : k < T.length) : T[k].2.1 + T[k].2.2 ≤ s.length ∧ 1 ≤ T[k].1 ∧ T[k].1 ≤ 8 := h.in_ _ (List.getElem_mem hk)
theorem sub_str (s : Bs) (t : Tk) : Value.string ((⟨s.toArray⟩ : ByteArray).extract t.2.1 (t.2.1 + t.2.2)) = .string ⟨(Tr.subT s t).toArray⟩ := by
 rw [ext_str]
 unfold strV Tr.subT
 congr 3
 rw [List.drop_take, Nat.add_sub_cancel_left]
set_option maxHeartbeats 4000000 in
set_option maxRecDepth 100000 in
theorem text_walkT {w : World} {K : Nat → Prop} {g gt : Nat} {s : Bs} {T : List Tk} {b n i : Nat} (k : Nat) (hS : Rs3 w K g gt s T b n i) (hG : Tr.Good s T) (hs : s.length ≤ 8388608) (hk : k ≤ 8388608) :
  Calls Tryz.prog 196 #[.pointer (some ⟨g, 0, none⟩), .int .i64 (k : Int)] w fun e w' => e = .returned (.tuple #[.int .i64 (Tr.kindP T k : Int), .string ⟨(Tr.textP s T k).toArray⟩]) ∧ Below w.heap.size w w' := by
 obtain ⟨g0, g1, _, _⟩ := hS.cells
 obtain ⟨d, A, c, t0, t1, d0, hrow⟩ := hS.tr.cells
 have hgl := hS.rd.lt
 clear hS
 have i0 : (0 : Int) ≤ (k : Int) := by omega
 by_cases hlt : k < T.length
 ·have i1 : (k : Int) < (T.length : Int) := by omega
  obtain ⟨br, o, rfl, _, hbl, q0, q1, q2⟩ := hrow.tk hlt
  obtain ⟨h1, h2, h3⟩ := hG.at_ hlt
  have Hk := Lib.hid (Tr.kind_at T k hlt)
  have Ht := Lib.hid (Tr.text_at s T k hlt)
  have Hsub := Lib.hid (sub_str s T[k])
  generalize Tr.kindP T k = kk at *
  generalize Tr.textP s T k = tt at *
  generalize T[k] = t at *
  obtain ⟨tk, ta, tl⟩ := t
  dsimp only at h1 h2 h3 q0 q1 q2
  have hgt := World.block_lt_of_cell? w ⟨gt, 0, none⟩ t0
  have hd := World.block_lt_of_cell? w ⟨d, 0, none⟩ d0
  have hb0 : Below w.heap.size w (w.alloc (.cells #[.int .i64 (tk : Int), .int .i64 (ta : Int), .int .i64 (tl : Int)] 127)) := (Below.refl _ _).alloc (Nat.le_refl _) _
  have hB : Blk (w.alloc (.cells #[.int .i64 (tk : Int), .int .i64 (ta : Int), .int .i64 (tl : Int)] 127)) w.heap.size 127 #[.int .i64 (tk : Int), .int .i64 (ta : Int), .int .i64 (tl : Int)] := Blk.new _ _ _
  obtain ⟨bx, hbx⟩ : ∃ b, b = w.heap.size := ⟨_, rfl⟩
  rw [← hbx] at hB
  clear hrow
  go_enter Tryz.func196, Tryz.ntmps196
  go_upto_region 4 with fail
  rw [← hbx]
  have e0 := (hb0.cell (p := ⟨gt, 0, none⟩) hgt).trans t0
  have f0 := (hb0.cell (p := ⟨d, 0, none⟩) hd).trans d0
  have r0 := (hb0.cell (p := ⟨g, 0, none⟩) hgl).trans g0
  clear hbx g0 g1 t0 t1 d0 q0 q1 q2 hgt hd hbl hgl
  generalize w.alloc (.cells #[.int .i64 (tk : Int), .int .i64 (ta : Int), .int .i64 (tl : Int)] 127) = w1 at *
  have b0 := hB.cell 0
  have b1 := hB.cell 1
  have b2 := hB.cell 2
  simp at b0 b1 b2
  have a0 : IntKind.i64.wrap ((ta : Int) + tl) = (ta : Int) + tl := IntWalk.i64_in _ (by omega)
  have a1 : (0 : Int) ≤ (ta : Int) + tl := by omega
  have a2 : ((ta : Int) + tl).toNat = ta + tl := by omega
  have a3 : (ta : Int) + tl ≤ (s.length : Int) := by omega
  have a4 : (ta : Int) ≤ (ta : Int) + tl := by omega
  have a5 : ta ≤ ta + tl := by omega
  have a6 : ta + tl ≤ s.length := h1
  have htx := fun n => ttext_walk (w := w1.drewN n) (gt := gt) (d := d) (s := s) e0 f0
  go_quiet ((go_at_call 106; exact Calls.quiet_of_same (htx _)))
  go_wp2_with fail
  go_ret2
  exact ⟨by rw [Hk.out, Ht.out, ← Hsub.out]; rfl, below_drewN hb0 _⟩
 ·have i1 : (T.length : Int) ≤ (k : Int) := by omega
  rw [Tr.kind_end T k (by omega), Tr.text_end s T k (by omega)]
  clear hrow hG
  go_enter Tryz.func196, Tryz.ntmps196
  go_wp2
  go_ret2
  exact ⟨rfl, Below.refl _ _⟩
set_option maxHeartbeats 4000000 in
set_option maxRecDepth 100000 in
theorem place_walk {w : World} {K : Nat → Prop} {g gt : Nat} {s : Bs} {T : List Tk} {b n i : Nat} (hS : Rs3 w K g gt s T b n i) (hG : Tr.Good s T) (hb : b ≤ Tr.absP s T i) (hs : s.length ≤ 8388608) :
  Calls Tryz.prog 149 #[.pointer (some ⟨g, 0, none⟩)] w fun e w' => e = .returned (.int .i64 (Tr.placeP s T b i : Int)) ∧ ∃ m, w' = w.drewN m := by
 obtain ⟨g0, g1, g2, _⟩ := hS.cells
 obtain ⟨d, A, c, t0, t1, d0, hrow⟩ := hS.tr.cells
 clear hS
 have hal := hG.abs_le i
 have i0 : (0 : Int) ≤ (i : Int) := by omega
 by_cases hlt : i < T.length
 ·have i1 : (i : Int) < (T.length : Int) := by omega
  obtain ⟨br, o, rfl, _, hbl, q0, q1, q2⟩ := hrow.tk hlt
  have HP : Hid (Tr.placeP s T b i = Tr.absP s T i - b) := rfl
  rw [Tr.abs_at s T i hlt] at HP hb hal
  clear hrow hG
  generalize Tr.placeP s T b i = P at *
  generalize T[i] = t at *
  obtain ⟨tk, ta, tl⟩ := t
  dsimp only at hb hal q0 q1 q2 HP
  have a0 : IntKind.i64.wrap ((ta : Int) - b) = (ta : Int) - b := IntWalk.i64_in _ (by omega)
  have Hv : Hid ((ta : Int) - b = (P : Int)) := by show _ = _; rw [HP.out]; omega
  clear HP
  go_enter Tryz.func149, Tryz.ntmps149
  go_wp2_with fail
  go_quiet (fail)
  go_wp2_with fail
  go_quiet (fail)
  go_wp2_with fail
  go_ret
  exact ⟨by rw [← Hv.out]; rfl, _, World.drewN_drewN _ _ _⟩
 ·have i1 : ¬ (i : Int) < (T.length : Int) := by omega
  have HP : Hid (Tr.placeP s T b i = Tr.absP s T i - b) := rfl
  rw [Tr.abs_end s T i (by omega)] at HP hb
  clear hrow hG
  generalize Tr.placeP s T b i = P at *
  have a0 : IntKind.i64.wrap ((s.length : Int) - b) = (s.length : Int) - b := IntWalk.i64_in _ (by omega)
  have Hv : Hid ((s.length : Int) - b = (P : Int)) := by show _ = _; rw [HP.out]; omega
  clear HP hlt hal
  go_enter Tryz.func149, Tryz.ntmps149
  go_wp2_with fail
  go_quiet (fail)
  obtain ⟨w1, hw1⟩ : ∃ w1, w1 = World.drewN w nq := ⟨_, rfl⟩
  have k0 : w1.cell? ⟨g, 0, none⟩ = some (.pointer (some ⟨gt, 0, none⟩)) := by rw [hw1]; exact g0
  have k2 : w1.cell? ⟨g, 2, none⟩ = some (.int .i64 (b : Int)) := by rw [hw1]; exact g2
  have e0 : w1.cell? ⟨gt, 0, none⟩ = some (.pointer (some ⟨d, 0, none⟩)) := by rw [hw1]; exact t0
  have f0 : w1.cell? ⟨d, 0, none⟩ = some (.string ⟨s.toArray⟩) := by rw [hw1]; exact d0
  rw [← hw1]
  have Hw1 := Lib.hid hw1
  clear g0 g1 g2 t0 t1 d0 hw1
  have htx := fun n => ttext_walk (w := w1.drewN n) (gt := gt) (d := d) (s := s) e0 f0
  go_wp2_with fail
  go_quiet ((go_at_call 106; exact Calls.quiet_of_same (htx _)))
  go_wp2_with fail
  go_ret
  exact ⟨by rw [← Hv.out]; rfl, _, by rw [Hw1.out]; exact World.drewN_drewN _ _ _⟩
def IdxP8 (r : Int) (l : List Bs) (x : Bs) : Prop := decide (0 ≤ r) = l.contains x
set_option maxHeartbeats 1000000 in
set_option maxRecDepth 100000 in
theorem index_walk8 (A : Option Addr) (c : Nat) (l : List Bs) (x : Bs) (w : World) (h1 : Rd w w.heap.size 1 A l.length (txtV l)) (hl : l.length ≤ 8388608) :
  Calls Tryz.prog 227 #[.slice A l.length c, .string ⟨x.toArray⟩] w fun e w' => ∃ r : Int, e = .returned (.int .i64 r) ∧ IdxP8 r l x ∧ w' = w := by
 go_enter Tryz.func227, Tryz.ntmps227
 go_wp2_with fail
 go_loop [8] (fun i => ∃ k : Nat, k ≤ l.length ∧ i = .int .i64 k ∧ Hid (x ∉ l.take k)) (fun i => l.length - (intOf i).toNat)
 case atStart => exact ⟨0, Nat.zero_le _, rfl, by show _ ∉ _; simp⟩
 case round =>
  obtain ⟨k, hk, rfl, H⟩ := hrel
  by_cases hlt : k < l.length
  ·obtain ⟨b, o, rfl, hbB, c0⟩ := Rd.txt h1 hlt
   have i1 : (0 : Int) ≤ (k : Int) := by omega
   have i2 : (k : Int) < (l.length : Int) := by omega
   have Hst : Hid (x ≠ l[k] → x ∉ l.take (k + 1)) := fun h => by
    rw [List.take_succ_eq_append_getElem hlt, List.mem_append, List.mem_singleton]
    rintro (h2 | h2)
    ·exact H.out h2
    ·exact h h2
   have Hin : Hid (x = l[k] → l.contains x = true) := fun h => by rw [h]; simp
   unfold strV at c0
   generalize l[k] = y at *
   by_cases hxy : x = y
   ·have hc := Lib.hid (Hin.out hxy)
    subst hxy
    go_wp2_with fail
    go_ret
    exact ⟨_, rfl, by unfold IdxP8; rw [hc.out]; simp, rfl⟩
   ·have d1 : (x == y) = false := by simp [hxy]
    have Hn := Lib.hid (Hst.out hxy)
    clear hxy
    go_wp2_with fail
    go_round
    case rel => exact ⟨k + 1, by omega, by go_num, Hn.out⟩
    case measure => simp [intOf]; omega
  ·obtain rfl : k = l.length := by omega
   have hc : Hid (l.contains x = false) := by
    show _ = _
    have := H.out
    rw [List.take_length] at this
    simpa using this
   go_wp2_with fail
   go_ret
   exact ⟨_, rfl, by unfold IdxP8; rw [hc.out]; rfl, rfl⟩
set_option maxRecDepth 100000 in
theorem contains_walk8 (A : Option Addr) (c : Nat) (l : List Bs) (x : Bs) (w : World) (h1 : Rd w w.heap.size 1 A l.length (txtV l)) (hl : l.length ≤ 8388608) :
  Calls Tryz.prog 197 #[.slice A l.length c, .string ⟨x.toArray⟩] w fun e w' => e = .returned (.bool (l.contains x)) ∧ w' = w := by
 have hI := index_walk8 A c l x w h1 hl
 go_enter Tryz.func197, Tryz.ntmps197
 go_wp2_with fail
 refine hI.mono ?_
 clear hI
 rintro e w' ⟨r, rfl, Hr, rfl⟩
 go_wp2_with fail
 go_ret
 exact ⟨by rw [← show decide (0 ≤ r) = l.contains x from Hr]; rfl, rfl⟩
end Go.Proofs.YtcjjfeephaddcaaGreatDoor
