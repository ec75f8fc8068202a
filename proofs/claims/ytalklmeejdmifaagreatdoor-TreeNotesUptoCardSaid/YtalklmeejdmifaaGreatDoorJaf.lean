/-
  JOINED of the texts LC LJ
-/
import Derived.Test.YtalklmeejdmifaaGreatDoorJab
import Derived.WalkMore
import Derived.ScopeJumps
import Derived.Test.YtalklmeejdmifaaGreatDoorShelfX
import Derived.Shelf.Spec.BytesIndexFunc
import Derived.Deep.RegionHeld3
import Derived.Deep.DeepCutAuto
import Derived.Lib.IndexMore
import Derived.Lib.Strings
import Derived.Test.YtalklmeejdmifaaGreatDoorRows
import Derived.WalkKit
import Derived.WalkSpells
import Derived.WalkLawsBesides
import Derived.Below
import Derived.Laws.OwnMore
import Derived.Deep.AppendLies
import Derived.Deep.Draws
import Derived.Lib.Hide
import Derived.Deep.QuietTactic
import Derived.BigQuiet
import Derived.IntWalk
import Derived.Lib.RuneBytes
import Derived.Test.YtalklmeejdmifaaGreatDoorJae
import Derived.Lib.ConvBytes
import Derived.Laws.Strings3
import Derived.Laws.Closers25
import Derived.Laws.Closers25b
import Derived.BigCall
import Derived.BigGuard
import Derived.Test.YtalklmeejdmifaaGreatDoorShelfW
import Derived.Shelf.Strings.SlTrimAscii
import Derived.Lib.LaidTab
import Derived.Lib.AtoiAll
import Derived.Lib.IndexLaws
import Derived.Lib.SlTrimSet
import Derived.Lib.ItoaNum
import Derived.Lib.Atoi
/-
  THE WALK of package lex's remark: a loop by goto.
-/
namespace Go.Proofs.YtalklmeejdmifaaGreatDoor
open Go.RowKit

theorem rem_short (d : Nat) (l : Bs) (h : l.length ≤ 1) : Lx.remM d l = none := by
  rcases l with _ | ⟨a, _ | ⟨b, t⟩⟩
  · simp [Lx.remM]
  · simp [Lx.remM]
  · simp at h
theorem rem_two (d : Nat) (s : Bs) (i : Nat) (h : i + 1 < s.length) : Lx.remM d (s.drop i) =
    if s[i] = 123 ∧ s[i + 1] = 45 then (Lx.remM (d + 1) (s.drop (i + 2))).map (· + 2)
    else if s[i] = 45 ∧ s[i + 1] = 125 then (if d = 1 then some 2 else (Lx.remM (d - 1) (s.drop (i + 2))).map (· + 2))
    else (Lx.remM d (s.drop (i + 1))).map (· + 1) := by
  have e1 : s.drop i = s[i] :: s[i + 1] :: s.drop (i + 2) := by
    rw [List.drop_eq_getElem_cons (by omega), List.drop_eq_getElem_cons (by omega)]
  have e2 : s.drop (i + 1) = s[i + 1] :: s.drop (i + 2) := List.drop_eq_getElem_cons (by omega)
  rw [e1, e2, Lx.remM]
theorem two_eq (s : Bs) (i : Nat) (h : i + 1 < s.length) (a b : UInt8) : (((⟨s.toArray⟩ : ByteArray).extract i (i + 2)).toList == [a, b]) = decide (s[i] = a ∧ s[i + 1] = b) := by
  have e : ((⟨s.toArray⟩ : ByteArray).extract i (i + 2)).toList = [s[i], s[i + 1]] := by
    rw [Lib.toList_data, ext_data, show i + 2 - i = 2 by omega]
    show (s.drop i).take 2 = _
    rw [List.drop_eq_getElem_cons (by omega), List.drop_eq_getElem_cons (by omega)]
    rfl
  rw [e, Bool.eq_iff_iff]
  simp

set_option maxHeartbeats 2000000 in
set_option maxRecDepth 1000000 in
theorem remark_walk (s : Bs) (w : World) (hs : [123, 45].isPrefixOf s = true) (hl : s.length ≤ 100000000) :
    Calls Tryz.prog 168 #[.string ⟨s.toArray⟩] w fun e w' => e = .returned (.tuple #[.int .i64 (match Lx.remM 1 (s.drop 2) with | some k => ((k + 2 : Nat) : Int) | none => (s.length : Int)), .bool (Lx.remM 1 (s.drop 2)).isSome]) ∧ w' = w := by
  obtain ⟨t, rfl⟩ := Lx.prefix_two hs
  clear hs
  generalize hS : (123 :: 45 :: t : Bs) = s at *
  have h2 : 2 ≤ s.length := by rw [← hS]; simp
  have f1 : (((⟨s.toArray⟩ : ByteArray).extract 0 2).toList == [123, 45]) = true := by
    rw [two_eq s 0 (by omega)]; subst hS; rfl
  clear hS t
  generalize hR : Lx.remM 1 (s.drop 2) = R
  have HR := Lib.hid hR
  clear hR
  go_enter Tryz.func168, Tryz.ntmps168
  go_wp2
  refine wp_scope_jumps 0 (fun a' w' => w' = w ∧ ∃ (d i : Nat) (u6 u7 u8 u9 u10 u11 u12 u13 u14 u15 u16 u17 u18 u19 u20 u21 u22 u23 u24 u25 u26 u27 u28 u29 u30 u31 u32 u33 u34 : Value), a' = { tmps := #[.string ⟨s.toArray⟩, undef, .int .i64 0, .bool false, .int .i64 d, .int .i64 i, u6, u7, u8, u9, u10, u11, u12, u13, u14, u15, u16, u17, u18, u19, u20, u21, u22, u23, u24, u25, u26, u27, u28, u29, u30, u31, u32, u33, u34], defers := [] } ∧ 1 ≤ d ∧ d ≤ i ∧ 2 ≤ i ∧ i ≤ s.length ∧ Hid (R = (Lx.remM d (s.drop i)).map (· + (i - 2)))) (fun a' _ => s.length - (intOf (a'.tmps.getD 5 undef)).toNat) rfl ?_ ?_
  · have i1 : ¬ (s.length : Int) ≤ 1 := by omega
    have i2 : (2 : Int) ≤ (s.length : Int) := by omega
    go_wp2
    go_step3
    go_wp2
    go_step3
    refine ⟨rfl, rfl, 1, 2, _, _, _, _, _, _, _, _, _, _, _, _, _, _, _, _, _, _, _, _, _, _, _, _, _, _, _, _, _, rfl, by omega, by omega, by omega, h2, ?_⟩
    show _ = _
    rw [HR.out]
    cases R <;> rfl
  · rintro a' w' ⟨rfl, d, i, u6, u7, u8, u9, u10, u11, u12, u13, u14, u15, u16, u17, u18, u19, u20, u21, u22, u23, u24, u25, u26, u27, u28, u29, u30, u31, u32, u33, u34, rfl, hd1, hdi, hi2, hil, H⟩
    by_cases hend : (s.length : Int) ≤ (i : Int) + 1
    · have hR : Hid (R = none) := by
        show _ = _
        rw [H.out, rem_short d (s.drop i) (by rw [List.length_drop]; omega)]; rfl
      clear H HR
      go_wp2
      simp only [Exit.jump]
      go_ret2
      rw [hR.out]
      exact ⟨rfl, rfl⟩
    · have hlt : i + 1 < s.length := by omega
      have j0 : (0 : Int) ≤ (i : Int) := by omega
      have j1 : (i : Int) + 2 ≤ (s.length : Int) := by omega
      have H2 : Hid (R = (if s[i] = 123 ∧ s[i + 1] = 45 then (Lx.remM (d + 1) (s.drop (i + 2))).map (· + 2)
          else if s[i] = 45 ∧ s[i + 1] = 125 then (if d = 1 then some 2 else (Lx.remM (d - 1) (s.drop (i + 2))).map (· + 2))
          else (Lx.remM d (s.drop (i + 1))).map (· + 1)).map (· + (i - 2))) := by
        show _ = _
        rw [H.out, rem_two d s i hlt]
      have g1 := two_eq s i hlt 123 45
      have g2 := two_eq s i hlt 45 125
      clear H HR f1
      have hmap : ∀ (o : Option Nat) (a b c : Nat), a + b = c → (o.map (· + a)).map (· + b) = o.map (· + c) := fun o a b c h => by
        cases o with
        | none => rfl
        | some x => simp; omega
      have Hmap := Lib.hid hmap
      clear hmap
      by_cases ho : s[i] = 123 ∧ s[i + 1] = 45
      · rw [decide_eq_true ho] at g1
        clear g2
        have H3 := H2.out
        rw [if_pos ho, Hmap.out _ 2 (i - 2) (i + 2 - 2) (by omega)] at H3
        have H4 := Lib.hid H3
        have hdz : ((d : Int) + 1 == 0) = false := by simp; omega
        clear ho H2 H3
        go_wp2
        go_step3
        refine ⟨rfl, ⟨rfl, d + 1, i + 2, _, _, _, _, _, _, _, _, _, _, _, _, _, _, _, _, _, _, _, _, _, _, _, _, _, _, _, _, _, rfl, by omega, by omega, by omega, by omega, H4.out⟩, ?_⟩
        simp [intOf]; omega
      · rw [decide_eq_false ho] at g1
        have H3 := H2.out
        rw [if_neg ho] at H3
        by_cases hs : s[i] = 45 ∧ s[i + 1] = 125
        · rw [decide_eq_true hs] at g2
          rw [if_pos hs] at H3
          by_cases hd : d = 1
          · rw [if_pos hd] at H3
            subst hd
            have hR : Hid (R = some (2 + (i - 2))) := H3
            clear ho hs H2 H3
            go_wp2
            simp only [Exit.jump]
            go_ret2
            rw [hR.out]
            refine ⟨?_, rfl⟩
            show Ending.returned (Value.tuple #[Value.int .i64 ((i : Int) + 2), Value.bool true]) = Ending.returned (Value.tuple #[Value.int .i64 ((2 + (i - 2) + 2 : Nat) : Int), Value.bool true])
            rw [show ((2 + (i - 2) + 2 : Nat) : Int) = (i : Int) + 2 by omega]
          · rw [if_neg hd, Hmap.out _ 2 (i - 2) (i + 2 - 2) (by omega)] at H3
            have H4 := Lib.hid H3
            have hdz : ((d : Int) - 1 == 0) = false := by simp; omega
            obtain ⟨d, rfl⟩ : ∃ k, d = k + 1 := ⟨d - 1, by omega⟩
            clear ho hs H2 H3
            go_wp2
            go_step3
            refine ⟨rfl, ⟨rfl, d, i + 2, _, _, _, _, _, _, _, _, _, _, _, _, _, _, _, _, _, _, _, _, _, _, _, _, _, _, _, _, _, by congr 8 <;> omega, by omega, by omega, by omega, by omega, H4.out⟩, ?_⟩
            simp [intOf]; omega
        · rw [decide_eq_false hs] at g2
          rw [if_neg hs, Hmap.out _ 1 (i - 2) (i + 1 - 2) (by omega)] at H3
          have H4 := Lib.hid H3
          have hdz : ((d : Int) == 0) = false := by simp; omega
          clear ho hs H2 H3
          go_wp2
          go_step3
          refine ⟨rfl, ⟨rfl, d, i + 1, _, _, _, _, _, _, _, _, _, _, _, _, _, _, _, _, _, _, _, _, _, _, _, _, _, _, _, _, _, rfl, by omega, by omega, by omega, by omega, H4.out⟩, ?_⟩
          simp [intOf]; omega
end Go.Proofs.YtalklmeejdmifaaGreatDoor
/-
  THE WALK of package lex's scan.
-/
namespace Go.Proofs.YtalklmeejdmifaaGreatDoor
open Go.RowKit

theorem dec_quote (l : Bs) (hne : l ≠ []) (h : (dec l).1 = 34) : ∃ t, l = 34 :: t := by
  cases l with
  | nil => exact absurd rfl hne
  | cons a t =>
    have hb : byteAt (a :: t) 0 = a.toNat := rfl
    rcases Nat.lt_or_ge a.toNat 128 with h1 | h1
    · rw [dec_small (by rw [hb]; exact h1), hb] at h
      exact ⟨t, by rw [UInt8.toNat_inj.1 (show a.toNat = (34 : UInt8).toNat from h)]⟩
    · have := dec_big (l := a :: t) (by rw [hb]; exact h1)
      omega

def oneV (x : Nat × Nat) : Value := .tuple #[.int .i64 x.1, .int .i64 x.2]
theorem enters_space : ∀ args w, (callFunc 164 args).run Tryz.prog w = .ok (.enter 164 args) w := enters_of Tryz.func164 (by kernel_rfl) rfl
theorem enters_both : ∀ args w, (callFunc 170 args).run Tryz.prog w = .ok (.enter 170 args) w := enters_of Tryz.func170 (by kernel_rfl) rfl
theorem enters_digit : ∀ args w, (callFunc 171 args).run Tryz.prog w = .ok (.enter 171 args) w := enters_of Tryz.func171 (by kernel_rfl) rfl

section
variable (l : Bs) (m : Int) (w : World)
theorem space_rev (c : Nat) (w : World) : Calls Tryz.prog 164 #[.int .i32 c] w fun e w' => e = .returned (.bool (Lx.spaceB c)) ∧ w' = w := (space_walk c w).mono fun _ _ h => ⟨h.1, h.2.symm⟩
theorem letter_rev (c : Nat) (w : World) : Calls Tryz.prog 169 #[.int .i32 c] w fun e w' => e = .returned (.bool (Lx.letterB c)) ∧ w' = w := (letter_walk c w).mono fun _ _ h => ⟨h.1, h.2.symm⟩
theorem digit_rev (c : Nat) (w : World) : Calls Tryz.prog 171 #[.int .i32 c] w fun e w' => e = .returned (.bool (Lx.digitB c)) ∧ w' = w := (digit_walk c w).mono fun _ _ h => ⟨h.1, h.2.symm⟩

set_option maxHeartbeats 1000000 in
set_option maxRecDepth 100000 in
theorem scan_space (hM : MaxL w m) (hT : T8 w) (hW : WordsIs w) (hne : l ≠ []) (hl : l.length ≤ 100000000) (hS : Lx.spaceB (dec l).1 = true) :
    Calls Tryz.prog 130 #[.string ⟨l.toArray⟩] w fun e w' => e = .returned (oneV (1, Lx.run Lx.spaceB l)) ∧ Below w.heap.size w w' := by
  have _u : MaxL w m ∧ T8 w ∧ WordsIs w ∧ l.length ≤ 100000000 := ⟨hM, hT, hW, hl⟩
  clear _u
  have hdec := dec_walk l hne w hT
  have hsp := space_rev (dec l).1
  have hp1 : ∀ w, Calls Tryz.prog 166 #[.string ⟨l.toArray⟩, .string ⟨#[45, 45]⟩] w fun e w' => e = .returned (.bool ([45, 45].isPrefixOf l)) ∧ w' = w := fun w => pre_walk l [45, 45] w
  have hp2 : ∀ w, Calls Tryz.prog 166 #[.string ⟨l.toArray⟩, .string ⟨#[123, 45]⟩] w fun e w' => e = .returned (.bool ([123, 45].isPrefixOf l)) ∧ w' = w := fun w => pre_walk l [123, 45] w
  have hlt := letter_rev (dec l).1
  have hdg := digit_rev (dec l).1
  have hrun := fun w1 (hb : Below w.heap.size w w1) => run_walk l 164 Lx.spaceB enters_space space_walk w1 (hT.below hb) hl
  generalize dec l = D at *
  obtain ⟨c, z⟩ := D
  simp only at *
  go_enter Tryz.func130, Tryz.ntmps130
  go_wp2_with fail
  refine hdec.mono ?_
  rintro e w1 ⟨rfl, hb1⟩
  have hq := hsp w1
  rw [hS] at hq
  go_wp2_with fail
  refine hq.mono ?_
  clear hq
  rintro e w1 ⟨rfl, rfl⟩
  go_wp2_with fail
  refine (hrun w1 hb1).mono ?_
  rintro e w2 ⟨rfl, hb2⟩
  go_wp2_with fail
  go_ret2
  exact ⟨rfl, hb1.trans (hb2.mono hb1.size)⟩

set_option maxHeartbeats 1000000 in
set_option maxRecDepth 100000 in
theorem scan_line (hM : MaxL w m) (hT : T8 w) (hW : WordsIs w) (hne : l ≠ []) (hl : l.length ≤ 100000000) (hS : Lx.spaceB (dec l).1 = false) (hP1 : [45, 45].isPrefixOf l = true) :
    Calls Tryz.prog 130 #[.string ⟨l.toArray⟩] w fun e w' => e = .returned (oneV (2, (l.takeWhile (· != 10)).length)) ∧ Below w.heap.size w w' := by
  have _u : MaxL w m ∧ T8 w ∧ WordsIs w ∧ l.length ≤ 100000000 := ⟨hM, hT, hW, hl⟩
  clear _u
  have hdec := dec_walk l hne w hT
  have hsp := space_rev (dec l).1
  have hp1 : ∀ w, Calls Tryz.prog 166 #[.string ⟨l.toArray⟩, .string ⟨#[45, 45]⟩] w fun e w' => e = .returned (.bool ([45, 45].isPrefixOf l)) ∧ w' = w := fun w => pre_walk l [45, 45] w
  have hp2 : ∀ w, Calls Tryz.prog 166 #[.string ⟨l.toArray⟩, .string ⟨#[123, 45]⟩] w fun e w' => e = .returned (.bool ([123, 45].isPrefixOf l)) ∧ w' = w := fun w => pre_walk l [123, 45] w
  have hlt := letter_rev (dec l).1
  have hdg := digit_rev (dec l).1
  have hcut := fun w1 (hb : Below w.heap.size w w1) => cut_walk1 10 l m w1 (hM.below hb hM.lt) hl
  generalize dec l = D at *
  obtain ⟨c, z⟩ := D
  simp only at *
  go_enter Tryz.func130, Tryz.ntmps130
  go_wp2_with fail
  refine hdec.mono ?_
  rintro e w1 ⟨rfl, hb1⟩
  have hq := hsp w1
  rw [hS] at hq
  go_wp2_with fail
  refine hq.mono ?_
  clear hq
  rintro e w1 ⟨rfl, rfl⟩
  have hq := hp1 w1
  rw [hP1] at hq
  go_wp2_with fail
  refine hq.mono ?_
  clear hq
  rintro e w1 ⟨rfl, rfl⟩
  go_wp2_with fail
  refine (hcut w1 hb1).mono ?_
  rintro e w2 ⟨rfl, n, rfl⟩
  go_wp2_with fail
  go_ret2
  exact ⟨rfl, below_drewN hb1 n⟩

set_option maxHeartbeats 1000000 in
set_option maxRecDepth 100000 in
theorem scan_remark (hM : MaxL w m) (hT : T8 w) (hW : WordsIs w) (hne : l ≠ []) (hl : l.length ≤ 100000000) (hS : Lx.spaceB (dec l).1 = false) (hP1 : [45, 45].isPrefixOf l = false) (hP2 : [123, 45].isPrefixOf l = true) :
    Calls Tryz.prog 130 #[.string ⟨l.toArray⟩] w fun e w' => e = .returned (oneV (match Lx.remM 1 (l.drop 2) with | some k => (2, k + 2) | none => (8, l.length))) ∧ Below w.heap.size w w' := by
  have _u : MaxL w m ∧ T8 w ∧ WordsIs w ∧ l.length ≤ 100000000 := ⟨hM, hT, hW, hl⟩
  clear _u
  have hdec := dec_walk l hne w hT
  have hsp := space_rev (dec l).1
  have hp1 : ∀ w, Calls Tryz.prog 166 #[.string ⟨l.toArray⟩, .string ⟨#[45, 45]⟩] w fun e w' => e = .returned (.bool ([45, 45].isPrefixOf l)) ∧ w' = w := fun w => pre_walk l [45, 45] w
  have hp2 : ∀ w, Calls Tryz.prog 166 #[.string ⟨l.toArray⟩, .string ⟨#[123, 45]⟩] w fun e w' => e = .returned (.bool ([123, 45].isPrefixOf l)) ∧ w' = w := fun w => pre_walk l [123, 45] w
  have hlt := letter_rev (dec l).1
  have hdg := digit_rev (dec l).1
  have hrem := fun w1 => remark_walk l w1 hP2 hl
  generalize Lx.remM 1 (l.drop 2) = R at *
  generalize dec l = D at *
  obtain ⟨c, z⟩ := D
  simp only at *
  go_enter Tryz.func130, Tryz.ntmps130
  go_wp2_with fail
  refine hdec.mono ?_
  rintro e w1 ⟨rfl, hb1⟩
  have hq := hsp w1
  rw [hS] at hq
  go_wp2_with fail
  refine hq.mono ?_
  clear hq
  rintro e w1 ⟨rfl, rfl⟩
  have hq := hp1 w1
  rw [hP1] at hq
  go_wp2_with fail
  refine hq.mono ?_
  clear hq
  rintro e w1 ⟨rfl, rfl⟩
  have hq := hp2 w1
  rw [hP2] at hq
  go_wp2_with fail
  refine hq.mono ?_
  clear hq
  rintro e w1 ⟨rfl, rfl⟩
  cases R with
  | none =>
    go_wp2_with fail
    refine (hrem w1).mono ?_
    rintro e w' ⟨rfl, rfl⟩
    go_wp2_with fail
    refine (kind_walk false 2 _).mono ?_
    rintro e w' ⟨rfl, rfl⟩
    go_wp2_with fail
    go_ret2
    exact ⟨rfl, hb1⟩
  | some k =>
    go_wp2_with fail
    refine (hrem w1).mono ?_
    rintro e w' ⟨rfl, rfl⟩
    go_wp2_with fail
    refine (kind_walk true 2 _).mono ?_
    rintro e w' ⟨rfl, rfl⟩
    go_wp2_with fail
    go_ret2
    exact ⟨rfl, hb1⟩

set_option maxHeartbeats 1000000 in
set_option maxRecDepth 100000 in
theorem scan_name (hM : MaxL w m) (hT : T8 w) (hW : WordsIs w) (hne : l ≠ []) (hl : l.length ≤ 100000000) (hS : Lx.spaceB (dec l).1 = false) (hP1 : [45, 45].isPrefixOf l = false) (hP2 : [123, 45].isPrefixOf l = false) (hL : Lx.letterB (dec l).1 = true) :
    Calls Tryz.prog 130 #[.string ⟨l.toArray⟩] w fun e w' => e = .returned (oneV (if Lx.wordM (l.take (Lx.run Lx.bothB l)) then 4 else 3, Lx.run Lx.bothB l)) ∧ Below w.heap.size w w' := by
  have _u : MaxL w m ∧ T8 w ∧ WordsIs w ∧ l.length ≤ 100000000 := ⟨hM, hT, hW, hl⟩
  clear _u
  have hdec := dec_walk l hne w hT
  have hsp := space_rev (dec l).1
  have hp1 : ∀ w, Calls Tryz.prog 166 #[.string ⟨l.toArray⟩, .string ⟨#[45, 45]⟩] w fun e w' => e = .returned (.bool ([45, 45].isPrefixOf l)) ∧ w' = w := fun w => pre_walk l [45, 45] w
  have hp2 : ∀ w, Calls Tryz.prog 166 #[.string ⟨l.toArray⟩, .string ⟨#[123, 45]⟩] w fun e w' => e = .returned (.bool ([123, 45].isPrefixOf l)) ∧ w' = w := fun w => pre_walk l [123, 45] w
  have hlt := letter_rev (dec l).1
  have hdg := digit_rev (dec l).1
  have hrun := fun w1 (hb : Below w.heap.size w w1) => run_walk l 170 Lx.bothB enters_both both_walk w1 (hT.below hb) hl
  have hle := Lx.run_le Lx.bothB _ l rfl
  have hword := fun w1 (hb : Below w.heap.size w w1) => word_walk (l.take (Lx.run Lx.bothB l)) w1 (hW.below hb)
  have hex := ext_str l 0 (Lx.run Lx.bothB l)
  unfold strV at hex
  rw [List.drop_zero] at hex
  rw [← hex] at hword
  clear hex
  generalize Lx.wordM (l.take (Lx.run Lx.bothB l)) = B at *
  generalize Lx.run Lx.bothB l = n at *
  generalize dec l = D at *
  obtain ⟨c, z⟩ := D
  simp only at *
  go_enter Tryz.func130, Tryz.ntmps130
  go_wp2_with fail
  refine hdec.mono ?_
  rintro e w1 ⟨rfl, hb1⟩
  have hq := hsp w1
  rw [hS] at hq
  go_wp2_with fail
  refine hq.mono ?_
  clear hq
  rintro e w1 ⟨rfl, rfl⟩
  have hq := hp1 w1
  rw [hP1] at hq
  go_wp2_with fail
  refine hq.mono ?_
  clear hq
  rintro e w1 ⟨rfl, rfl⟩
  have hq := hp2 w1
  rw [hP2] at hq
  go_wp2_with fail
  refine hq.mono ?_
  clear hq
  rintro e w1 ⟨rfl, rfl⟩
  have hq := hlt w1
  rw [hL] at hq
  go_wp2_with fail
  refine hq.mono ?_
  clear hq
  rintro e w1 ⟨rfl, rfl⟩
  cases B with
  | true =>
    go_wp2_with fail
    refine (hrun w1 hb1).mono ?_
    rintro e w2 ⟨rfl, hb2⟩
    have hb12 := hb1.trans (hb2.mono hb1.size)
    go_wp2_with fail
    refine (hword w2 hb12).mono ?_
    rintro e w' ⟨rfl, rfl⟩
    go_wp2_with fail
    go_ret2
    exact ⟨rfl, hb12⟩
  | false =>
    go_wp2_with fail
    refine (hrun w1 hb1).mono ?_
    rintro e w2 ⟨rfl, hb2⟩
    have hb12 := hb1.trans (hb2.mono hb1.size)
    go_wp2_with fail
    refine (hword w2 hb12).mono ?_
    rintro e w' ⟨rfl, rfl⟩
    go_wp2_with fail
    go_ret2
    exact ⟨rfl, hb12⟩

set_option maxHeartbeats 1000000 in
set_option maxRecDepth 100000 in
theorem scan_int (hM : MaxL w m) (hT : T8 w) (hW : WordsIs w) (hne : l ≠ []) (hl : l.length ≤ 100000000) (hS : Lx.spaceB (dec l).1 = false) (hP1 : [45, 45].isPrefixOf l = false) (hP2 : [123, 45].isPrefixOf l = false) (hL : Lx.letterB (dec l).1 = false) (hD : Lx.digitB (dec l).1 = true) :
    Calls Tryz.prog 130 #[.string ⟨l.toArray⟩] w fun e w' => e = .returned (oneV (if Lx.run Lx.digitB l ≤ 18 then 5 else 8, Lx.run Lx.digitB l)) ∧ Below w.heap.size w w' := by
  have _u : MaxL w m ∧ T8 w ∧ WordsIs w ∧ l.length ≤ 100000000 := ⟨hM, hT, hW, hl⟩
  clear _u
  have hdec := dec_walk l hne w hT
  have hsp := space_rev (dec l).1
  have hp1 : ∀ w, Calls Tryz.prog 166 #[.string ⟨l.toArray⟩, .string ⟨#[45, 45]⟩] w fun e w' => e = .returned (.bool ([45, 45].isPrefixOf l)) ∧ w' = w := fun w => pre_walk l [45, 45] w
  have hp2 : ∀ w, Calls Tryz.prog 166 #[.string ⟨l.toArray⟩, .string ⟨#[123, 45]⟩] w fun e w' => e = .returned (.bool ([123, 45].isPrefixOf l)) ∧ w' = w := fun w => pre_walk l [123, 45] w
  have hlt := letter_rev (dec l).1
  have hdg := digit_rev (dec l).1
  have hrun := fun w1 (hb : Below w.heap.size w w1) => run_walk l 171 Lx.digitB enters_digit digit_walk w1 (hT.below hb) hl
  have hle := Lx.run_le Lx.digitB _ l rfl
  generalize Lx.run Lx.digitB l = n at *
  generalize hK : (if n ≤ 18 then 5 else 8 : Nat) = K
  have HK := Lib.hid hK
  clear hK
  generalize dec l = D at *
  obtain ⟨c, z⟩ := D
  simp only at *
  go_enter Tryz.func130, Tryz.ntmps130
  go_wp2_with fail
  refine hdec.mono ?_
  rintro e w1 ⟨rfl, hb1⟩
  have hq := hsp w1
  rw [hS] at hq
  go_wp2_with fail
  refine hq.mono ?_
  clear hq
  rintro e w1 ⟨rfl, rfl⟩
  have hq := hp1 w1
  rw [hP1] at hq
  go_wp2_with fail
  refine hq.mono ?_
  clear hq
  rintro e w1 ⟨rfl, rfl⟩
  have hq := hp2 w1
  rw [hP2] at hq
  go_wp2_with fail
  refine hq.mono ?_
  clear hq
  rintro e w1 ⟨rfl, rfl⟩
  have hq := hlt w1
  rw [hL] at hq
  go_wp2_with fail
  refine hq.mono ?_
  clear hq
  rintro e w1 ⟨rfl, rfl⟩
  have hq := hdg w1
  rw [hD] at hq
  go_wp2_with fail
  refine hq.mono ?_
  clear hq
  rintro e w1 ⟨rfl, rfl⟩
  by_cases hn : n ≤ 18
  · have hn2 : (n : Int) ≤ 18 := by omega
    obtain rfl : K = 5 := by rw [← HK.out, if_pos hn]
    clear hn HK
    go_wp2_with fail
    refine (hrun w1 hb1).mono ?_
    rintro e w2 ⟨rfl, hb2⟩
    go_wp2_with fail
    refine (kind_walk true 5 _).mono ?_
    rintro e w' ⟨rfl, rfl⟩
    go_wp2_with fail
    go_ret2
    exact ⟨rfl, hb1.trans (hb2.mono hb1.size)⟩
  · have hn2 : ¬ (n : Int) ≤ 18 := by omega
    obtain rfl : K = 8 := by rw [← HK.out, if_neg hn]
    have hkw : ∀ w, Calls Tryz.prog 162 #[.bool (decide ((n : Int) ≤ 18)), .int .i64 5] w fun e w' => e = .returned (.int .i64 8) ∧ w = w' := fun w => by rw [decide_eq_false hn2]; exact kind_walk false 5 w
    clear hn HK
    go_wp2_with fail
    refine (hrun w1 hb1).mono ?_
    rintro e w2 ⟨rfl, hb2⟩
    go_wp2_with fail
    refine (hkw _).mono ?_
    rintro e w' ⟨rfl, rfl⟩
    go_wp2_with fail
    go_ret2
    exact ⟨rfl, hb1.trans (hb2.mono hb1.size)⟩

set_option maxHeartbeats 1000000 in
set_option maxRecDepth 100000 in
theorem scan_text (hM : MaxL w m) (hT : T8 w) (hW : WordsIs w) (hne : l ≠ []) (hl : l.length ≤ 100000000) (hS : Lx.spaceB (dec l).1 = false) (hP1 : [45, 45].isPrefixOf l = false) (hP2 : [123, 45].isPrefixOf l = false) (hL : Lx.letterB (dec l).1 = false) (hD : Lx.digitB (dec l).1 = false) (hc : (dec l).1 = 34) (t : Bs) (ht : l = 34 :: t) :
    Calls Tryz.prog 130 #[.string ⟨l.toArray⟩] w fun e w' => e = .returned (oneV (if (Lx.textM t).2.1 ∧ (Lx.textM t).2.2 then 6 else 8, (Lx.textM t).1 + 1)) ∧ Below w.heap.size w w' := by
  have _u : MaxL w m ∧ T8 w ∧ WordsIs w ∧ l.length ≤ 100000000 := ⟨hM, hT, hW, hl⟩
  clear _u
  have hdec := dec_walk l hne w hT
  have hsp := space_rev (dec l).1
  have hp1 : ∀ w, Calls Tryz.prog 166 #[.string ⟨l.toArray⟩, .string ⟨#[45, 45]⟩] w fun e w' => e = .returned (.bool ([45, 45].isPrefixOf l)) ∧ w' = w := fun w => pre_walk l [45, 45] w
  have hp2 : ∀ w, Calls Tryz.prog 166 #[.string ⟨l.toArray⟩, .string ⟨#[123, 45]⟩] w fun e w' => e = .returned (.bool ([123, 45].isPrefixOf l)) ∧ w' = w := fun w => pre_walk l [123, 45] w
  have hlt := letter_rev (dec l).1
  have hdg := digit_rev (dec l).1
  have htx := fun w1 (hb : Below w.heap.size w w1) => text_walk l t ht m w1 (hM.below hb hM.lt) (hT.below hb) hl
  generalize Lx.textM t = X at *
  obtain ⟨n, b1, b2⟩ := X
  simp only at htx ⊢
  generalize hK : (if b1 = true ∧ b2 = true then 6 else 8 : Nat) = K
  have HK := Lib.hid hK
  clear hK
  clear ht
  generalize dec l = D at *
  obtain ⟨c, z⟩ := D
  simp only at *
  have hc2 : ((c : Int) == 34) = true := by simp; omega
  clear hc
  go_enter Tryz.func130, Tryz.ntmps130
  go_wp2_with fail
  refine hdec.mono ?_
  rintro e w1 ⟨rfl, hb1⟩
  have hq := hsp w1
  rw [hS] at hq
  go_wp2_with fail
  refine hq.mono ?_
  clear hq
  rintro e w1 ⟨rfl, rfl⟩
  have hq := hp1 w1
  rw [hP1] at hq
  go_wp2_with fail
  refine hq.mono ?_
  clear hq
  rintro e w1 ⟨rfl, rfl⟩
  have hq := hp2 w1
  rw [hP2] at hq
  go_wp2_with fail
  refine hq.mono ?_
  clear hq
  rintro e w1 ⟨rfl, rfl⟩
  have hq := hlt w1
  rw [hL] at hq
  go_wp2_with fail
  refine hq.mono ?_
  clear hq
  rintro e w1 ⟨rfl, rfl⟩
  have hq := hdg w1
  rw [hD] at hq
  go_wp2_with fail
  refine hq.mono ?_
  clear hq
  rintro e w1 ⟨rfl, rfl⟩
  cases b1 with
  | false =>
    obtain rfl : K = 8 := by rw [← HK.out]; rfl
    clear HK
    go_wp2_with fail
    refine (htx w1 hb1).mono ?_
    rintro e w2 ⟨rfl, hb2⟩
    go_wp2_with fail
    refine (kind_walk false 6 _).mono ?_
    rintro e w' ⟨rfl, rfl⟩
    go_wp2_with fail
    go_ret2
    exact ⟨rfl, hb1.trans (hb2.mono hb1.size)⟩
  | true =>
    cases b2 with
    | false =>
      obtain rfl : K = 8 := by rw [← HK.out]; rfl
      clear HK
      go_wp2_with fail
      refine (htx w1 hb1).mono ?_
      rintro e w2 ⟨rfl, hb2⟩
      go_wp2_with fail
      refine (kind_walk false 6 _).mono ?_
      rintro e w' ⟨rfl, rfl⟩
      go_wp2_with fail
      go_ret2
      exact ⟨rfl, hb1.trans (hb2.mono hb1.size)⟩
    | true =>
      obtain rfl : K = 6 := by rw [← HK.out]; rfl
      clear HK
      go_wp2_with fail
      refine (htx w1 hb1).mono ?_
      rintro e w2 ⟨rfl, hb2⟩
      go_wp2_with fail
      refine (kind_walk true 6 _).mono ?_
      rintro e w' ⟨rfl, rfl⟩
      go_wp2_with fail
      go_ret2
      exact ⟨rfl, hb1.trans (hb2.mono hb1.size)⟩

set_option maxHeartbeats 1000000 in
set_option maxRecDepth 100000 in
theorem scan_rest (hM : MaxL w m) (hT : T8 w) (hW : WordsIs w) (hne : l ≠ []) (hl : l.length ≤ 100000000) (hS : Lx.spaceB (dec l).1 = false) (hP1 : [45, 45].isPrefixOf l = false) (hP2 : [123, 45].isPrefixOf l = false) (hL : Lx.letterB (dec l).1 = false) (hD : Lx.digitB (dec l).1 = false) (hc : (dec l).1 ≠ 34) :
    Calls Tryz.prog 130 #[.string ⟨l.toArray⟩] w fun e w' => e = .returned (oneV (if Lx.signM l > 0 then (7, Lx.signM l) else (8, (dec l).2))) ∧ Below w.heap.size w w' := by
  have _u : MaxL w m ∧ T8 w ∧ WordsIs w ∧ l.length ≤ 100000000 := ⟨hM, hT, hW, hl⟩
  clear _u
  have hdec := dec_walk l hne w hT
  have hsp := space_rev (dec l).1
  have hp1 : ∀ w, Calls Tryz.prog 166 #[.string ⟨l.toArray⟩, .string ⟨#[45, 45]⟩] w fun e w' => e = .returned (.bool ([45, 45].isPrefixOf l)) ∧ w' = w := fun w => pre_walk l [45, 45] w
  have hp2 : ∀ w, Calls Tryz.prog 166 #[.string ⟨l.toArray⟩, .string ⟨#[123, 45]⟩] w fun e w' => e = .returned (.bool ([123, 45].isPrefixOf l)) ∧ w' = w := fun w => pre_walk l [123, 45] w
  have hlt := letter_rev (dec l).1
  have hdg := digit_rev (dec l).1
  have hsg := fun w1 => sign_walk l w1 hne
  generalize Lx.signM l = n at *
  generalize dec l = D at *
  obtain ⟨c, z⟩ := D
  simp only at *
  generalize hK : (if n > 0 then (7, n) else (8, z) : Nat × Nat) = K
  have HK := Lib.hid hK
  clear hK
  have hc2 : ((c : Int) == 34) = false := by simp; omega
  clear hc
  go_enter Tryz.func130, Tryz.ntmps130
  go_wp2_with fail
  refine hdec.mono ?_
  rintro e w1 ⟨rfl, hb1⟩
  have hq := hsp w1
  rw [hS] at hq
  go_wp2_with fail
  refine hq.mono ?_
  clear hq
  rintro e w1 ⟨rfl, rfl⟩
  have hq := hp1 w1
  rw [hP1] at hq
  go_wp2_with fail
  refine hq.mono ?_
  clear hq
  rintro e w1 ⟨rfl, rfl⟩
  have hq := hp2 w1
  rw [hP2] at hq
  go_wp2_with fail
  refine hq.mono ?_
  clear hq
  rintro e w1 ⟨rfl, rfl⟩
  have hq := hlt w1
  rw [hL] at hq
  go_wp2_with fail
  refine hq.mono ?_
  clear hq
  rintro e w1 ⟨rfl, rfl⟩
  have hq := hdg w1
  rw [hD] at hq
  go_wp2_with fail
  refine hq.mono ?_
  clear hq
  rintro e w1 ⟨rfl, rfl⟩
  by_cases hn : n > 0
  · have hn2 : (0 : Int) < (n : Int) := by omega
    obtain rfl : K = (7, n) := by rw [← HK.out, if_pos hn]
    clear hn HK
    go_wp2_with fail
    refine (hsg w1).mono ?_
    rintro e w2 ⟨rfl, hb2⟩
    go_wp2_with fail
    go_ret2
    exact ⟨rfl, hb1.trans (hb2.mono hb1.size)⟩
  · obtain rfl : n = 0 := by omega
    obtain rfl : K = (8, z) := by rw [← HK.out, if_neg (by omega)]
    clear hn HK
    go_wp2_with fail
    refine (hsg w1).mono ?_
    rintro e w2 ⟨rfl, hb2⟩
    go_wp2_with fail
    go_ret2
    exact ⟨rfl, hb1.trans (hb2.mono hb1.size)⟩

theorem scan_walk (hM : MaxL w m) (hT : T8 w) (hW : WordsIs w) (hne : l ≠ []) (hl : l.length ≤ 100000000) :
    Calls Tryz.prog 130 #[.string ⟨l.toArray⟩] w fun e w' => e = .returned (oneV (Lx.oneM l)) ∧ Below w.heap.size w w' := by
  unfold Lx.oneM
  cases hS : Lx.spaceB (dec l).1 with
  | true => rw [if_pos rfl]; exact scan_space l m w hM hT hW hne hl hS
  | false =>
    rw [if_neg (by simp)]
    cases hP1 : [(45 : UInt8), 45].isPrefixOf l with
    | true => rw [if_pos rfl]; exact scan_line l m w hM hT hW hne hl hS hP1
    | false =>
      rw [if_neg (by simp)]
      cases hP2 : [(123 : UInt8), 45].isPrefixOf l with
      | true => rw [if_pos rfl]; exact scan_remark l m w hM hT hW hne hl hS hP1 hP2
      | false =>
        rw [if_neg (by simp)]
        cases hL : Lx.letterB (dec l).1 with
        | true => rw [if_pos rfl]; exact scan_name l m w hM hT hW hne hl hS hP1 hP2 hL
        | false =>
          rw [if_neg (by simp)]
          cases hD : Lx.digitB (dec l).1 with
          | true => rw [if_pos rfl]; exact scan_int l m w hM hT hW hne hl hS hP1 hP2 hL hD
          | false =>
            rw [if_neg (by simp)]
            by_cases hc : (dec l).1 = 34
            · obtain ⟨t, ht⟩ := dec_quote l hne hc
              rw [if_pos hc]
              have h1 : l.drop 1 = t := by rw [ht]; rfl
              rw [h1]
              exact scan_text l m w hM hT hW hne hl hS hP1 hP2 hL hD hc t ht
            · rw [if_neg hc]
              exact scan_rest l m w hM hT hW hne hl hS hP1 hP2 hL hD hc
end
end Go.Proofs.YtalklmeejdmifaaGreatDoor
