/-
  JOINED of the texts LH LA LC
-/
import Derived.Test.YtgpjcjnimheglaaGreatDoorJae
import Derived.Lib.ConvBytes
import Derived.Laws.Strings3
import Derived.Laws.Closers25
import Derived.Laws.Closers25b
import Derived.BigCall
import Derived.BigGuard
import Derived.Test.YtgpjcjnimheglaaGreatDoorShelfX
import Derived.Shelf.Spec.BytesIndexFunc
import Derived.Deep.RegionHeld3
import Derived.Deep.DeepCutAuto
import Derived.Lib.IndexMore
import Derived.Lib.Strings
import Derived.Test.YtgpjcjnimheglaaGreatDoorRows
import Derived.WalkKit
import Derived.WalkSpells
import Derived.WalkLawsBesides
import Derived.Below
import Derived.Laws.OwnMore
import Derived.Deep.AppendLies
import Derived.Deep.Draws
import Derived.Lib.Hide
import Derived.Deep.QuietTactic
import Derived.BigQuiet
import Derived.IntWalk
import Derived.Lib.RuneBytes
import Derived.Test.YtgpjcjnimheglaaGreatDoorShelfW
import Derived.Shelf.Strings.SlTrimAscii
import Derived.Lib.LaidTab
import Derived.Lib.AtoiAll
import Derived.Lib.IndexLaws
import Derived.Lib.SlTrimSet
import Derived.Lib.ItoaNum
import Derived.Lib.Atoi
import Derived.WalkMore
import Derived.ScopeJumps
import Derived.Test.YtgpjcjnimheglaaGreatDoorJaa
import Derived.Test.YtgpjcjnimheglaaGreatDoorJab
/-
  WALKS of package lex: text, sign, Word.
-/
namespace Go.Proofs.YtgpjcjnimheglaaGreatDoor
open Go.RowKit

theorem dec0_walk (w : World) (hT : T8 w) : Calls Tryz.prog 105 #[.string ⟨([] : Bs).toArray⟩] w fun e w' => e = .returned (.tuple #[.int .i32 65533, .int .i64 0]) ∧ Below w.heap.size w w' :=
  Tryz.utf8_DecodeRuneInString ⟨([] : Bs).toArray⟩ w hT
theorem take_line (t : Bs) (_h : (34 : UInt8) ≠ 10) : ((34 :: t : Bs).takeWhile (· != 10)).length = (t.takeWhile (· != 10)).length + 1 := by
  rw [List.takeWhile_cons, if_pos (by simp)]; rfl

set_option maxHeartbeats 2000000 in
set_option maxRecDepth 100000 in
theorem text_walk (s : Bs) (t : Bs) (hst : s = 34 :: t) (m : Int) (w : World) (hM : MaxL w m) (hT : T8 w) (hl : s.length ≤ 100000000) :
    Calls Tryz.prog 115 #[.string ⟨s.toArray⟩] w fun e w' => e = .returned (.tuple #[.int .i64 (((Lx.textM t).1 + 1 : Nat) : Int), .bool ((Lx.textM t).2.1 && (Lx.textM t).2.2)]) ∧ Below w.heap.size w w' := by
  have hline := Lx.textR_line _ t true rfl
  have hln : ((s.takeWhile (· != 10)).length : Int) = ((t.takeWhile (· != 10)).length + 1 : Nat) := by rw [hst, take_line t (by decide)]
  have hdrop : s.drop 1 = t := by rw [hst]; rfl
  have hs1 : 1 ≤ s.length := by rw [hst]; simp
  generalize hX : Lx.textM t = X
  have HX : Hid (X = Lx.textR true (s.drop 1)) := by show _ = _; rw [← hX, hdrop]; rfl
  have Hline : Hid (X.2.1 = false → ((s.takeWhile (· != 10)).length : Int) = ((X.1 + 1 : Nat) : Int)) := fun h => by
    rw [hln]
    have := hline.2.1
    rw [show Lx.textR true t = X from hX] at this
    rw [this h]
  clear hline hln hdrop hst hX t
  go_enter Tryz.func115, Tryz.ntmps115
  go_wp2_with fail
  go_loopw [4, 5] (fun rt i wr => ∃ (b : Bool) (k : Nat), rt = .bool b ∧ i = .int .i64 k ∧ 1 ≤ k ∧ k ≤ s.length ∧ Below w.heap.size w wr ∧ Hid (X = ((Lx.textR b (s.drop k)).1 + (k - 1), (Lx.textR b (s.drop k)).2))) (fun _ i _ => s.length - (intOf i).toNat)
  case atStart => exact ⟨true, 1, rfl, rfl, by omega, hs1, Below.refl _ _, by show _ = _; rw [HX.out]; simp⟩
  case round =>
    obtain ⟨b, k, rfl, rfl, hk1, hk2, hb, H⟩ := hrel
    have hbs := hb.size
    have i0 : (0 : Int) ≤ (k : Int) := by omega
    by_cases hlt : k < s.length
    · have i1 : (k : Int) < (s.length : Int) := by omega
      have hdk : s.drop k = s[k] :: s.drop (k + 1) := List.drop_eq_getElem_cons hlt
      have e10 := bk_eq s k hlt 10
      have e34 := bk_eq s k hlt 34
      have e92 := bk_eq s k hlt 92
      rw [show (((10 : UInt8).toNat : Nat) : Int) = 10 from rfl] at e10
      rw [show (((34 : UInt8).toNat : Nat) : Int) = 34 from rfl] at e34
      rw [show (((92 : UInt8).toNat : Nat) : Int) = 92 from rfl] at e92
      have Hd := Lib.hid hdk
      clear hdk
      by_cases g1 : s[k] = 10
      · rw [decide_eq_true g1] at e10
        have n10 : ((((⟨s.toArray⟩ : ByteArray)[k]'(by rw [mk_size]; exact hlt)).toNat : Int) != 10) = false := by rw [bne, e10]; rfl
        have hE : Hid (X.2.1 = false ∧ X.2.2 = b) := by
          have h2 := H.out
          rw [Hd.out, g1, Lx.textR_end] at h2
          rw [h2]; exact ⟨rfl, rfl⟩
        have hcut := cut_walk1 10 s m wr (hM.below hb hM.lt) hl
        have hv := Hline.out hE.out.1
        clear e34 e92 e10 g1 H Hline HX
        go_wp2_with fail
        refine hcut.mono ?_
        clear hcut
        rintro e w2 ⟨rfl, n, rfl⟩
        go_wp2_with fail
        go_ret2
        refine ⟨?_, below_drewN hb n⟩
        rw [hE.out.1]
        show _ = Ending.returned (.tuple #[.int .i64 ((X.1 + 1 : Nat) : Int), .bool false])
        rw [show ((X.1 + 1 : Nat) : Int) = (X.1 : Int) + 1 by omega]; rfl
      · rw [decide_eq_false g1] at e10
        have n10 : ((((⟨s.toArray⟩ : ByteArray)[k]'(by rw [mk_size]; exact hlt)).toNat : Int) != 10) = true := by rw [bne, e10]; rfl
        by_cases g2 : s[k] = 34
        · rw [decide_eq_true g2] at e34
          have hE : Hid (X = (1 + (k - 1), true, b)) := by
            show _ = _
            have h2 := H.out
            rw [Hd.out, g2, Lx.textR_shut] at h2
            exact h2
          clear e92 e10 g1 g2 H Hline HX
          go_wp2_with fail
          go_ret2
          rw [hE.out]
          refine ⟨?_, hb⟩
          show _ = Ending.returned (.tuple #[.int .i64 ((1 + (k - 1) + 1 : Nat) : Int), .bool (true && b)])
          rw [show ((1 + (k - 1) + 1 : Nat) : Int) = (k : Int) + 1 by omega, Bool.true_and]; rfl
        · rw [decide_eq_false g2] at e34
          by_cases g3 : s[k] = 92
          · rw [decide_eq_true g3] at e92
            have j1 : (k : Int) + 1 ≤ (s.length : Int) := by omega
            have hes := escape_walk (s.drop (k + 1)) m wr (hM.below hb hM.lt) (by rw [List.length_drop]; omega)
            rw [← ext_drop] at hes
            cases hesc : Lx.escM (s.drop (k + 1)) with
            | some x =>
              obtain ⟨c, n⟩ := x
              obtain ⟨q1, q2, _⟩ := Lx.esc_le _ _ _ hesc
              rw [List.length_drop] at q2
              have hE : Hid (X = ((Lx.textR b (s.drop (k + 1 + n))).1 + (k + 1 + n - 1), (Lx.textR b (s.drop (k + 1 + n))).2)) := by
                show _ = _
                have h2 := H.out
                rw [Hd.out, g3, Lx.textR_esc b _ c n hesc, List.drop_drop] at h2
                rw [h2]
                refine Prod.ext ?_ rfl
                simp only
                omega
              rw [hesc] at hes
              have hes : Calls Tryz.prog 140 _ wr fun e w' => e = .returned (.tuple #[.string (Utf8.encode c), .int .i64 n]) ∧ Below wr.heap.size wr w' := hes
              have n0 : ((n : Int) == 0) = false := by simp; omega
              clear e10 g1 g2 g3 H Hline HX hesc Hd
              go_wp2_with fail
              refine hes.mono ?_
              clear hes
              rintro e w2 ⟨rfl, hb2⟩
              go_wp2_with fail
              go_roundw
              case rel => exact ⟨b, k + 1 + n, rfl, by congr 1; omega, by omega, by omega, hb.trans (hb2.mono hbs), hE⟩
              case measure => simp [intOf]; omega
            | none =>
              rw [hesc] at hes
              have hes : Calls Tryz.prog 140 _ wr fun e w' => e = .returned (.tuple #[.string ⟨#[]⟩, .int .i64 0]) ∧ Below wr.heap.size wr w' := hes
              have h2 := H.out
              rw [Hd.out, g3, Lx.textR_bad b _ hesc _ rfl] at h2
              by_cases hend : k + 1 < s.length
              · have hne : s.drop (k + 1) ≠ [] := by intro e; have := congrArg List.length e; simp at this; omega
                have hd := fun w2 (hb2 : Below w.heap.size w w2) => dec_walk (s.drop (k + 1)) hne w2 (hT.below hb2)
                have hsz := (dec_size (s.drop (k + 1))).1
                have hle := dec_le (s.drop (k + 1)) hne
                rw [List.length_drop] at hle
                rw [← ext_drop] at hd
                have hby : byteAt (s.drop (k + 1)) 0 = s[k + 1].toNat := by
                  unfold byteAt
                  rw [List.getElem?_drop]
                  show (s[k + 1]?.getD 0).toNat = _
                  rw [List.getElem?_eq_getElem hend]; rfl
                have x10 := bk_eq s (k + 1) hend 10
                rw [show (((10 : UInt8).toNat : Nat) : Int) = 10 from rfl] at x10
                have j2 : (k : Int) + 1 < (s.length : Int) := by omega
                by_cases q10 : s[k + 1] = 10
                · rw [decide_eq_true q10] at x10
                  rw [if_pos (.inr (by rw [hby, q10]; rfl)), List.drop_zero] at h2
                  have hE : Hid (X = ((Lx.textR false (s.drop (k + 1))).1 + (k + 1 - 1), (Lx.textR false (s.drop (k + 1))).2)) := by
                    show _ = _
                    rw [h2]
                    refine Prod.ext ?_ rfl
                    simp only
                    omega
                  generalize dec (s.drop (k + 1)) = D at *
                  obtain ⟨c, z⟩ := D
                  simp only at hd hsz
                  have Hdd := Lib.hid hd
                  clear e10 g1 g2 g3 H Hline HX hesc Hd h2 hle hby q10 hne hd
                  go_wp2_with fail
                  refine hes.mono ?_
                  clear hes
                  rintro e w2 ⟨rfl, hb2⟩
                  go_wp2_with fail
                  refine (Hdd.out w2 (hb.trans (hb2.mono hbs))).mono ?_
                  clear Hdd
                  rintro e w3 ⟨rfl, hb3⟩
                  go_wp2_with fail
                  go_roundw
                  case rel => exact ⟨false, k + 1, rfl, by go_num, by omega, by omega, (hb.trans (hb2.mono hbs)).trans (hb3.mono (by have := hb2.size; omega)), hE⟩
                  case measure => simp [intOf]; omega
                · rw [decide_eq_false q10] at x10
                  rw [if_neg (by
                    rintro (h | h)
                    · exact hne (List.isEmpty_iff.1 h)
                    · rw [hby] at h; exact q10 (UInt8.toNat_inj.1 (show s[k + 1].toNat = 10 from h))), List.drop_drop] at h2
                  have hE : Hid (X = ((Lx.textR false (s.drop (k + 1 + (dec (s.drop (k + 1))).2))).1 + (k + 1 + (dec (s.drop (k + 1))).2 - 1), (Lx.textR false (s.drop (k + 1 + (dec (s.drop (k + 1))).2))).2)) := by
                    show _ = _
                    rw [h2]
                    refine Prod.ext ?_ rfl
                    simp only
                    omega
                  generalize dec (s.drop (k + 1)) = D at *
                  obtain ⟨c, z⟩ := D
                  simp only at hd hsz hle hE
                  have Hdd := Lib.hid hd
                  clear e10 g1 g2 g3 H Hline HX hesc Hd h2 hby q10 hne hd
                  go_wp2_with fail
                  refine hes.mono ?_
                  clear hes
                  rintro e w2 ⟨rfl, hb2⟩
                  go_wp2_with fail
                  refine (Hdd.out w2 (hb.trans (hb2.mono hbs))).mono ?_
                  clear Hdd
                  rintro e w3 ⟨rfl, hb3⟩
                  go_wp2_with fail
                  go_roundw
                  case rel => exact ⟨false, k + 1 + z, rfl, by congr 1; omega, by omega, by omega, (hb.trans (hb2.mono hbs)).trans (hb3.mono (by have := hb2.size; omega)), hE⟩
                  case measure => simp [intOf]; omega
              · have he0 : s.drop (k + 1) = [] := List.drop_of_length_le (by omega)
                have hd := fun w2 (hb2 : Below w.heap.size w w2) => dec0_walk w2 (hT.below hb2)
                rw [if_pos (.inl (by rw [he0]; rfl)), List.drop_zero] at h2
                rw [← he0, ← ext_drop] at hd
                have hE : Hid (X = ((Lx.textR false (s.drop (k + 1))).1 + (k + 1 - 1), (Lx.textR false (s.drop (k + 1))).2)) := by
                  show _ = _
                  rw [h2]
                  refine Prod.ext ?_ rfl
                  simp only
                  omega
                have Hdd := Lib.hid hd
                clear e10 g1 g2 g3 H Hline HX hesc Hd h2 he0 hd
                go_wp2_with fail
                refine hes.mono ?_
                clear hes
                rintro e w2 ⟨rfl, hb2⟩
                go_wp2_with fail
                refine (Hdd.out w2 (hb.trans (hb2.mono hbs))).mono ?_
                clear Hdd
                rintro e w3 ⟨rfl, hb3⟩
                go_wp2_with fail
                go_roundw
                case rel => exact ⟨false, k + 1, rfl, by go_num, by omega, by omega, (hb.trans (hb2.mono hbs)).trans (hb3.mono (by have := hb2.size; omega)), hE⟩
                case measure => simp [intOf]; omega
          · rw [decide_eq_false g3] at e92
            have hE : Hid (X = ((Lx.textR b (s.drop (k + 1))).1 + (k + 1 - 1), (Lx.textR b (s.drop (k + 1))).2)) := by
              show _ = _
              have h2 := H.out
              rw [Hd.out, Lx.textR_plain b _ _ g1 g2 g3] at h2
              rw [h2]
              refine Prod.ext ?_ rfl
              simp only
              omega
            clear e10 g1 g2 g3 H Hline HX Hd
            go_wp2_with fail
            go_roundw
            case rel => exact ⟨b, k + 1, rfl, by go_num, by omega, by omega, hb, hE⟩
            case measure => simp [intOf]; omega
    · obtain rfl : k = s.length := by omega
      have hE : Hid (X.2.1 = false) := by
        have h2 := H.out
        rw [List.drop_length, Lx.textR_nil] at h2
        rw [h2]; rfl
      have hcut := cut_walk1 10 s m wr (hM.below hb hM.lt) hl
      have hv := Hline.out hE.out
      clear H Hline HX
      go_wp2_with fail
      refine hcut.mono ?_
      clear hcut
      rintro e w2 ⟨rfl, n, rfl⟩
      go_wp2_with fail
      go_ret2
      refine ⟨?_, below_drewN hb n⟩
      rw [hE.out]
      show _ = Ending.returned (.tuple #[.int .i64 ((X.1 + 1 : Nat) : Int), .bool false])
      rw [show ((X.1 + 1 : Nat) : Int) = (X.1 : Int) + 1 by omega]; rfl
end Go.Proofs.YtgpjcjnimheglaaGreatDoor
/-
  SMALL WALKS of package lex: letter, digit, space; the two closures of scan.
-/
namespace Go.Proofs.YtgpjcjnimheglaaGreatDoor
open Go.RowKit

set_option maxRecDepth 100000 in
theorem digit_walk (c : Nat) (w : World) : Calls Tryz.prog 113 #[.int .i32 c] w fun e w' => e = .returned (.bool (Lx.digitB c)) ∧ w = w' := by
  rcases Nat.lt_or_ge c 48 with h1 | h1
  · have hr : Lx.digitB c = false := by simp [Lx.digitB]; omega
    rw [hr]
    have d1 : ¬ (48 : Int) ≤ (c : Int) := by omega
    go_enter Tryz.func113, Tryz.ntmps113
    go_wp2
    go_ret
    exact ⟨rfl, rfl⟩
  · have d1 : (48 : Int) ≤ (c : Int) := by omega
    rcases Nat.lt_or_ge 57 c with h2 | h2
    · have hr : Lx.digitB c = false := by simp [Lx.digitB]; omega
      rw [hr]
      have d2 : ¬ (c : Int) ≤ 57 := by omega
      go_enter Tryz.func113, Tryz.ntmps113
      go_wp2
      go_ret
      exact ⟨rfl, rfl⟩
    · have hr : Lx.digitB c = true := by simp [Lx.digitB]; omega
      rw [hr]
      have d2 : (c : Int) ≤ 57 := by omega
      go_enter Tryz.func113, Tryz.ntmps113
      go_wp2
      go_ret
      exact ⟨rfl, rfl⟩

set_option maxRecDepth 100000 in
theorem space_walk (c : Nat) (w : World) : Calls Tryz.prog 106 #[.int .i32 c] w fun e w' => e = .returned (.bool (Lx.spaceB c)) ∧ w = w' := by
  by_cases h1 : c = 9
  · subst h1
    go_enter Tryz.func106, Tryz.ntmps106
    go_wp2
    go_ret
    exact ⟨rfl, rfl⟩
  · by_cases h2 : c = 10
    · subst h2
      go_enter Tryz.func106, Tryz.ntmps106
      go_wp2
      go_ret
      exact ⟨rfl, rfl⟩
    · by_cases h3 : c = 13
      · subst h3
        go_enter Tryz.func106, Tryz.ntmps106
        go_wp2
        go_ret
        exact ⟨rfl, rfl⟩
      · by_cases h4 : c = 32
        · subst h4
          go_enter Tryz.func106, Tryz.ntmps106
          go_wp2
          go_ret
          exact ⟨rfl, rfl⟩
        · have hr : Lx.spaceB c = false := by simp [Lx.spaceB, h1, h2, h3, h4]
          rw [hr]
          have d1 : ((c : Int) == 9) = false := by simp; omega
          have d2 : ((c : Int) == 10) = false := by simp; omega
          have d3 : ((c : Int) == 13) = false := by simp; omega
          have d4 : ((c : Int) == 32) = false := by simp; omega
          clear h1 h2 h3 h4
          go_enter Tryz.func106, Tryz.ntmps106
          go_wp2
          go_ret
          exact ⟨rfl, rfl⟩

/-- the ranges of letters -/
theorem letter_cases (c : Nat) : (Lx.letterB c = true ∧ (97 ≤ c ∧ c ≤ 122 ∨ c < 97 ∧ 65 ≤ c ∧ c ≤ 90 ∨ c = 95)) ∨ (Lx.letterB c = false ∧ c < 65) ∨ (Lx.letterB c = false ∧ 91 ≤ c ∧ c ≤ 96 ∧ c ≠ 95) ∨ (Lx.letterB c = false ∧ 123 ≤ c ∧ c < 192) ∨
    (Lx.letterB c = false ∧ c = 215) ∨ (Lx.letterB c = false ∧ c = 247) ∨ (Lx.letterB c = true ∧ 192 ≤ c ∧ c ≤ 591 ∧ c ≠ 215 ∧ c ≠ 247) ∨ (Lx.letterB c = false ∧ 592 ≤ c ∧ c < 880) ∨ (Lx.letterB c = true ∧ 880 ≤ c ∧ c ≤ 1023) ∨ (Lx.letterB c = true ∧ 1024 ≤ c ∧ c ≤ 1279) ∨ (Lx.letterB c = false ∧ 1280 ≤ c) := by
  have key : Lx.letterB c = decide ((97 ≤ c ∧ c ≤ 122) ∨ (65 ≤ c ∧ c ≤ 90) ∨ c = 95 ∨ (192 ≤ c ∧ c ≤ 591 ∧ c ≠ 215 ∧ c ≠ 247) ∨ (880 ≤ c ∧ c ≤ 1023) ∨ (1024 ≤ c ∧ c ≤ 1279)) := by
    rw [Bool.eq_iff_iff]
    simp only [Lx.letterB, Bool.or_eq_true, Bool.and_eq_true, decide_eq_true_eq, beq_iff_eq, bne_iff_ne, ne_eq]
    omega
  rw [key]
  simp only [decide_eq_true_eq, decide_eq_false_iff_not]
  omega

set_option maxHeartbeats 2000000 in
set_option maxRecDepth 100000 in
theorem letter_walk (c : Nat) (w : World) : Calls Tryz.prog 111 #[.int .i32 c] w fun e w' => e = .returned (.bool (Lx.letterB c)) ∧ w = w' := by
  rcases letter_cases c with ⟨hr, h | h | h⟩ | ⟨hr, h⟩ | ⟨hr, h⟩ | ⟨hr, h⟩ | ⟨hr, h⟩ | ⟨hr, h⟩ | ⟨hr, h⟩ | ⟨hr, h⟩ | ⟨hr, h⟩ | ⟨hr, h⟩ | ⟨hr, h⟩
  all_goals
    rw [hr]
    clear hr
    first | have a97 : (97 : Int) ≤ (c : Int) := by omega | have a97 : ¬ (97 : Int) ≤ (c : Int) := by omega | skip
    first | have a122 : (c : Int) ≤ 122 := by omega | have a122 : ¬ (c : Int) ≤ 122 := by omega | skip
    first | have a65 : (65 : Int) ≤ (c : Int) := by omega | have a65 : ¬ (65 : Int) ≤ (c : Int) := by omega | skip
    first | have a90 : (c : Int) ≤ 90 := by omega | have a90 : ¬ (c : Int) ≤ 90 := by omega | skip
    first | have a192 : (192 : Int) ≤ (c : Int) := by omega | have a192 : ¬ (192 : Int) ≤ (c : Int) := by omega | skip
    first | have a591 : (c : Int) ≤ 591 := by omega | have a591 : ¬ (c : Int) ≤ 591 := by omega | skip
    first | have a880 : (880 : Int) ≤ (c : Int) := by omega | have a880 : ¬ (880 : Int) ≤ (c : Int) := by omega | skip
    first | have a1023 : (c : Int) ≤ 1023 := by omega | have a1023 : ¬ (c : Int) ≤ 1023 := by omega | skip
    first | have a1024 : (1024 : Int) ≤ (c : Int) := by omega | have a1024 : ¬ (1024 : Int) ≤ (c : Int) := by omega | skip
    first | have a1279 : (c : Int) ≤ 1279 := by omega | have a1279 : ¬ (c : Int) ≤ 1279 := by omega | skip
    first | have b95 : ((c : Int) == 95) = true := by simp; omega | have b95 : ((c : Int) == 95) = false := by simp; omega | skip
    first | have b215 : ((c : Int) != 215) = true := by simp; omega | have b215 : ((c : Int) != 215) = false := by simp; omega | skip
    first | have b247 : ((c : Int) != 247) = true := by simp; omega | have b247 : ((c : Int) != 247) = false := by simp; omega | skip
    clear h
    go_enter Tryz.func111, Tryz.ntmps111
    go_wp2
    all_goals (go_ret; exact ⟨rfl, rfl⟩)

set_option maxRecDepth 100000 in
theorem both_walk (c : Nat) (w : World) : Calls Tryz.prog 112 #[.int .i32 c] w fun e w' => e = .returned (.bool (Lx.bothB c)) ∧ w = w' := by
  have hL := letter_walk c w
  have hD := digit_walk c w
  unfold Lx.bothB
  cases h : Lx.letterB c with
  | true =>
    rw [h] at hL
    go_enter Tryz.func112, Tryz.ntmps112
    go_wp2_with fail
    refine hL.mono ?_
    rintro e w' ⟨rfl, rfl⟩
    go_wp2_with fail
    go_ret
    exact ⟨rfl, rfl⟩
  | false =>
    rw [h] at hL
    cases h2 : Lx.digitB c with
    | true =>
      rw [h2] at hD
      go_enter Tryz.func112, Tryz.ntmps112
      go_wp2_with fail
      refine hL.mono ?_
      rintro e w' ⟨rfl, rfl⟩
      go_wp2_with fail
      refine hD.mono ?_
      rintro e w' ⟨rfl, rfl⟩
      go_wp2_with fail
      go_ret
      exact ⟨rfl, rfl⟩
    | false =>
      rw [h2] at hD
      go_enter Tryz.func112, Tryz.ntmps112
      go_wp2_with fail
      refine hL.mono ?_
      rintro e w' ⟨rfl, rfl⟩
      go_wp2_with fail
      refine hD.mono ?_
      rintro e w' ⟨rfl, rfl⟩
      go_wp2_with fail
      go_ret
      exact ⟨rfl, rfl⟩

set_option maxRecDepth 100000 in
theorem kind_walk (b : Bool) (k : Int) (w : World) : Calls Tryz.prog 104 #[.bool b, .int .i64 k] w fun e w' => e = .returned (.int .i64 (if b then k else 8)) ∧ w = w' := by
  cases b with
  | true =>
    go_enter Tryz.func104, Tryz.ntmps104
    go_wp2
    go_ret
    exact ⟨rfl, rfl⟩
  | false =>
    go_enter Tryz.func104, Tryz.ntmps104
    go_wp2
    go_ret
    exact ⟨rfl, rfl⟩
end Go.Proofs.YtgpjcjnimheglaaGreatDoor
/-
  THE WALK of package lex's remark: a loop by goto.
-/
namespace Go.Proofs.YtgpjcjnimheglaaGreatDoor
open Go.RowKit

theorem rem_short (d : Nat) (l : Bs) (h : l.length ≤ 1) : Lx.remM d l = none := by
  rcases l with _ | ⟨a, _ | ⟨b, t⟩⟩
  · simp [Lx.remM]
  · simp [Lx.remM]
  · simp at h
theorem rem_two (d : Nat) (s : Bs) (i : Nat) (h : i + 1 < s.length) : Lx.remM d (s.drop i) =
    if s[i] = 123 ∧ s[i + 1] = 45 then (Lx.remM (d + 1) (s.drop (i + 2))).map (· + 2)
    else if s[i] = 45 ∧ s[i + 1] = 125 then (if d = 1 then some 2 else (Lx.remM (d - 1) (s.drop (i + 2))).map (· + 2))
    else (Lx.remM d (s.drop (i + 1))).map (· + 1) := by
  have e1 : s.drop i = s[i] :: s[i + 1] :: s.drop (i + 2) := by
    rw [List.drop_eq_getElem_cons (by omega), List.drop_eq_getElem_cons (by omega)]
  have e2 : s.drop (i + 1) = s[i + 1] :: s.drop (i + 2) := List.drop_eq_getElem_cons (by omega)
  rw [e1, e2, Lx.remM]
theorem two_eq (s : Bs) (i : Nat) (h : i + 1 < s.length) (a b : UInt8) : (((⟨s.toArray⟩ : ByteArray).extract i (i + 2)).toList == [a, b]) = decide (s[i] = a ∧ s[i + 1] = b) := by
  have e : ((⟨s.toArray⟩ : ByteArray).extract i (i + 2)).toList = [s[i], s[i + 1]] := by
    rw [Lib.toList_data, ext_data, show i + 2 - i = 2 by omega]
    show (s.drop i).take 2 = _
    rw [List.drop_eq_getElem_cons (by omega), List.drop_eq_getElem_cons (by omega)]
    rfl
  rw [e, Bool.eq_iff_iff]
  simp

set_option maxHeartbeats 2000000 in
set_option maxRecDepth 1000000 in
theorem remark_walk (s : Bs) (w : World) (hs : [123, 45].isPrefixOf s = true) (hl : s.length ≤ 100000000) :
    Calls Tryz.prog 110 #[.string ⟨s.toArray⟩] w fun e w' => e = .returned (.tuple #[.int .i64 (match Lx.remM 1 (s.drop 2) with | some k => ((k + 2 : Nat) : Int) | none => (s.length : Int)), .bool (Lx.remM 1 (s.drop 2)).isSome]) ∧ w' = w := by
  obtain ⟨t, rfl⟩ := Lx.prefix_two hs
  clear hs
  generalize hS : (123 :: 45 :: t : Bs) = s at *
  have h2 : 2 ≤ s.length := by rw [← hS]; simp
  have f1 : (((⟨s.toArray⟩ : ByteArray).extract 0 2).toList == [123, 45]) = true := by
    rw [two_eq s 0 (by omega)]; subst hS; rfl
  clear hS t
  generalize hR : Lx.remM 1 (s.drop 2) = R
  have HR := Lib.hid hR
  clear hR
  go_enter Tryz.func110, Tryz.ntmps110
  go_wp2
  refine wp_scope_jumps 0 (fun a' w' => w' = w ∧ ∃ (d i : Nat) (u6 u7 u8 u9 u10 u11 u12 u13 u14 u15 u16 u17 u18 u19 u20 u21 u22 u23 u24 u25 u26 u27 u28 u29 u30 u31 u32 u33 u34 : Value), a' = { tmps := #[.string ⟨s.toArray⟩, undef, .int .i64 0, .bool false, .int .i64 d, .int .i64 i, u6, u7, u8, u9, u10, u11, u12, u13, u14, u15, u16, u17, u18, u19, u20, u21, u22, u23, u24, u25, u26, u27, u28, u29, u30, u31, u32, u33, u34], defers := [] } ∧ 1 ≤ d ∧ d ≤ i ∧ 2 ≤ i ∧ i ≤ s.length ∧ Hid (R = (Lx.remM d (s.drop i)).map (· + (i - 2)))) (fun a' _ => s.length - (intOf (a'.tmps.getD 5 undef)).toNat) rfl ?_ ?_
  · have i1 : ¬ (s.length : Int) ≤ 1 := by omega
    have i2 : (2 : Int) ≤ (s.length : Int) := by omega
    go_wp2
    go_step3
    go_wp2
    go_step3
    refine ⟨rfl, rfl, 1, 2, _, _, _, _, _, _, _, _, _, _, _, _, _, _, _, _, _, _, _, _, _, _, _, _, _, _, _, _, _, rfl, by omega, by omega, by omega, h2, ?_⟩
    show _ = _
    rw [HR.out]
    cases R <;> rfl
  · rintro a' w' ⟨rfl, d, i, u6, u7, u8, u9, u10, u11, u12, u13, u14, u15, u16, u17, u18, u19, u20, u21, u22, u23, u24, u25, u26, u27, u28, u29, u30, u31, u32, u33, u34, rfl, hd1, hdi, hi2, hil, H⟩
    by_cases hend : (s.length : Int) ≤ (i : Int) + 1
    · have hR : Hid (R = none) := by
        show _ = _
        rw [H.out, rem_short d (s.drop i) (by rw [List.length_drop]; omega)]; rfl
      clear H HR
      go_wp2
      simp only [Exit.jump]
      go_ret2
      rw [hR.out]
      exact ⟨rfl, rfl⟩
    · have hlt : i + 1 < s.length := by omega
      have j0 : (0 : Int) ≤ (i : Int) := by omega
      have j1 : (i : Int) + 2 ≤ (s.length : Int) := by omega
      have H2 : Hid (R = (if s[i] = 123 ∧ s[i + 1] = 45 then (Lx.remM (d + 1) (s.drop (i + 2))).map (· + 2)
          else if s[i] = 45 ∧ s[i + 1] = 125 then (if d = 1 then some 2 else (Lx.remM (d - 1) (s.drop (i + 2))).map (· + 2))
          else (Lx.remM d (s.drop (i + 1))).map (· + 1)).map (· + (i - 2))) := by
        show _ = _
        rw [H.out, rem_two d s i hlt]
      have g1 := two_eq s i hlt 123 45
      have g2 := two_eq s i hlt 45 125
      clear H HR f1
      have hmap : ∀ (o : Option Nat) (a b c : Nat), a + b = c → (o.map (· + a)).map (· + b) = o.map (· + c) := fun o a b c h => by
        cases o with
        | none => rfl
        | some x => simp; omega
      have Hmap := Lib.hid hmap
      clear hmap
      by_cases ho : s[i] = 123 ∧ s[i + 1] = 45
      · rw [decide_eq_true ho] at g1
        clear g2
        have H3 := H2.out
        rw [if_pos ho, Hmap.out _ 2 (i - 2) (i + 2 - 2) (by omega)] at H3
        have H4 := Lib.hid H3
        have hdz : ((d : Int) + 1 == 0) = false := by simp; omega
        clear ho H2 H3
        go_wp2
        go_step3
        refine ⟨rfl, ⟨rfl, d + 1, i + 2, _, _, _, _, _, _, _, _, _, _, _, _, _, _, _, _, _, _, _, _, _, _, _, _, _, _, _, _, _, rfl, by omega, by omega, by omega, by omega, H4.out⟩, ?_⟩
        simp [intOf]; omega
      · rw [decide_eq_false ho] at g1
        have H3 := H2.out
        rw [if_neg ho] at H3
        by_cases hs : s[i] = 45 ∧ s[i + 1] = 125
        · rw [decide_eq_true hs] at g2
          rw [if_pos hs] at H3
          by_cases hd : d = 1
          · rw [if_pos hd] at H3
            subst hd
            have hR : Hid (R = some (2 + (i - 2))) := H3
            clear ho hs H2 H3
            go_wp2
            simp only [Exit.jump]
            go_ret2
            rw [hR.out]
            refine ⟨?_, rfl⟩
            show Ending.returned (Value.tuple #[Value.int .i64 ((i : Int) + 2), Value.bool true]) = Ending.returned (Value.tuple #[Value.int .i64 ((2 + (i - 2) + 2 : Nat) : Int), Value.bool true])
            rw [show ((2 + (i - 2) + 2 : Nat) : Int) = (i : Int) + 2 by omega]
          · rw [if_neg hd, Hmap.out _ 2 (i - 2) (i + 2 - 2) (by omega)] at H3
            have H4 := Lib.hid H3
            have hdz : ((d : Int) - 1 == 0) = false := by simp; omega
            obtain ⟨d, rfl⟩ : ∃ k, d = k + 1 := ⟨d - 1, by omega⟩
            clear ho hs H2 H3
            go_wp2
            go_step3
            refine ⟨rfl, ⟨rfl, d, i + 2, _, _, _, _, _, _, _, _, _, _, _, _, _, _, _, _, _, _, _, _, _, _, _, _, _, _, _, _, _, by congr 8 <;> omega, by omega, by omega, by omega, by omega, H4.out⟩, ?_⟩
            simp [intOf]; omega
        · rw [decide_eq_false hs] at g2
          rw [if_neg hs, Hmap.out _ 1 (i - 2) (i + 1 - 2) (by omega)] at H3
          have H4 := Lib.hid H3
          have hdz : ((d : Int) == 0) = false := by simp; omega
          clear ho hs H2 H3
          go_wp2
          go_step3
          refine ⟨rfl, ⟨rfl, d, i + 1, _, _, _, _, _, _, _, _, _, _, _, _, _, _, _, _, _, _, _, _, _, _, _, _, _, _, _, _, _, rfl, by omega, by omega, by omega, by omega, H4.out⟩, ?_⟩
          simp [intOf]; omega
end Go.Proofs.YtgpjcjnimheglaaGreatDoor
