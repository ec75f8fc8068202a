/-
  JOINED of the texts LF LI LG
-/
import Derived.Test.YtgpjcjnimheglaaGreatDoorJac
import Derived.Test.YtgpjcjnimheglaaGreatDoorJad
import Derived.Lib.ConvBytes
import Derived.Laws.Strings3
import Derived.Laws.Closers25
import Derived.Laws.Closers25b
import Derived.BigCall
import Derived.BigGuard
import Derived.Test.YtgpjcjnimheglaaGreatDoorShelfX
import Derived.Shelf.Spec.BytesIndexFunc
import Derived.Deep.RegionHeld3
import Derived.Deep.DeepCutAuto
import Derived.Lib.IndexMore
import Derived.Lib.Strings
import Derived.Test.YtgpjcjnimheglaaGreatDoorRows
import Derived.WalkKit
import Derived.WalkSpells
import Derived.WalkLawsBesides
import Derived.Below
import Derived.Laws.OwnMore
import Derived.Deep.AppendLies
import Derived.Deep.Draws
import Derived.Lib.Hide
import Derived.Deep.QuietTactic
import Derived.BigQuiet
import Derived.IntWalk
import Derived.Lib.RuneBytes
import Derived.Test.YtgpjcjnimheglaaGreatDoorShelfW
import Derived.Shelf.Strings.SlTrimAscii
import Derived.Lib.LaidTab
import Derived.Lib.AtoiAll
import Derived.Lib.IndexLaws
import Derived.Lib.SlTrimSet
import Derived.Lib.ItoaNum
import Derived.Lib.Atoi
import Derived.WalkMore
import Derived.ScopeJumps
/-
  WALKS of package lex: code, escape.
-/
namespace Go.Proofs.YtgpjcjnimheglaaGreatDoor
open Go.RowKit

set_option maxHeartbeats 2000000 in
set_option maxRecDepth 100000 in
theorem hexint0_walk (l : Bs) (w : World) (h1 : 1 ≤ l.length) (h6 : l.length ≤ 6) (hall : ∀ b ∈ l, ∃ d, Lx.hexV b = some d) (n : Nat) (hn : Lx.hexN 0 l = some n) (hlt : (n : Int) < 16777216) :
    Calls Tryz.prog 166 #[.string ⟨l.toArray⟩, .int .i64 16, .int .i64 32] w fun e w' => e = .returned (.tuple #[.int .i64 n, .nilIface]) ∧ Below w.heap.size w w' := by
  have hU := hexuint_walk l w h1 h6 hall n hn
  have hne : (l == []) = false := by cases l <;> simp at h1 ⊢
  have h0 : 0 < l.length := by omega
  obtain ⟨d, hd⟩ := hall l[0] (List.getElem_mem h0)
  have hw := hex_ways l[0] d hd
  have f1 : ((((⟨l.toArray⟩ : ByteArray)[0]'(by rw [mk_size]; exact h0)).toNat : Int) == 43) = false := by
    rw [show ((⟨l.toArray⟩ : ByteArray)[0]'(by rw [mk_size]; exact h0)).toNat = l[0].toNat from rfl]
    simp; rcases hw with h | ⟨v, _, _, _, _, h, _⟩ <;> omega
  have f2 : ((((⟨l.toArray⟩ : ByteArray)[0]'(by rw [mk_size]; exact h0)).toNat : Int) == 45) = false := by
    rw [show ((⟨l.toArray⟩ : ByteArray)[0]'(by rw [mk_size]; exact h0)).toNat = l[0].toNat from rfl]
    simp; rcases hw with h | ⟨v, _, _, _, _, h, _⟩ <;> omega
  have hcv : IntKind.u64.wrap 2147483648 = 2147483648 := by rw [IntKind.wrap_u64]; decide
  obtain ⟨a, ha⟩ : ∃ a : Int, a = (n : Int) := ⟨_, rfl⟩
  have a0 : 0 ≤ a := by omega
  have a1 : a < 16777216 := by omega
  rw [← ha] at hU ⊢
  clear hw hd hall hn hlt ha
  go_enter Tryz.func166, Tryz.ntmps166
  go_wp2_with fail
  refine hU.mono ?_
  clear hU
  rintro e w' ⟨rfl, hb⟩
  go_wp2_with fail
  go_ret2
  exact ⟨rfl, hb⟩

set_option maxRecDepth 100000 in
theorem hexint_walk (l : Bs) (w : World) (h1 : 1 ≤ l.length) (h6 : l.length ≤ 6) (hall : ∀ b ∈ l, ∃ d, Lx.hexV b = some d) (n : Nat) (hn : Lx.hexN 0 l = some n) (hlt : (n : Int) < 16777216) :
    Calls Tryz.prog 174 #[.string ⟨l.toArray⟩, .int .i64 16, .int .i64 32] w fun e w' => e = .returned (.tuple #[.int .i64 n, .nilIface]) ∧ Below w.heap.size w w' := by
  have hU := hexint0_walk l w h1 h6 hall n hn hlt
  obtain ⟨a, ha⟩ : ∃ a : Int, a = (n : Int) := ⟨_, rfl⟩
  rw [← ha] at hU ⊢
  clear hall hn hlt ha
  go_enter Tryz.func174, Tryz.ntmps174
  go_wp2_with fail
  refine hU.mono ?_
  clear hU
  rintro e w' ⟨rfl, hb⟩
  go_wp2_with fail
  go_ret2
  exact ⟨rfl, hb⟩
def codeV : Option (Nat × Nat) → Value
  | some (c, n) => .tuple #[.int .i32 c, .int .i64 n]
  | none => .tuple #[.int .i32 0, .int .i64 0]
theorem htrim_walk (s : Bs) (w : World) (hs : s.length ≤ 100000000) : Calls Tryz.prog 164 #[.string ⟨s.toArray⟩, .string ⟨#[48, 49, 50, 51, 52, 53, 54, 55, 56, 57, 97, 98, 99, 100, 101, 102, 65, 66, 67, 68, 69, 70]⟩] w fun e w' => e = .returned (.string ⟨(Lib.trimS s Lx.hexs).toArray⟩) ∧ Below w.heap.size w w' :=
  Any.strings_Trim_laid Tryz.lays160 (by kernel_rfl) ⟨s.toArray⟩ ⟨#[48, 49, 50, 51, 52, 53, 54, 55, 56, 57, 97, 98, 99, 100, 101, 102, 65, 66, 67, 68, 69, 70]⟩ w (by rw [mk_size]; omega) (by decide) (ascii_of_all (by decide))
theorem cut_walk1 (c : UInt8) (s : Bs) (m : Int) (w : World) (hM : MaxL w m) (hs : s.length ≤ 100000000) : Calls Tryz.prog 109 #[.string ⟨s.toArray⟩, .string ⟨#[c]⟩] w fun e w' => e = .returned (.tuple #[.string ⟨(s.takeWhile (· != c)).toArray⟩, .string ⟨(Lib.cut s [c]).2.1.toArray⟩, .bool (decide (c ∈ s))]) ∧ ∃ n, w' = w.drewN n := by
  have h := Tryz.strings_Cut ⟨s.toArray⟩ ⟨#[c]⟩ m w (by rw [mk_size]; omega) hM
  have h1 := (Lx.cut_byte c s).1
  have h2 := (Lx.cut_byte c s).2
  rw [show (⟨s.toArray⟩ : ByteArray).data.toList = s from rfl, show (⟨#[c]⟩ : ByteArray).data.toList = [c] from rfl, h1, h2] at h
  exact h
theorem pre_walk (s p : Bs) (w : World) : Calls Tryz.prog 108 #[.string ⟨s.toArray⟩, .string ⟨p.toArray⟩] w fun e w' => e = .returned (.bool (p.isPrefixOf s)) ∧ w' = w :=
  Tryz.strings_HasPrefix ⟨s.toArray⟩ ⟨p.toArray⟩ w

theorem six_lt (D : Bs) (n : Nat) (h : Lx.hexN 0 D = some n) (h6 : D.length ≤ 6) : (n : Int) < 16777216 := by
  have hn := Lx.hexN_lt D 0 n h
  have h5 : 16 ^ D.length ≤ 16 ^ 6 := Nat.pow_le_pow_right (by omega) h6
  have h7 : (16 : Nat) ^ 6 = 16777216 := by decide
  rw [h7] at h5
  omega

set_option maxHeartbeats 1000000 in
set_option maxRecDepth 100000 in
theorem code_walk (l : Bs) (m : Int) (w : World) (hM : MaxL w m) (hl : l.length ≤ 100000000) :
    Calls Tryz.prog 154 #[.string ⟨l.toArray⟩] w fun e w' => e = .returned (codeV (Lx.codeM l)) ∧ Below w.heap.size w w' := by
  have hP : Calls Tryz.prog 108 #[.string ⟨l.toArray⟩, .string ⟨#[123]⟩] w fun e w' => e = .returned (.bool ([123].isPrefixOf l)) ∧ w' = w := pre_walk l [123] w
  generalize hC : Lx.codeM l = C
  have HC := Lib.hid hC
  clear hC
  cases hp : [(123 : UInt8)].isPrefixOf l with
  | false =>
    have hN : Hid (C = none) := by
      show _ = _
      rw [← HC.out]
      refine Lx.code_no l fun h => ?_
      cases l with
      | nil => simp at h
      | cons a t => simp at h; subst h; simp [List.isPrefixOf] at hp
    rw [hp] at hP
    clear hp HC
    go_enter Tryz.func154, Tryz.ntmps154
    go_wp2_with fail
    refine hP.mono ?_
    rintro e w' ⟨rfl, rfl⟩
    go_wp2_with fail
    go_ret2
    rw [hN.out]
    exact ⟨rfl, Below.refl _ _⟩
  | true =>
    rw [hp] at hP
    obtain ⟨r, rfl⟩ : ∃ r, l = 123 :: r := by
      cases l with
      | nil => simp [List.isPrefixOf] at hp
      | cons a t => simp [List.isPrefixOf] at hp; exact ⟨t, by rw [hp]⟩
    have hlen : (123 :: r).length = r.length + 1 := rfl
    have hcut := cut_walk1 125 r m w hM (by omega)
    have hex := ext_drop (123 :: r) 1
    rw [show List.drop 1 (123 :: r) = r from rfl] at hex
    rw [← hex] at hcut
    have hge : 1 ≤ (123 :: r).length := by omega
    have Hlen := Lib.hid hlen
    have hdl : (r.takeWhile (· != 125)).length ≤ r.length := (List.takeWhile_sublist _).length_le
    have HCe : Hid (C = if ¬ ((125 : UInt8) ∈ r) then none else if (r.takeWhile (· != 125)).length < 1 ∨ 6 < (r.takeWhile (· != 125)).length then none else match Lx.hexN 0 (r.takeWhile (· != 125)) with | none => none | some n => if n > 1114111 ∨ (55296 ≤ n ∧ n ≤ 57343) then none else some (n, (r.takeWhile (· != 125)).length + 2)) := by
      show _ = _
      rw [← HC.out]
      rfl
    have hway := Lx.hex_way (r.takeWhile (· != 125))
    have htr := fun w => htrim_walk (r.takeWhile (· != 125)) w (by omega)
    have hpi := fun w => hexint_walk (r.takeWhile (· != 125)) w
    generalize hL : (123 :: r : Bs) = L at *
    generalize r.takeWhile (· != 125) = D at *
    generalize (Lib.cut r [125]).2.1 = Y at *
    have Hex := Lib.hid hex
    clear hp hex HC hlen
    by_cases hf : (125 : UInt8) ∈ r
    · have H1 := HCe.out
      rw [if_neg (by simpa using hf)] at H1
      rw [decide_eq_true hf] at hcut
      clear HCe hf
      by_cases h1 : D.length < 1
      · have hN : Hid (C = none) := by show _ = _; rw [H1, if_pos (.inl h1)]
        have h1' : D.length = 0 := by omega
        clear H1 hway htr hpi
        go_enter Tryz.func154, Tryz.ntmps154
        go_wp2_with fail
        refine hP.mono ?_
        rintro e w' ⟨rfl, rfl⟩
        go_wp2_with fail
        refine hcut.mono ?_
        rintro e w2 ⟨rfl, n, rfl⟩
        go_wp2_with fail
        go_ret2
        rw [hN.out]
        exact ⟨rfl, below_drewN (Below.refl _ _) n⟩
      · by_cases h6 : 6 < D.length
        · have hN : Hid (C = none) := by show _ = _; rw [H1, if_pos (.inr h6)]
          clear H1 hway htr hpi
          go_enter Tryz.func154, Tryz.ntmps154
          go_wp2_with fail
          refine hP.mono ?_
          rintro e w' ⟨rfl, rfl⟩
          go_wp2_with fail
          refine hcut.mono ?_
          rintro e w2 ⟨rfl, n, rfl⟩
          go_wp2_with fail
          go_ret2
          rw [hN.out]
          exact ⟨rfl, below_drewN (Below.refl _ _) n⟩
        · rw [if_neg (by omega)] at H1
          rcases hway with ⟨g1, g2, n, g3⟩ | ⟨g1, g2⟩
          · rw [g3] at H1
            have hnI : (n : Int) < 16777216 := six_lt D n g3 (by omega)
            have hi := fun w => hpi w (by omega) (by omega) g2 n g3 hnI
            have H2 : Hid (C = if n > 1114111 ∨ (55296 ≤ n ∧ n ≤ 57343) then none else some (n, D.length + 2)) := H1
            rw [g1] at htr
            clear H1 hpi g1 g2 g3
            obtain ⟨a, ha⟩ : ∃ a : Int, a = (n : Int) := ⟨_, rfl⟩
            rw [← ha] at hi hnI
            have a0 : 0 ≤ a := by omega
            have Ha := Lib.hid ha
            have hcase : (1114111 < a) ∨ (¬ 1114111 < a ∧ 55296 ≤ a ∧ a ≤ 57343) ∨ (¬ 1114111 < a ∧ ¬ 55296 ≤ a) ∨ (¬ 1114111 < a ∧ 55296 ≤ a ∧ ¬ a ≤ 57343) := by omega
            clear ha
            rcases hcase with q | ⟨q, q2, q3⟩ | ⟨q, q2⟩ | ⟨q, q2, q3⟩
            · have hN : Hid (C = none) := by show _ = _; rw [H2.out, if_pos (by have := Ha.out; omega)]
              clear H2
              go_enter Tryz.func154, Tryz.ntmps154
              go_wp2_with fail
              refine hP.mono ?_
              rintro e w' ⟨rfl, rfl⟩
              go_wp2_with fail
              refine hcut.mono ?_
              rintro e w2 ⟨rfl, k, rfl⟩
              go_wp2_with fail
              refine (htr _).mono ?_
              rintro e w3 ⟨rfl, hb3⟩
              go_wp2_with fail
              refine (hi _).mono ?_
              rintro e w4 ⟨rfl, hb4⟩
              go_wp2_with fail
              go_ret2
              rw [hN.out]
              exact ⟨rfl, (below_drewN (Below.refl _ _) k).trans (hb3.trans (hb4.mono hb3.size))⟩
            · have hN : Hid (C = none) := by show _ = _; rw [H2.out, if_pos (by have := Ha.out; omega)]
              clear H2
              go_enter Tryz.func154, Tryz.ntmps154
              go_wp2_with fail
              refine hP.mono ?_
              rintro e w' ⟨rfl, rfl⟩
              go_wp2_with fail
              refine hcut.mono ?_
              rintro e w2 ⟨rfl, k, rfl⟩
              go_wp2_with fail
              refine (htr _).mono ?_
              rintro e w3 ⟨rfl, hb3⟩
              go_wp2_with fail
              refine (hi _).mono ?_
              rintro e w4 ⟨rfl, hb4⟩
              go_wp2_with fail
              go_ret2
              rw [hN.out]
              exact ⟨rfl, (below_drewN (Below.refl _ _) k).trans (hb3.trans (hb4.mono hb3.size))⟩
            all_goals
              have hN : Hid (C = some (n, D.length + 2)) := by show _ = _; rw [H2.out, if_neg (by have := Ha.out; omega)]
              clear H2
              go_enter Tryz.func154, Tryz.ntmps154
              go_wp2_with fail
              refine hP.mono ?_
              rintro e w' ⟨rfl, rfl⟩
              go_wp2_with fail
              refine hcut.mono ?_
              rintro e w2 ⟨rfl, k, rfl⟩
              go_wp2_with fail
              refine (htr _).mono ?_
              rintro e w3 ⟨rfl, hb3⟩
              go_wp2_with fail
              refine (hi _).mono ?_
              rintro e w4 ⟨rfl, hb4⟩
              go_wp2_with fail
              go_ret2
              rw [hN.out]
              exact ⟨by show _ = Ending.returned (.tuple #[.int .i32 (n : Int), .int .i64 ((D.length + 2 : Nat) : Int)]); rw [← Ha.out]; rfl, (below_drewN (Below.refl _ _) k).trans (hb3.trans (hb4.mono hb3.size))⟩
          · rw [g2] at H1
            have hN : Hid (C = none) := H1
            have g1' : (Lib.trimS D Lx.hexs == []) = false := by simpa using g1
            clear H1 hpi g1 g2
            generalize Lib.trimS D Lx.hexs = TT at *
            go_enter Tryz.func154, Tryz.ntmps154
            go_wp2_with fail
            refine hP.mono ?_
            rintro e w' ⟨rfl, rfl⟩
            go_wp2_with fail
            refine hcut.mono ?_
            rintro e w2 ⟨rfl, k, rfl⟩
            go_wp2_with fail
            refine (htr _).mono ?_
            rintro e w3 ⟨rfl, hb3⟩
            go_wp2_with fail
            go_ret2
            rw [hN.out]
            exact ⟨rfl, (below_drewN (Below.refl _ _) k).trans hb3⟩
    · have hN : Hid (C = none) := by show _ = _; rw [HCe.out, if_pos (by simpa using hf)]
      rw [decide_eq_false hf] at hcut
      clear HCe hf hway htr hpi
      go_enter Tryz.func154, Tryz.ntmps154
      go_wp2_with fail
      refine hP.mono ?_
      rintro e w' ⟨rfl, rfl⟩
      go_wp2_with fail
      refine hcut.mono ?_
      rintro e w2 ⟨rfl, n, rfl⟩
      go_wp2_with fail
      go_ret2
      rw [hN.out]
      exact ⟨rfl, below_drewN (Below.refl _ _) n⟩
end Go.Proofs.YtgpjcjnimheglaaGreatDoor
/-
  WALKS of package lex: sign, Word.
-/
namespace Go.Proofs.YtgpjcjnimheglaaGreatDoor
open Go.RowKit

def IdxP (r : Int) (l : List Bs) (x : Bs) : Prop := decide (0 ≤ r) = l.contains x
set_option maxHeartbeats 1000000 in
set_option maxRecDepth 100000 in
theorem index_walk (A : Option Addr) (c : Nat) (l : List Bs) (x : Bs) (w : World) (h1 : Rd w w.heap.size 1 A l.length (txtV l)) (hl : l.length ≤ 4194304) :
    Calls Tryz.prog 128 #[.slice A l.length c, .string ⟨x.toArray⟩] w fun e w' => ∃ r : Int, e = .returned (.int .i64 r) ∧ IdxP r l x ∧ w' = w := by
  go_enter Tryz.func128, Tryz.ntmps128
  go_wp2_with fail
  go_loop [8] (fun i => ∃ k : Nat, k ≤ l.length ∧ i = .int .i64 k ∧ Hid (x ∉ l.take k)) (fun i => l.length - (intOf i).toNat)
  case atStart => exact ⟨0, Nat.zero_le _, rfl, by show _ ∉ _; simp⟩
  case round =>
    obtain ⟨k, hk, rfl, H⟩ := hrel
    by_cases hlt : k < l.length
    · obtain ⟨b, o, rfl, hbB, c0⟩ := Rd.txt h1 hlt
      have i1 : (0 : Int) ≤ (k : Int) := by omega
      have i2 : (k : Int) < (l.length : Int) := by omega
      have Hst : Hid (x ≠ l[k] → x ∉ l.take (k + 1)) := fun h => by
        rw [List.take_succ_eq_append_getElem hlt, List.mem_append, List.mem_singleton]
        rintro (h2 | h2)
        · exact H.out h2
        · exact h h2
      have Hin : Hid (x = l[k] → l.contains x = true) := fun h => by rw [h]; simp
      unfold strV at c0
      generalize l[k] = y at *
      by_cases hxy : x = y
      · have hc := Lib.hid (Hin.out hxy)
        subst hxy
        go_wp2_with fail
        go_ret
        exact ⟨_, rfl, by unfold IdxP; rw [hc.out]; simp, rfl⟩
      · have d1 : (x == y) = false := by simp [hxy]
        have Hn := Lib.hid (Hst.out hxy)
        clear hxy
        go_wp2_with fail
        go_round
        case rel => exact ⟨k + 1, by omega, by go_num, Hn.out⟩
        case measure => simp [intOf]; omega
    · obtain rfl : k = l.length := by omega
      have hc : Hid (l.contains x = false) := by
        show _ = _
        have := H.out
        rw [List.take_length] at this
        simpa using this
      go_wp2_with fail
      go_ret
      exact ⟨_, rfl, by unfold IdxP; rw [hc.out]; rfl, rfl⟩

set_option maxRecDepth 100000 in
theorem contains_walk (A : Option Addr) (c : Nat) (l : List Bs) (x : Bs) (w : World) (h1 : Rd w w.heap.size 1 A l.length (txtV l)) (hl : l.length ≤ 4194304) :
    Calls Tryz.prog 89 #[.slice A l.length c, .string ⟨x.toArray⟩] w fun e w' => e = .returned (.bool (l.contains x)) ∧ w' = w := by
  have hI := index_walk A c l x w h1 hl
  go_enter Tryz.func89, Tryz.ntmps89
  go_wp2_with fail
  refine hI.mono ?_
  clear hI
  rintro e w' ⟨r, rfl, Hr, rfl⟩
  go_wp2_with fail
  go_ret
  exact ⟨by rw [← show decide (0 ≤ r) = l.contains x from Hr]; rfl, rfl⟩

/-- the words of the language lie in their variable -/
def WordsIs (w : World) : Prop := Rd w w.heap.size 1 (some ⟨1, 0, none⟩) Lx.words.length (txtV Lx.words)
theorem WordsIs.below {w w' : World} (h : WordsIs w) (hb : Below w.heap.size w w') : WordsIs w' := (Rd.below h hb).more hb.size

set_option maxRecDepth 100000 in
theorem word_walk (x : Bs) (w : World) (hW : WordsIs w) :
    Calls Tryz.prog 114 #[.string ⟨x.toArray⟩] w fun e w' => e = .returned (.bool (Lx.wordM x)) ∧ w' = w := by
  have hC : Calls Tryz.prog 89 #[.slice (some ⟨1, 0, none⟩) 12 12, .string ⟨x.toArray⟩] w fun e w' => e = .returned (.bool (Lx.wordM x)) ∧ w' = w := contains_walk (some ⟨1, 0, none⟩) 12 Lx.words x w hW (by decide)
  go_enter Tryz.func114, Tryz.ntmps114
  go_wp2_with fail
  refine hC.mono ?_
  rintro e w' ⟨rfl, rfl⟩
  go_wp2_with fail
  go_ret
  exact ⟨rfl, rfl⟩

set_option maxHeartbeats 1000000 in
set_option maxRecDepth 100000 in
theorem sign_walk (l : Bs) (w : World) (hne : l ≠ []) :
    Calls Tryz.prog 116 #[.string ⟨l.toArray⟩] w fun e w' => e = .returned (.int .i64 (Lx.signM l)) ∧ Below w.heap.size w w' := by
  have h0 : 0 < l.length := List.length_pos_iff.2 hne
  have p1 : ∀ w, Calls Tryz.prog 108 #[.string ⟨l.toArray⟩, .string ⟨#[61, 62]⟩] w fun e w' => e = .returned (.bool ([61, 62].isPrefixOf l)) ∧ w' = w := fun w => pre_walk l [61, 62] w
  have p2 : ∀ w, Calls Tryz.prog 108 #[.string ⟨l.toArray⟩, .string ⟨#[61, 61]⟩] w fun e w' => e = .returned (.bool ([61, 61].isPrefixOf l)) ∧ w' = w := fun w => pre_walk l [61, 61] w
  have p3 : ∀ w, Calls Tryz.prog 108 #[.string ⟨l.toArray⟩, .string ⟨#[43, 43]⟩] w fun e w' => e = .returned (.bool ([43, 43].isPrefixOf l)) ∧ w' = w := fun w => pre_walk l [43, 43] w
  have hI : ∀ w, Calls Tryz.prog 93 #[.string ⟨#[40, 41, 91, 93, 44, 59, 61, 60, 43, 45, 42, 46, 63]⟩, .int .u8 (((⟨l.toArray⟩ : ByteArray)[0]'(by rw [mk_size]; exact h0)).toNat : Int)] w fun e w' => ∃ r : Int, e = .returned (.int .i64 r) ∧ decide (0 ≤ r) = Lx.signs.contains l[0] ∧ w' = w := fun w =>
    (Tryz.strings_IndexByte ⟨#[40, 41, 91, 93, 44, 59, 61, 60, 43, 45, 42, 46, 63]⟩ (((⟨l.toArray⟩ : ByteArray)[0]'(by rw [mk_size]; exact h0)).toNat : Int) w).mono fun e w' h => ⟨_, h.1, by
      have h2 := Lx.ix_sign l[0]
      have e : ((((⟨l.toArray⟩ : ByteArray)[0]'(by rw [mk_size]; exact h0)).toNat : Int).toNat.toUInt8) = l[0] := by
        show (l[0].toNat).toUInt8 = l[0]
        exact UInt8.toNat_inj.1 (by simp [Nat.toUInt8])
      rw [e]
      exact h2, h.2⟩
  have hS : Lx.signM l = if [61, 62].isPrefixOf l || [61, 61].isPrefixOf l || [43, 43].isPrefixOf l then 2 else if Lx.signs.contains l[0] then 1 else 0 := by
    unfold Lx.signM Lx.twoM
    cases l with
    | nil => exact absurd rfl hne
    | cons a t => rfl
  rw [hS]
  clear hS
  generalize [(61 : UInt8), 62].isPrefixOf l = q1 at *
  generalize [(61 : UInt8), 61].isPrefixOf l = q2 at *
  generalize [(43 : UInt8), 43].isPrefixOf l = q3 at *
  generalize Lx.signs.contains l[0] = q4 at *
  have hb : Below w.heap.size w (w.alloc (.cells #[.string ⟨#[61, 62]⟩, .string ⟨#[61, 61]⟩, .string ⟨#[43, 43]⟩] 9)) := (Below.refl _ _).alloc (Nat.le_refl _) _
  clear hne
  go_enter Tryz.func116, Tryz.ntmps116
  go_wp2_with fail
  go_loop [7] (fun i => ∃ k : Nat, i = .int .i64 k ∧ k ≤ 3 ∧ Hid ((0 < k → q1 = false) ∧ (1 < k → q2 = false) ∧ (2 < k → q3 = false))) (fun i => 3 - (intOf i).toNat)
  case atStart => exact ⟨0, rfl, by omega, (by refine ⟨fun h => ?_, fun h => ?_, fun h => ?_⟩ <;> first | rfl | trivial | (exfalso; omega))⟩
  case round =>
    obtain ⟨k, rfl, hk, H⟩ := hrel
    have hc : k = 0 ∨ k = 1 ∨ k = 2 ∨ k = 3 := by omega
    rcases hc with rfl | rfl | rfl | rfl
    · cases q1 with
      | true =>
        go_wp2_with fail
        refine (p1 _).mono ?_
        rintro e w' ⟨rfl, rfl⟩
        go_wp2_with fail
        go_ret
        exact ⟨rfl, hb⟩
      | false =>
        go_wp2_with fail
        refine (p1 _).mono ?_
        rintro e w' ⟨rfl, rfl⟩
        go_wp2_with fail
        go_round
        case rel => exact ⟨1, by go_num, by omega, (by refine ⟨fun h => ?_, fun h => ?_, fun h => ?_⟩ <;> first | rfl | trivial | (exfalso; omega))⟩
        case measure => simp [intOf]
    · obtain rfl := H.out.1 (by omega)
      cases q2 with
      | true =>
        go_wp2_with fail
        refine (p2 _).mono ?_
        rintro e w' ⟨rfl, rfl⟩
        go_wp2_with fail
        go_ret
        exact ⟨rfl, hb⟩
      | false =>
        go_wp2_with fail
        refine (p2 _).mono ?_
        rintro e w' ⟨rfl, rfl⟩
        go_wp2_with fail
        go_round
        case rel => exact ⟨2, by go_num, by omega, (by refine ⟨fun h => ?_, fun h => ?_, fun h => ?_⟩ <;> first | rfl | trivial | (exfalso; omega))⟩
        case measure => simp [intOf]
    · obtain rfl := H.out.1 (by omega)
      obtain rfl := H.out.2.1 (by omega)
      cases q3 with
      | true =>
        go_wp2_with fail
        refine (p3 _).mono ?_
        rintro e w' ⟨rfl, rfl⟩
        go_wp2_with fail
        go_ret
        exact ⟨rfl, hb⟩
      | false =>
        go_wp2_with fail
        refine (p3 _).mono ?_
        rintro e w' ⟨rfl, rfl⟩
        go_wp2_with fail
        go_round
        case rel => exact ⟨3, by go_num, by omega, (by refine ⟨fun h => ?_, fun h => ?_, fun h => ?_⟩ <;> first | rfl | trivial | (exfalso; omega))⟩
        case measure => simp [intOf]
    · obtain rfl := H.out.1 (by omega)
      obtain rfl := H.out.2.1 (by omega)
      obtain rfl := H.out.2.2 (by omega)
      go_wp2_with fail
      refine (hI _).mono ?_
      rintro e w' ⟨r, rfl, hr, rfl⟩
      cases q4 with
      | true =>
        have hr2 : 0 ≤ r := of_decide_eq_true hr
        clear hr
        go_wp2_with fail
        go_ret
        exact ⟨rfl, hb⟩
      | false =>
        have hr2 : ¬ 0 ≤ r := of_decide_eq_false hr
        clear hr
        go_wp2_with fail
        go_ret
        exact ⟨rfl, hb⟩
end Go.Proofs.YtgpjcjnimheglaaGreatDoor
/-
  WALKS of package lex: escape.
-/
namespace Go.Proofs.YtgpjcjnimheglaaGreatDoor
open Go.RowKit

def escV : Option (Nat × Nat) → Value
  | some (c, n) => .tuple #[.string (Utf8.encode c), .int .i64 n]
  | none => .tuple #[.string ⟨#[]⟩, .int .i64 0]
theorem b0_eq (L : Bs) (h : 0 < L.length) (k : UInt8) : ((((⟨L.toArray⟩ : ByteArray)[0]'(by rw [mk_size]; exact h)).toNat : Int) == (k.toNat : Int)) = decide (L[0] = k) := by
  rw [show ((⟨L.toArray⟩ : ByteArray)[0]'(by rw [mk_size]; exact h)).toNat = L[0].toNat from rfl, Bool.eq_iff_iff]
  simp only [beq_iff_eq, decide_eq_true_eq]
  constructor
  · intro e; exact UInt8.toNat_inj.1 (by omega)
  · intro e; rw [e]
theorem bk_eq (L : Bs) (i : Nat) (h : i < L.length) (k : UInt8) : ((((⟨L.toArray⟩ : ByteArray)[i]'(by rw [mk_size]; exact h)).toNat : Int) == (k.toNat : Int)) = decide (L[i] = k) := by
  rw [show ((⟨L.toArray⟩ : ByteArray)[i]'(by rw [mk_size]; exact h)).toNat = L[i].toNat from rfl, Bool.eq_iff_iff]
  simp only [beq_iff_eq, decide_eq_true_eq]
  constructor
  · intro e; exact UInt8.toNat_inj.1 (by omega)
  · intro e; rw [e]
theorem enc34 : Utf8.encode 34 = ⟨#[34]⟩ := by decide
theorem enc92 : Utf8.encode 92 = ⟨#[92]⟩ := by decide
theorem enc10 : Utf8.encode 10 = ⟨#[10]⟩ := by decide
theorem enc9 : Utf8.encode 9 = ⟨#[9]⟩ := by decide

set_option maxHeartbeats 1000000 in
set_option maxRecDepth 100000 in
theorem escape_walk (l : Bs) (m : Int) (w : World) (hM : MaxL w m) (hl : l.length ≤ 100000000) :
    Calls Tryz.prog 140 #[.string ⟨l.toArray⟩] w fun e w' => e = .returned (escV (Lx.escM l)) ∧ Below w.heap.size w w' := by
  cases l with
  | nil =>
    go_enter Tryz.func140, Tryz.ntmps140
    go_wp2_with fail
    go_ret2
    exact ⟨rfl, Below.refl _ _⟩
  | cons a r =>
    have hE : Lx.escM (a :: r) = if a = 110 then some (10, 1) else if a = 116 then some (9, 1) else if a = 34 ∨ a = 92 then some (a.toNat, 1) else if a = 117 then (Lx.codeM r).map fun x => (x.1, x.2 + 1) else none := rfl
    rw [hE]
    clear hE
    have hlen : (a :: r).length = r.length + 1 := rfl
    have hcode := code_walk r m w hM (by omega)
    have hcl := fun c n (h : Lx.codeM r = some (c, n)) => (show 3 ≤ n ∧ (n : Int) ≤ 100000000 from ⟨(Lx.code_le r c n h).1, by have := (Lx.code_le r c n h).2.1; omega⟩)
    have hex := ext_drop (a :: r) 1
    rw [show List.drop 1 (a :: r) = r from rfl] at hex
    rw [← hex] at hcode
    have hx1 : (⟨(a :: r).toArray⟩ : ByteArray).extract 0 1 = ⟨#[a]⟩ := by
      have := ext_str (a :: r) 0 1
      unfold strV at this
      injection this
    have h0 : 0 < (a :: r).length := by omega
    have h1 : 1 ≤ (a :: r).length := by omega
    have e110 := b0_eq (a :: r) h0 110
    have e116 := b0_eq (a :: r) h0 116
    have e34 := b0_eq (a :: r) h0 34
    have e92 := b0_eq (a :: r) h0 92
    have e117 := b0_eq (a :: r) h0 117
    rw [show (a :: r)[0] = a from rfl] at e110 e116 e34 e92 e117
    have hne : ((a :: r : Bs) == []) = false := rfl
    have d110 : (((110 : UInt8).toNat : Nat) : Int) = 110 := rfl
    have d116 : (((116 : UInt8).toNat : Nat) : Int) = 116 := rfl
    have d34 : (((34 : UInt8).toNat : Nat) : Int) = 34 := rfl
    have d92 : (((92 : UInt8).toNat : Nat) : Int) = 92 := rfl
    have d117 : (((117 : UInt8).toNat : Nat) : Int) = 117 := rfl
    rw [d110] at e110
    rw [d116] at e116
    rw [d34] at e34
    rw [d92] at e92
    rw [d117] at e117
    have Hx1 := Lib.hid hx1
    clear d110 d116 d34 d92 d117 hex hx1 hlen
    generalize hC : Lx.codeM r = C at *
    clear hC
    generalize (a :: r : Bs) = L at *
    by_cases g1 : a = 110
    · rw [if_pos g1]
      rw [decide_eq_true g1] at e110
      clear e116 e34 e92 e117 g1 hcode hcl
      go_enter Tryz.func140, Tryz.ntmps140
      go_wp2_with fail
      go_ret2
      exact ⟨by show _ = Ending.returned (.tuple #[.string (Utf8.encode 10), .int .i64 1]); rw [enc10]; rfl, Below.refl _ _⟩
    · rw [if_neg g1]
      rw [decide_eq_false g1] at e110
      by_cases g2 : a = 116
      · rw [if_pos g2]
        rw [decide_eq_true g2] at e116
        clear e34 e92 e117 g1 g2 hcode hcl
        go_enter Tryz.func140, Tryz.ntmps140
        go_wp2_with fail
        go_ret2
        exact ⟨by show _ = Ending.returned (.tuple #[.string (Utf8.encode 9), .int .i64 1]); rw [enc9]; rfl, Below.refl _ _⟩
      · rw [if_neg g2]
        rw [decide_eq_false g2] at e116
        by_cases g3 : a = 34
        · rw [if_pos (.inl g3)]
          rw [decide_eq_true g3] at e34
          subst g3
          clear e92 e117 g1 g2 hcode hcl
          go_enter Tryz.func140, Tryz.ntmps140
          go_wp2_with fail
          go_ret2
          exact ⟨by show _ = Ending.returned (.tuple #[.string (Utf8.encode 34), .int .i64 1]); rw [enc34, ← Hx1.out]; rfl, Below.refl _ _⟩
        · rw [decide_eq_false g3] at e34
          by_cases g4 : a = 92
          · rw [if_pos (.inr g4)]
            rw [decide_eq_true g4] at e92
            subst g4
            clear e117 g1 g2 g3 hcode hcl
            go_enter Tryz.func140, Tryz.ntmps140
            go_wp2_with fail
            go_ret2
            exact ⟨by show _ = Ending.returned (.tuple #[.string (Utf8.encode 92), .int .i64 1]); rw [enc92, ← Hx1.out]; rfl, Below.refl _ _⟩
          · rw [decide_eq_false g4] at e92
            rw [if_neg (by rintro (h | h); exact g3 h; exact g4 h)]
            by_cases g5 : a = 117
            · rw [if_pos g5]
              rw [decide_eq_true g5] at e117
              clear g1 g2 g3 g4 g5 Hx1
              cases C with
              | none =>
                clear hcl
                have hcode : Calls Tryz.prog 154 _ w fun e w' => e = .returned (.tuple #[.int .i32 0, .int .i64 0]) ∧ Below w.heap.size w w' := hcode
                go_enter Tryz.func140, Tryz.ntmps140
                go_wp2_with fail
                refine hcode.mono ?_
                rintro e w2 ⟨rfl, hb⟩
                go_wp2_with fail
                go_ret2
                exact ⟨rfl, hb⟩
              | some x =>
                obtain ⟨c, n⟩ := x
                have hn := hcl c n rfl
                clear hcl
                have hn0 : (0 : Int) < (n : Int) := by omega
                have hn1 := hn.2
                have hcode : Calls Tryz.prog 154 _ w fun e w' => e = .returned (.tuple #[.int .i32 c, .int .i64 n]) ∧ Below w.heap.size w w' := hcode
                go_enter Tryz.func140, Tryz.ntmps140
                go_wp2_with fail
                refine hcode.mono ?_
                rintro e w2 ⟨rfl, hb⟩
                go_wp2_with fail
                go_ret2
                exact ⟨by show _ = Ending.returned (.tuple #[.string (Utf8.encode c), .int .i64 ((n + 1 : Nat) : Int)]); rw [show ((n + 1 : Nat) : Int) = (n : Int) + 1 by omega]; rfl, hb⟩
            · rw [if_neg g5]
              rw [decide_eq_false g5] at e117
              clear g1 g2 g3 g4 g5 Hx1 hcode hcl
              go_enter Tryz.func140, Tryz.ntmps140
              go_wp2_with fail
              go_ret2
              exact ⟨rfl, Below.refl _ _⟩
end Go.Proofs.YtgpjcjnimheglaaGreatDoor
