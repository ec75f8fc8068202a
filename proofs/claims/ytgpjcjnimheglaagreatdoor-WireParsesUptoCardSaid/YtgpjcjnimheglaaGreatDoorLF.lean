/-
  WALKS of package lex: code, escape.
-/
import Derived.Test.YtgpjcjnimheglaaGreatDoorLE
import Derived.Test.YtgpjcjnimheglaaGreatDoorWL
import Derived.Test.YtgpjcjnimheglaaGreatDoorLS
namespace Go.Proofs.YtgpjcjnimheglaaGreatDoor
open Go.RowKit

set_option maxHeartbeats 2000000 in
set_option maxRecDepth 100000 in
theorem hexint0_walk (l : Bs) (w : World) (h1 : 1 ≤ l.length) (h6 : l.length ≤ 6) (hall : ∀ b ∈ l, ∃ d, Lx.hexV b = some d) (n : Nat) (hn : Lx.hexN 0 l = some n) (hlt : (n : Int) < 16777216) :
    Calls Tryz.prog 166 #[.string ⟨l.toArray⟩, .int .i64 16, .int .i64 32] w fun e w' => e = .returned (.tuple #[.int .i64 n, .nilIface]) ∧ Below w.heap.size w w' := by
  have hU := hexuint_walk l w h1 h6 hall n hn
  have hne : (l == []) = false := by cases l <;> simp at h1 ⊢
  have h0 : 0 < l.length := by omega
  obtain ⟨d, hd⟩ := hall l[0] (List.getElem_mem h0)
  have hw := hex_ways l[0] d hd
  have f1 : ((((⟨l.toArray⟩ : ByteArray)[0]'(by rw [mk_size]; exact h0)).toNat : Int) == 43) = false := by
    rw [show ((⟨l.toArray⟩ : ByteArray)[0]'(by rw [mk_size]; exact h0)).toNat = l[0].toNat from rfl]
    simp; rcases hw with h | ⟨v, _, _, _, _, h, _⟩ <;> omega
  have f2 : ((((⟨l.toArray⟩ : ByteArray)[0]'(by rw [mk_size]; exact h0)).toNat : Int) == 45) = false := by
    rw [show ((⟨l.toArray⟩ : ByteArray)[0]'(by rw [mk_size]; exact h0)).toNat = l[0].toNat from rfl]
    simp; rcases hw with h | ⟨v, _, _, _, _, h, _⟩ <;> omega
  have hcv : IntKind.u64.wrap 2147483648 = 2147483648 := by rw [IntKind.wrap_u64]; decide
  obtain ⟨a, ha⟩ : ∃ a : Int, a = (n : Int) := ⟨_, rfl⟩
  have a0 : 0 ≤ a := by omega
  have a1 : a < 16777216 := by omega
  rw [← ha] at hU ⊢
  clear hw hd hall hn hlt ha
  go_enter Tryz.func166, Tryz.ntmps166
  go_wp2_with fail
  refine hU.mono ?_
  clear hU
  rintro e w' ⟨rfl, hb⟩
  go_wp2_with fail
  go_ret2
  exact ⟨rfl, hb⟩

set_option maxRecDepth 100000 in
theorem hexint_walk (l : Bs) (w : World) (h1 : 1 ≤ l.length) (h6 : l.length ≤ 6) (hall : ∀ b ∈ l, ∃ d, Lx.hexV b = some d) (n : Nat) (hn : Lx.hexN 0 l = some n) (hlt : (n : Int) < 16777216) :
    Calls Tryz.prog 174 #[.string ⟨l.toArray⟩, .int .i64 16, .int .i64 32] w fun e w' => e = .returned (.tuple #[.int .i64 n, .nilIface]) ∧ Below w.heap.size w w' := by
  have hU := hexint0_walk l w h1 h6 hall n hn hlt
  obtain ⟨a, ha⟩ : ∃ a : Int, a = (n : Int) := ⟨_, rfl⟩
  rw [← ha] at hU ⊢
  clear hall hn hlt ha
  go_enter Tryz.func174, Tryz.ntmps174
  go_wp2_with fail
  refine hU.mono ?_
  clear hU
  rintro e w' ⟨rfl, hb⟩
  go_wp2_with fail
  go_ret2
  exact ⟨rfl, hb⟩
def codeV : Option (Nat × Nat) → Value
  | some (c, n) => .tuple #[.int .i32 c, .int .i64 n]
  | none => .tuple #[.int .i32 0, .int .i64 0]
theorem htrim_walk (s : Bs) (w : World) (hs : s.length ≤ 100000000) : Calls Tryz.prog 164 #[.string ⟨s.toArray⟩, .string ⟨#[48, 49, 50, 51, 52, 53, 54, 55, 56, 57, 97, 98, 99, 100, 101, 102, 65, 66, 67, 68, 69, 70]⟩] w fun e w' => e = .returned (.string ⟨(Lib.trimS s Lx.hexs).toArray⟩) ∧ Below w.heap.size w w' :=
  Any.strings_Trim_laid Tryz.lays160 (by kernel_rfl) ⟨s.toArray⟩ ⟨#[48, 49, 50, 51, 52, 53, 54, 55, 56, 57, 97, 98, 99, 100, 101, 102, 65, 66, 67, 68, 69, 70]⟩ w (by rw [mk_size]; omega) (by decide) (ascii_of_all (by decide))
theorem cut_walk1 (c : UInt8) (s : Bs) (m : Int) (w : World) (hM : MaxL w m) (hs : s.length ≤ 100000000) : Calls Tryz.prog 109 #[.string ⟨s.toArray⟩, .string ⟨#[c]⟩] w fun e w' => e = .returned (.tuple #[.string ⟨(s.takeWhile (· != c)).toArray⟩, .string ⟨(Lib.cut s [c]).2.1.toArray⟩, .bool (decide (c ∈ s))]) ∧ ∃ n, w' = w.drewN n := by
  have h := Tryz.strings_Cut ⟨s.toArray⟩ ⟨#[c]⟩ m w (by rw [mk_size]; omega) hM
  have h1 := (Lx.cut_byte c s).1
  have h2 := (Lx.cut_byte c s).2
  rw [show (⟨s.toArray⟩ : ByteArray).data.toList = s from rfl, show (⟨#[c]⟩ : ByteArray).data.toList = [c] from rfl, h1, h2] at h
  exact h
theorem pre_walk (s p : Bs) (w : World) : Calls Tryz.prog 108 #[.string ⟨s.toArray⟩, .string ⟨p.toArray⟩] w fun e w' => e = .returned (.bool (p.isPrefixOf s)) ∧ w' = w :=
  Tryz.strings_HasPrefix ⟨s.toArray⟩ ⟨p.toArray⟩ w

theorem six_lt (D : Bs) (n : Nat) (h : Lx.hexN 0 D = some n) (h6 : D.length ≤ 6) : (n : Int) < 16777216 := by
  have hn := Lx.hexN_lt D 0 n h
  have h5 : 16 ^ D.length ≤ 16 ^ 6 := Nat.pow_le_pow_right (by omega) h6
  have h7 : (16 : Nat) ^ 6 = 16777216 := by decide
  rw [h7] at h5
  omega

set_option maxHeartbeats 1000000 in
set_option maxRecDepth 100000 in
theorem code_walk (l : Bs) (m : Int) (w : World) (hM : MaxL w m) (hl : l.length ≤ 100000000) :
    Calls Tryz.prog 154 #[.string ⟨l.toArray⟩] w fun e w' => e = .returned (codeV (Lx.codeM l)) ∧ Below w.heap.size w w' := by
  have hP : Calls Tryz.prog 108 #[.string ⟨l.toArray⟩, .string ⟨#[123]⟩] w fun e w' => e = .returned (.bool ([123].isPrefixOf l)) ∧ w' = w := pre_walk l [123] w
  generalize hC : Lx.codeM l = C
  have HC := Lib.hid hC
  clear hC
  cases hp : [(123 : UInt8)].isPrefixOf l with
  | false =>
    have hN : Hid (C = none) := by
      show _ = _
      rw [← HC.out]
      refine Lx.code_no l fun h => ?_
      cases l with
      | nil => simp at h
      | cons a t => simp at h; subst h; simp [List.isPrefixOf] at hp
    rw [hp] at hP
    clear hp HC
    go_enter Tryz.func154, Tryz.ntmps154
    go_wp2_with fail
    refine hP.mono ?_
    rintro e w' ⟨rfl, rfl⟩
    go_wp2_with fail
    go_ret2
    rw [hN.out]
    exact ⟨rfl, Below.refl _ _⟩
  | true =>
    rw [hp] at hP
    obtain ⟨r, rfl⟩ : ∃ r, l = 123 :: r := by
      cases l with
      | nil => simp [List.isPrefixOf] at hp
      | cons a t => simp [List.isPrefixOf] at hp; exact ⟨t, by rw [hp]⟩
    have hlen : (123 :: r).length = r.length + 1 := rfl
    have hcut := cut_walk1 125 r m w hM (by omega)
    have hex := ext_drop (123 :: r) 1
    rw [show List.drop 1 (123 :: r) = r from rfl] at hex
    rw [← hex] at hcut
    have hge : 1 ≤ (123 :: r).length := by omega
    have Hlen := Lib.hid hlen
    have hdl : (r.takeWhile (· != 125)).length ≤ r.length := (List.takeWhile_sublist _).length_le
    have HCe : Hid (C = if ¬ ((125 : UInt8) ∈ r) then none else if (r.takeWhile (· != 125)).length < 1 ∨ 6 < (r.takeWhile (· != 125)).length then none else match Lx.hexN 0 (r.takeWhile (· != 125)) with | none => none | some n => if n > 1114111 ∨ (55296 ≤ n ∧ n ≤ 57343) then none else some (n, (r.takeWhile (· != 125)).length + 2)) := by
      show _ = _
      rw [← HC.out]
      rfl
    have hway := Lx.hex_way (r.takeWhile (· != 125))
    have htr := fun w => htrim_walk (r.takeWhile (· != 125)) w (by omega)
    have hpi := fun w => hexint_walk (r.takeWhile (· != 125)) w
    generalize hL : (123 :: r : Bs) = L at *
    generalize r.takeWhile (· != 125) = D at *
    generalize (Lib.cut r [125]).2.1 = Y at *
    have Hex := Lib.hid hex
    clear hp hex HC hlen
    by_cases hf : (125 : UInt8) ∈ r
    · have H1 := HCe.out
      rw [if_neg (by simpa using hf)] at H1
      rw [decide_eq_true hf] at hcut
      clear HCe hf
      by_cases h1 : D.length < 1
      · have hN : Hid (C = none) := by show _ = _; rw [H1, if_pos (.inl h1)]
        have h1' : D.length = 0 := by omega
        clear H1 hway htr hpi
        go_enter Tryz.func154, Tryz.ntmps154
        go_wp2_with fail
        refine hP.mono ?_
        rintro e w' ⟨rfl, rfl⟩
        go_wp2_with fail
        refine hcut.mono ?_
        rintro e w2 ⟨rfl, n, rfl⟩
        go_wp2_with fail
        go_ret2
        rw [hN.out]
        exact ⟨rfl, below_drewN (Below.refl _ _) n⟩
      · by_cases h6 : 6 < D.length
        · have hN : Hid (C = none) := by show _ = _; rw [H1, if_pos (.inr h6)]
          clear H1 hway htr hpi
          go_enter Tryz.func154, Tryz.ntmps154
          go_wp2_with fail
          refine hP.mono ?_
          rintro e w' ⟨rfl, rfl⟩
          go_wp2_with fail
          refine hcut.mono ?_
          rintro e w2 ⟨rfl, n, rfl⟩
          go_wp2_with fail
          go_ret2
          rw [hN.out]
          exact ⟨rfl, below_drewN (Below.refl _ _) n⟩
        · rw [if_neg (by omega)] at H1
          rcases hway with ⟨g1, g2, n, g3⟩ | ⟨g1, g2⟩
          · rw [g3] at H1
            have hnI : (n : Int) < 16777216 := six_lt D n g3 (by omega)
            have hi := fun w => hpi w (by omega) (by omega) g2 n g3 hnI
            have H2 : Hid (C = if n > 1114111 ∨ (55296 ≤ n ∧ n ≤ 57343) then none else some (n, D.length + 2)) := H1
            rw [g1] at htr
            clear H1 hpi g1 g2 g3
            obtain ⟨a, ha⟩ : ∃ a : Int, a = (n : Int) := ⟨_, rfl⟩
            rw [← ha] at hi hnI
            have a0 : 0 ≤ a := by omega
            have Ha := Lib.hid ha
            have hcase : (1114111 < a) ∨ (¬ 1114111 < a ∧ 55296 ≤ a ∧ a ≤ 57343) ∨ (¬ 1114111 < a ∧ ¬ 55296 ≤ a) ∨ (¬ 1114111 < a ∧ 55296 ≤ a ∧ ¬ a ≤ 57343) := by omega
            clear ha
            rcases hcase with q | ⟨q, q2, q3⟩ | ⟨q, q2⟩ | ⟨q, q2, q3⟩
            · have hN : Hid (C = none) := by show _ = _; rw [H2.out, if_pos (by have := Ha.out; omega)]
              clear H2
              go_enter Tryz.func154, Tryz.ntmps154
              go_wp2_with fail
              refine hP.mono ?_
              rintro e w' ⟨rfl, rfl⟩
              go_wp2_with fail
              refine hcut.mono ?_
              rintro e w2 ⟨rfl, k, rfl⟩
              go_wp2_with fail
              refine (htr _).mono ?_
              rintro e w3 ⟨rfl, hb3⟩
              go_wp2_with fail
              refine (hi _).mono ?_
              rintro e w4 ⟨rfl, hb4⟩
              go_wp2_with fail
              go_ret2
              rw [hN.out]
              exact ⟨rfl, (below_drewN (Below.refl _ _) k).trans (hb3.trans (hb4.mono hb3.size))⟩
            · have hN : Hid (C = none) := by show _ = _; rw [H2.out, if_pos (by have := Ha.out; omega)]
              clear H2
              go_enter Tryz.func154, Tryz.ntmps154
              go_wp2_with fail
              refine hP.mono ?_
              rintro e w' ⟨rfl, rfl⟩
              go_wp2_with fail
              refine hcut.mono ?_
              rintro e w2 ⟨rfl, k, rfl⟩
              go_wp2_with fail
              refine (htr _).mono ?_
              rintro e w3 ⟨rfl, hb3⟩
              go_wp2_with fail
              refine (hi _).mono ?_
              rintro e w4 ⟨rfl, hb4⟩
              go_wp2_with fail
              go_ret2
              rw [hN.out]
              exact ⟨rfl, (below_drewN (Below.refl _ _) k).trans (hb3.trans (hb4.mono hb3.size))⟩
            all_goals
              have hN : Hid (C = some (n, D.length + 2)) := by show _ = _; rw [H2.out, if_neg (by have := Ha.out; omega)]
              clear H2
              go_enter Tryz.func154, Tryz.ntmps154
              go_wp2_with fail
              refine hP.mono ?_
              rintro e w' ⟨rfl, rfl⟩
              go_wp2_with fail
              refine hcut.mono ?_
              rintro e w2 ⟨rfl, k, rfl⟩
              go_wp2_with fail
              refine (htr _).mono ?_
              rintro e w3 ⟨rfl, hb3⟩
              go_wp2_with fail
              refine (hi _).mono ?_
              rintro e w4 ⟨rfl, hb4⟩
              go_wp2_with fail
              go_ret2
              rw [hN.out]
              exact ⟨by show _ = Ending.returned (.tuple #[.int .i32 (n : Int), .int .i64 ((D.length + 2 : Nat) : Int)]); rw [← Ha.out]; rfl, (below_drewN (Below.refl _ _) k).trans (hb3.trans (hb4.mono hb3.size))⟩
          · rw [g2] at H1
            have hN : Hid (C = none) := H1
            have g1' : (Lib.trimS D Lx.hexs == []) = false := by simpa using g1
            clear H1 hpi g1 g2
            generalize Lib.trimS D Lx.hexs = TT at *
            go_enter Tryz.func154, Tryz.ntmps154
            go_wp2_with fail
            refine hP.mono ?_
            rintro e w' ⟨rfl, rfl⟩
            go_wp2_with fail
            refine hcut.mono ?_
            rintro e w2 ⟨rfl, k, rfl⟩
            go_wp2_with fail
            refine (htr _).mono ?_
            rintro e w3 ⟨rfl, hb3⟩
            go_wp2_with fail
            go_ret2
            rw [hN.out]
            exact ⟨rfl, (below_drewN (Below.refl _ _) k).trans hb3⟩
    · have hN : Hid (C = none) := by show _ = _; rw [HCe.out, if_pos (by simpa using hf)]
      rw [decide_eq_false hf] at hcut
      clear HCe hf hway htr hpi
      go_enter Tryz.func154, Tryz.ntmps154
      go_wp2_with fail
      refine hP.mono ?_
      rintro e w' ⟨rfl, rfl⟩
      go_wp2_with fail
      refine hcut.mono ?_
      rintro e w2 ⟨rfl, n, rfl⟩
      go_wp2_with fail
      go_ret2
      rw [hN.out]
      exact ⟨rfl, below_drewN (Below.refl _ _) n⟩
end Go.Proofs.YtgpjcjnimheglaaGreatDoor
