/-
  JOINED of the texts UC
-/
import Derived.Test.YtalklmeejdmifaaGreatDoorJba
import Derived.Deep.DeepCutAuto
import Derived.Deep.RegionHeld3
import Derived.Lib.IndexMore
import Derived.Lib.Strings
import Derived.Test.YtalklmeejdmifaaGreatDoorRows
import Derived.WalkKit
import Derived.WalkSpells
import Derived.WalkLawsBesides
import Derived.Below
import Derived.Laws.OwnMore
import Derived.Deep.AppendLies
import Derived.Deep.Draws
import Derived.Lib.Hide
import Derived.Deep.QuietTactic
import Derived.BigQuiet
import Derived.IntWalk
import Derived.Lib.ConvBytes
import Derived.Laws.Strings3
import Derived.Laws.Closers25
import Derived.Laws.Closers25b
import Derived.BigCall
import Derived.BigGuard
import Derived.Test.YtalklmeejdmifaaGreatDoorShelfX
import Derived.Shelf.Spec.BytesIndexFunc
import Derived.Lib.RuneBytes
import Derived.Test.YtalklmeejdmifaaGreatDoorShelfW
import Derived.Shelf.Strings.SlTrimAscii
import Derived.Lib.LaidTab
import Derived.Lib.AtoiAll
import Derived.Lib.IndexLaws
import Derived.Lib.SlTrimSet
import Derived.Lib.ItoaNum
import Derived.Lib.Atoi
/-
  WALKS of the document's tokens (package amanuensisref2): Escape.
-/
namespace Go.Proofs.YtalklmeejdmifaaGreatDoor
open Go.RowKit

/-- what Escape answers -/
def rescV : Option (Nat × Nat) → Value
  | some (c, n) => .tuple #[.int .i64 c, .int .i64 ((n + 1 : Nat) : Int)]
  | none => .tuple #[.int .i64 0, .int .i64 0]

/-- the digits of sixteen, taken one by one -/
theorem hex_step (r : Bs) (j n : Nat) (h : Lx.hexN 0 (r.take j) = some n) (b : UInt8) (d : Nat) (hb : r[j]? = some b) (hd : Lx.hexV b = some d) : Lx.hexN 0 (r.take (j + 1)) = some (n * 16 + d) := by
  rw [List.take_add_one, hb]
  exact Lx.hexN_snoc _ _ _ _ _ h hd
theorem hex_small (r : Bs) (j n : Nat) (hj : j ≤ Lx.hexC 6 r) (h : Lx.hexN 0 (r.take j) = some n) : (n : Int) < 16777216 := by
  obtain ⟨m, hm, hlt⟩ := Lx.hexN_take 6 r j hj
  rw [h] at hm
  injection hm with hm
  subst hm
  have h6 := (Lx.hexC_le 6 r).1
  have h5 : 16 ^ j ≤ 16 ^ 6 := Nat.pow_le_pow_right (by omega) (by omega)
  have h7 : (16 : Nat) ^ 6 = 16777216 := by decide
  rw [h7] at h5
  omega

set_option maxHeartbeats 4000000 in
set_option maxRecDepth 100000 in
/-- the long way: \u{ and digits -/
theorem esc_code_walk (s : Bs) (i : Nat) (w : World) (h3 : i + 2 < s.length) (hu : s[i + 1] = 117) (hb : s[i + 2] = 123) (hl : s.length ≤ 100000000) :
    Calls Tryz.prog 160 #[.string ⟨s.toArray⟩, .int .i64 i] w fun e w' => e = .returned (rescV ((Lx.codeM (123 :: s.drop (i + 3))).map fun x => (x.1, x.2 + 1))) ∧ w' = w := by
  generalize hr : s.drop (i + 3) = r at *
  have hrl : r.length = s.length - (i + 3) := by rw [← hr, List.length_drop]
  have hget : ∀ j, r[j]? = s[i + 3 + j]? := fun j => by rw [← hr, List.getElem?_drop]
  have hle := Lx.hexC_le 6 r
  have hat := Lx.hexC_at 6 r
  have hend := Lx.hexC_end 6 r
  have hcr := fun n => Lx.code_ref r n
  have hst := hex_step r
  have hsm := hex_small r
  generalize hC : Lx.hexC 6 r = C at *
  have eu := bk_eq s (i + 1) (by omega) 117
  have en := bk_eq s (i + 1) (by omega) 110
  have et := bk_eq s (i + 1) (by omega) 116
  have eq := bk_eq s (i + 1) (by omega) 34
  have eb := bk_eq s (i + 1) (by omega) 92
  have eo := bk_eq s (i + 2) (by omega) 123
  rw [decide_eq_true hu] at eu
  rw [decide_eq_false (by rw [hu]; decide)] at en et eq eb
  rw [decide_eq_true hb] at eo
  rw [show (((117 : UInt8).toNat : Nat) : Int) = 117 from rfl] at eu
  rw [show (((110 : UInt8).toNat : Nat) : Int) = 110 from rfl] at en
  rw [show (((116 : UInt8).toNat : Nat) : Int) = 116 from rfl] at et
  rw [show (((34 : UInt8).toNat : Nat) : Int) = 34 from rfl] at eq
  rw [show (((92 : UInt8).toNat : Nat) : Int) = 92 from rfl] at eb
  rw [show (((123 : UInt8).toNat : Nat) : Int) = 123 from rfl] at eo
  have nu : ((((⟨s.toArray⟩ : ByteArray)[i + 1]'(by rw [mk_size]; omega)).toNat : Int) != 117) = false := by rw [bne, eu]; rfl
  have no : ((((⟨s.toArray⟩ : ByteArray)[i + 2]'(by rw [mk_size]; omega)).toNat : Int) != 123) = false := by rw [bne, eo]; rfl
  have j0 : (0 : Int) ≤ (i : Int) := by omega
  have j1 : ¬ (s.length : Int) ≤ (i : Int) + 1 := by omega
  have j2 : ¬ (s.length : Int) ≤ (i : Int) + 2 := by omega
  have j3 : (i : Int) + 1 < (s.length : Int) := by omega
  have j4 : (i : Int) + 2 < (s.length : Int) := by omega
  have Hget := Lib.hid hget
  have Hat := Lib.hid hat
  have Hend := Lib.hid hend
  have Hcr := Lib.hid hcr
  have Hst := Lib.hid hst
  have Hsm := Lib.hid hsm
  have Hrl := Lib.hid hrl
  have hC6 := hle.1
  have hCl : i + 3 + C ≤ s.length := by omega
  clear hget hat hend hcr hst hsm hle hr hC hu hb hrl
  generalize hQ0 : rescV ((Lx.codeM (123 :: r)).map fun x => (x.1, x.2 + 1)) = Q
  have HQ0 := Lib.hid hQ0
  clear hQ0
  go_enter Tryz.func160, Tryz.ntmps160
  go_wp2_with fail
  go_loop [7, 8] (fun kv nv => ∃ (j : Nat) (a : Int), kv = .int .i64 ((i + 3 + j : Nat) : Int) ∧ nv = .int .i64 a ∧ 0 ≤ a ∧ a < 16777216 ∧ j ≤ C ∧ Hid (∃ n : Nat, a = (n : Int) ∧ Lx.hexN 0 (r.take j) = some n)) (fun kv _ => s.length - (intOf kv).toNat)
  case atStart => exact ⟨0, 0, by go_num, rfl, by decide, by decide, Nat.zero_le _, 0, rfl, rfl⟩
  case round =>
    obtain ⟨j, a, rfl, rfl, ha0, ha1, hj, H⟩ := hrel
    generalize hk : i + 3 + j = k at *
    have k0 : (0 : Int) ≤ (k : Int) := by omega
    by_cases hlt : j < C
    · have hks : k < s.length := by omega
      obtain ⟨b, d, hb1, hd⟩ := Hat.out j hlt
      have hsk : s[k] = b := by
        have := Hget.out j
        rw [hb1, hk, List.getElem?_eq_getElem hks] at this
        injection this with this
        exact this.symm
      have hN : Hid (a * 16 + (d : Int) < 16777216 ∧ ∃ n : Nat, a * 16 + (d : Int) = (n : Int) ∧ Lx.hexN 0 (r.take (j + 1)) = some n) := by
        obtain ⟨n, rfl, hn⟩ := H.out
        have h4 := Hst.out j n hn b d hb1 hd
        have h5 := Hsm.out (j + 1) _ (by omega) h4
        exact ⟨by omega, n * 16 + d, by omega, h4⟩
      have hx : ∀ w, Calls Tryz.prog 202 #[.int .u8 (((⟨s.toArray⟩ : ByteArray)[k]'(by rw [mk_size]; exact hks)).toNat : Int)] w fun e w' => e = .returned (.int .i64 d) ∧ w' = w := fun w => by
        have := hexa_walk b w
        rw [show hexI b = (d : Int) by unfold hexI; rw [hd]] at this
        rw [show ((⟨s.toArray⟩ : ByteArray)[k]'(by rw [mk_size]; exact hks)).toNat = s[k].toNat from rfl, hsk]
        exact this
      have hd16 := (Lx.hex_no b d hd).2.2.2.2
      have k1 : (k : Int) < (s.length : Int) := by omega
      have k2 : (k : Int) < (i : Int) + 9 := by omega
      have k3 : ¬ (d : Int) < 0 := by omega
      clear hb1 hsk H hd Hget Hat Hend Hcr Hst Hsm Hrl hC6 hCl
      go_wp2_with fail
      refine (hx _).mono ?_
      clear hx
      rintro e w' ⟨rfl, rfl⟩
      go_wp2_with fail
      go_round
      case rel => exact ⟨j + 1, a * 16 + d, by congr 1; omega, rfl, by omega, hN.out.1, by omega, hN.out.2⟩
      case measure => simp [intOf]; omega
    · obtain rfl : j = C := by omega
      have hcode : Hid (∃ n : Nat, a = (n : Int) ∧ Lx.codeM (123 :: r) = if j = 0 ∨ r[j]? ≠ some 125 ∨ n > 1114111 ∨ (55296 ≤ n ∧ n ≤ 57343) then none else some (n, j + 2)) := by
        obtain ⟨n, h4, h5⟩ := H.out
        exact ⟨n, h4, Hcr.out n h5⟩
      have hway : (k < s.length ∧ j < 6 ∧ ∃ hks : k < s.length, Lx.hexV s[k] = none) ∨ (k < s.length ∧ j = 6) ∨ k = s.length := by
        rcases Nat.lt_or_ge k s.length with hks | hks
        · rcases Nat.lt_or_ge j 6 with h6 | h6
          · refine .inl ⟨hks, h6, hks, Hend.out h6 _ ?_⟩
            rw [Hget.out, hk, List.getElem?_eq_getElem hks]
          · exact .inr (.inl ⟨hks, by omega⟩)
        · exact .inr (.inr (by omega))
      have h125 : r[j]? = some 125 ↔ ∃ hks : k < s.length, s[k] = 125 := by
        rw [Hget.out, hk]
        constructor
        · intro h
          obtain ⟨hks, hv⟩ := List.getElem?_eq_some_iff.1 h
          exact ⟨hks, hv⟩
        · rintro ⟨hks, hv⟩
          exact List.getElem?_eq_some_iff.2 ⟨hks, hv⟩
      -- what is answered
      have hans : Hid ((j = 0 ∧ Q = rescV none) ∨ (j ≠ 0 ∧ k = s.length ∧ Q = rescV none) ∨ (j ≠ 0 ∧ ∃ hks : k < s.length, (s[k] ≠ 125 ∧ Q = rescV none) ∨ (s[k] = 125 ∧ ((1114111 < a ∧ Q = rescV none) ∨ (¬ 1114111 < a ∧ 55296 ≤ a ∧ a ≤ 57343 ∧ Q = rescV none) ∨ (¬ 1114111 < a ∧ ¬ 55296 ≤ a ∧ Q = .tuple #[.int .i64 a, .int .i64 ((j + 2 + 1 + 1 : Nat) : Int)]) ∨ (¬ 1114111 < a ∧ 55296 ≤ a ∧ ¬ a ≤ 57343 ∧ Q = .tuple #[.int .i64 a, .int .i64 ((j + 2 + 1 + 1 : Nat) : Int)]))))) := by
        obtain ⟨n, rfl, hc⟩ := hcode.out
        rw [← HQ0.out, hc]
        by_cases h0 : j = 0
        · exact .inl ⟨h0, by rw [if_pos (.inl h0)]; rfl⟩
        · by_cases hks : k < s.length
          · refine .inr (.inr ⟨h0, hks, ?_⟩)
            by_cases hv : s[k] = 125
            · refine .inr ⟨hv, ?_⟩
              have h1 : r[j]? = some 125 := h125.2 ⟨hks, hv⟩
              by_cases hn1 : 1114111 < n
              · exact .inl ⟨by omega, by rw [if_pos (.inr (.inr (.inl hn1)))]; rfl⟩
              · by_cases hn2 : 55296 ≤ n
                · by_cases hn3 : n ≤ 57343
                  · exact .inr (.inl ⟨by omega, by omega, by omega, by rw [if_pos (.inr (.inr (.inr ⟨hn2, hn3⟩)))]; rfl⟩)
                  · refine .inr (.inr (.inr ⟨by omega, by omega, by omega, ?_⟩))
                    rw [if_neg (by
                      rintro (h | h | h | h)
                      · exact h0 h
                      · exact h h1
                      · exact hn1 h
                      · exact hn3 h.2)]
                    rfl
                · refine .inr (.inr (.inl ⟨by omega, by omega, ?_⟩))
                  rw [if_neg (by
                    rintro (h | h | h | h)
                    · exact h0 h
                    · exact h h1
                    · exact hn1 h
                    · exact hn2 h.1)]
                  rfl
            · refine .inl ⟨hv, ?_⟩
              rw [if_pos (.inr (.inl fun h => hv (h125.1 h).2))]; rfl
          · refine .inr (.inl ⟨h0, by omega, ?_⟩)
            rw [if_pos (.inr (.inl fun h => hks (h125.1 h).1))]; rfl
      clear h125 hcode Hget Hat Hend Hcr Hst Hsm H Hrl HQ0
      have n125 : ∀ hks : k < s.length, ((((⟨s.toArray⟩ : ByteArray)[k]'(by rw [mk_size]; exact hks)).toNat : Int) != 125) = !decide (s[k] = 125) := fun hks => by
        have := bk_eq s k hks 125
        rw [show (((125 : UInt8).toNat : Nat) : Int) = 125 from rfl] at this
        rw [bne, this]
      have hx : ∀ hks : k < s.length, Lx.hexV s[k] = none → ∀ w, Calls Tryz.prog 202 #[.int .u8 (((⟨s.toArray⟩ : ByteArray)[k]'(by rw [mk_size]; exact hks)).toNat : Int)] w fun e w' => e = .returned (.int .i64 (-1)) ∧ w' = w := fun hks hd w => by
        have := hexa_walk s[k] w
        rw [show hexI s[k] = -1 by unfold hexI; rw [hd]] at this
        exact this
      rcases hans.out with ⟨h0, hQ⟩ | ⟨h0, hke, hQ⟩ | ⟨h0, hks, hv⟩
      · -- no digit
        have HQ := Lib.hid hQ
        clear hQ hans
        have z1 : ((k : Int) == (i : Int) + 3) = true := by simp; omega
        rcases hway with ⟨hks, h6, _, hd⟩ | ⟨hks, h6⟩ | hke
        · have k1 : (k : Int) < (s.length : Int) := by omega
          have k2 : (k : Int) < (i : Int) + 9 := by omega
          have hx := hx hks hd
          clear n125 hd
          go_wp2_with fail
          refine (hx _).mono ?_
          rintro e w' ⟨rfl, rfl⟩
          go_wp2_with fail
          go_ret2
          exact ⟨by rw [HQ.out]; rfl, rfl⟩
        · exfalso; omega
        · have k1 : ¬ (k : Int) < (s.length : Int) := by omega
          clear n125 hx
          go_wp2_with fail
          go_ret2
          exact ⟨by rw [HQ.out]; rfl, rfl⟩
      · have HQ := Lib.hid hQ
        clear hQ hans
        have z1 : ((k : Int) == (i : Int) + 3) = false := by simp; omega
        have k1 : ¬ (k : Int) < (s.length : Int) := by omega
        have k2 : (s.length : Int) ≤ (k : Int) := by omega
        clear n125 hx hway
        go_wp2_with fail
        go_ret2
        exact ⟨by rw [HQ.out]; rfl, rfl⟩
      · have z1 : ((k : Int) == (i : Int) + 3) = false := by simp; omega
        have k1 : (k : Int) < (s.length : Int) := by omega
        have k3 : ¬ (s.length : Int) ≤ (k : Int) := by omega
        have n5 := n125 hks
        clear n125
        have hway2 : (∃ (k2 : (k : Int) < (i : Int) + 9), ∀ w, Calls Tryz.prog 202 #[.int .u8 (((⟨s.toArray⟩ : ByteArray)[k]'(by rw [mk_size]; exact hks)).toNat : Int)] w fun e w' => e = .returned (.int .i64 (-1)) ∧ w' = w) ∨ ¬ (k : Int) < (i : Int) + 9 := by
          rcases hway with ⟨_, h6, _, hd⟩ | ⟨_, h6⟩ | hke
          · exact .inl ⟨by omega, hx hks hd⟩
          · exact .inr (by omega)
          · exfalso; omega
        clear hway hx hans
        rcases hv with ⟨hv, hQ⟩ | ⟨hv, hv3⟩
        · rw [decide_eq_false hv, Bool.not_false] at n5
          have HQ := Lib.hid hQ
          clear hv hQ
          rcases hway2 with ⟨k2, hx⟩ | k2
          · go_wp2_with fail
            refine (hx _).mono ?_
            rintro e w' ⟨rfl, rfl⟩
            go_wp2_with fail
            go_ret2
            exact ⟨by rw [HQ.out]; rfl, rfl⟩
          · go_wp2_with fail
            go_ret2
            exact ⟨by rw [HQ.out]; rfl, rfl⟩
        · rw [decide_eq_true hv, Bool.not_true] at n5
          clear hv
          rcases hv3 with ⟨m1, hQ⟩ | ⟨m1, m2, m3, hQ⟩ | ⟨m1, m2, hQ⟩ | ⟨m1, m2, m3, hQ⟩
          all_goals
            have HQ := Lib.hid hQ
            clear hQ
            rcases hway2 with ⟨k2, hx⟩ | k2
            · go_wp2_with fail
              refine (hx _).mono ?_
              rintro e w' ⟨rfl, rfl⟩
              go_wp2_with fail
              go_ret2
              refine ⟨?_, rfl⟩
              rw [HQ.out]
              first | rfl | (rw [show ((j + 2 + 1 + 1 : Nat) : Int) = (k : Int) + 1 - (i : Int) by omega]; rfl)
            · go_wp2_with fail
              go_ret2
              refine ⟨?_, rfl⟩
              rw [HQ.out]
              first | rfl | (rw [show ((j + 2 + 1 + 1 : Nat) : Int) = (k : Int) + 1 - (i : Int) by omega]; rfl)
end Go.Proofs.YtalklmeejdmifaaGreatDoor
