/-
  THE WALK of package lex's remark: a loop by goto.
-/
import Derived.Test.YtgpjcjnimheglaaGreatDoorLB
import Derived.WalkMore
import Derived.ScopeJumps
namespace Go.Proofs.YtgpjcjnimheglaaGreatDoor
open Go.RowKit

theorem rem_short (d : Nat) (l : Bs) (h : l.length ≤ 1) : Lx.remM d l = none := by
  rcases l with _ | ⟨a, _ | ⟨b, t⟩⟩
  · simp [Lx.remM]
  · simp [Lx.remM]
  · simp at h
theorem rem_two (d : Nat) (s : Bs) (i : Nat) (h : i + 1 < s.length) : Lx.remM d (s.drop i) =
    if s[i] = 123 ∧ s[i + 1] = 45 then (Lx.remM (d + 1) (s.drop (i + 2))).map (· + 2)
    else if s[i] = 45 ∧ s[i + 1] = 125 then (if d = 1 then some 2 else (Lx.remM (d - 1) (s.drop (i + 2))).map (· + 2))
    else (Lx.remM d (s.drop (i + 1))).map (· + 1) := by
  have e1 : s.drop i = s[i] :: s[i + 1] :: s.drop (i + 2) := by
    rw [List.drop_eq_getElem_cons (by omega), List.drop_eq_getElem_cons (by omega)]
  have e2 : s.drop (i + 1) = s[i + 1] :: s.drop (i + 2) := List.drop_eq_getElem_cons (by omega)
  rw [e1, e2, Lx.remM]
theorem two_eq (s : Bs) (i : Nat) (h : i + 1 < s.length) (a b : UInt8) : (((⟨s.toArray⟩ : ByteArray).extract i (i + 2)).toList == [a, b]) = decide (s[i] = a ∧ s[i + 1] = b) := by
  have e : ((⟨s.toArray⟩ : ByteArray).extract i (i + 2)).toList = [s[i], s[i + 1]] := by
    rw [Lib.toList_data, ext_data, show i + 2 - i = 2 by omega]
    show (s.drop i).take 2 = _
    rw [List.drop_eq_getElem_cons (by omega), List.drop_eq_getElem_cons (by omega)]
    rfl
  rw [e, Bool.eq_iff_iff]
  simp

set_option maxHeartbeats 2000000 in
set_option maxRecDepth 1000000 in
theorem remark_walk (s : Bs) (w : World) (hs : [123, 45].isPrefixOf s = true) (hl : s.length ≤ 100000000) :
    Calls Tryz.prog 110 #[.string ⟨s.toArray⟩] w fun e w' => e = .returned (.tuple #[.int .i64 (match Lx.remM 1 (s.drop 2) with | some k => ((k + 2 : Nat) : Int) | none => (s.length : Int)), .bool (Lx.remM 1 (s.drop 2)).isSome]) ∧ w' = w := by
  obtain ⟨t, rfl⟩ := Lx.prefix_two hs
  clear hs
  generalize hS : (123 :: 45 :: t : Bs) = s at *
  have h2 : 2 ≤ s.length := by rw [← hS]; simp
  have f1 : (((⟨s.toArray⟩ : ByteArray).extract 0 2).toList == [123, 45]) = true := by
    rw [two_eq s 0 (by omega)]; subst hS; rfl
  clear hS t
  generalize hR : Lx.remM 1 (s.drop 2) = R
  have HR := Lib.hid hR
  clear hR
  go_enter Tryz.func110, Tryz.ntmps110
  go_wp2
  refine wp_scope_jumps 0 (fun a' w' => w' = w ∧ ∃ (d i : Nat) (u6 u7 u8 u9 u10 u11 u12 u13 u14 u15 u16 u17 u18 u19 u20 u21 u22 u23 u24 u25 u26 u27 u28 u29 u30 u31 u32 u33 u34 : Value), a' = { tmps := #[.string ⟨s.toArray⟩, undef, .int .i64 0, .bool false, .int .i64 d, .int .i64 i, u6, u7, u8, u9, u10, u11, u12, u13, u14, u15, u16, u17, u18, u19, u20, u21, u22, u23, u24, u25, u26, u27, u28, u29, u30, u31, u32, u33, u34], defers := [] } ∧ 1 ≤ d ∧ d ≤ i ∧ 2 ≤ i ∧ i ≤ s.length ∧ Hid (R = (Lx.remM d (s.drop i)).map (· + (i - 2)))) (fun a' _ => s.length - (intOf (a'.tmps.getD 5 undef)).toNat) rfl ?_ ?_
  · have i1 : ¬ (s.length : Int) ≤ 1 := by omega
    have i2 : (2 : Int) ≤ (s.length : Int) := by omega
    go_wp2
    go_step3
    go_wp2
    go_step3
    refine ⟨rfl, rfl, 1, 2, _, _, _, _, _, _, _, _, _, _, _, _, _, _, _, _, _, _, _, _, _, _, _, _, _, _, _, _, _, rfl, by omega, by omega, by omega, h2, ?_⟩
    show _ = _
    rw [HR.out]
    cases R <;> rfl
  · rintro a' w' ⟨rfl, d, i, u6, u7, u8, u9, u10, u11, u12, u13, u14, u15, u16, u17, u18, u19, u20, u21, u22, u23, u24, u25, u26, u27, u28, u29, u30, u31, u32, u33, u34, rfl, hd1, hdi, hi2, hil, H⟩
    by_cases hend : (s.length : Int) ≤ (i : Int) + 1
    · have hR : Hid (R = none) := by
        show _ = _
        rw [H.out, rem_short d (s.drop i) (by rw [List.length_drop]; omega)]; rfl
      clear H HR
      go_wp2
      simp only [Exit.jump]
      go_ret2
      rw [hR.out]
      exact ⟨rfl, rfl⟩
    · have hlt : i + 1 < s.length := by omega
      have j0 : (0 : Int) ≤ (i : Int) := by omega
      have j1 : (i : Int) + 2 ≤ (s.length : Int) := by omega
      have H2 : Hid (R = (if s[i] = 123 ∧ s[i + 1] = 45 then (Lx.remM (d + 1) (s.drop (i + 2))).map (· + 2)
          else if s[i] = 45 ∧ s[i + 1] = 125 then (if d = 1 then some 2 else (Lx.remM (d - 1) (s.drop (i + 2))).map (· + 2))
          else (Lx.remM d (s.drop (i + 1))).map (· + 1)).map (· + (i - 2))) := by
        show _ = _
        rw [H.out, rem_two d s i hlt]
      have g1 := two_eq s i hlt 123 45
      have g2 := two_eq s i hlt 45 125
      clear H HR f1
      have hmap : ∀ (o : Option Nat) (a b c : Nat), a + b = c → (o.map (· + a)).map (· + b) = o.map (· + c) := fun o a b c h => by
        cases o with
        | none => rfl
        | some x => simp; omega
      have Hmap := Lib.hid hmap
      clear hmap
      by_cases ho : s[i] = 123 ∧ s[i + 1] = 45
      · rw [decide_eq_true ho] at g1
        clear g2
        have H3 := H2.out
        rw [if_pos ho, Hmap.out _ 2 (i - 2) (i + 2 - 2) (by omega)] at H3
        have H4 := Lib.hid H3
        have hdz : ((d : Int) + 1 == 0) = false := by simp; omega
        clear ho H2 H3
        go_wp2
        go_step3
        refine ⟨rfl, ⟨rfl, d + 1, i + 2, _, _, _, _, _, _, _, _, _, _, _, _, _, _, _, _, _, _, _, _, _, _, _, _, _, _, _, _, _, rfl, by omega, by omega, by omega, by omega, H4.out⟩, ?_⟩
        simp [intOf]; omega
      · rw [decide_eq_false ho] at g1
        have H3 := H2.out
        rw [if_neg ho] at H3
        by_cases hs : s[i] = 45 ∧ s[i + 1] = 125
        · rw [decide_eq_true hs] at g2
          rw [if_pos hs] at H3
          by_cases hd : d = 1
          · rw [if_pos hd] at H3
            subst hd
            have hR : Hid (R = some (2 + (i - 2))) := H3
            clear ho hs H2 H3
            go_wp2
            simp only [Exit.jump]
            go_ret2
            rw [hR.out]
            refine ⟨?_, rfl⟩
            show Ending.returned (Value.tuple #[Value.int .i64 ((i : Int) + 2), Value.bool true]) = Ending.returned (Value.tuple #[Value.int .i64 ((2 + (i - 2) + 2 : Nat) : Int), Value.bool true])
            rw [show ((2 + (i - 2) + 2 : Nat) : Int) = (i : Int) + 2 by omega]
          · rw [if_neg hd, Hmap.out _ 2 (i - 2) (i + 2 - 2) (by omega)] at H3
            have H4 := Lib.hid H3
            have hdz : ((d : Int) - 1 == 0) = false := by simp; omega
            obtain ⟨d, rfl⟩ : ∃ k, d = k + 1 := ⟨d - 1, by omega⟩
            clear ho hs H2 H3
            go_wp2
            go_step3
            refine ⟨rfl, ⟨rfl, d, i + 2, _, _, _, _, _, _, _, _, _, _, _, _, _, _, _, _, _, _, _, _, _, _, _, _, _, _, _, _, _, by congr 8 <;> omega, by omega, by omega, by omega, by omega, H4.out⟩, ?_⟩
            simp [intOf]; omega
        · rw [decide_eq_false hs] at g2
          rw [if_neg hs, Hmap.out _ 1 (i - 2) (i + 1 - 2) (by omega)] at H3
          have H4 := Lib.hid H3
          have hdz : ((d : Int) == 0) = false := by simp; omega
          clear ho hs H2 H3
          go_wp2
          go_step3
          refine ⟨rfl, ⟨rfl, d, i + 1, _, _, _, _, _, _, _, _, _, _, _, _, _, _, _, _, _, _, _, _, _, _, _, _, _, _, _, _, _, rfl, by omega, by omega, by omega, by omega, H4.out⟩, ?_⟩
          simp [intOf]; omega
end Go.Proofs.YtgpjcjnimheglaaGreatDoor
