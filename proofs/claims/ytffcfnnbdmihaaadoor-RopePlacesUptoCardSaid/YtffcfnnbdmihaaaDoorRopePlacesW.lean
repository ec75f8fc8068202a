/-
  THE WALK of the law RopePlaces.
-/
import Derived.Test.YtffcfnnbdmihaaaDoorRefFind
namespace Go.Proofs.YtffcfnnbdmihaaaDoor
open Go.RowKit

theorem le_of_wf {n : Int} (h : (Lit.int .i64 n).wf = true) : n ≤ 9223372036854775807 := by
  have h2 := (Bool.and_eq_true_iff.1 h).2
  have h3 := of_decide_eq_true h2
  exact h3
theorem cAt_le (T : List UInt8) (i : Nat) : cAt T i ≤ 2097152 := by
  unfold cAt dec
  have h0 := byte_lt (T.drop i) 0
  generalize byteAt (T.drop i) 0 = a at *
  generalize byteAt (T.drop i) 1 = b at *
  generalize byteAt (T.drop i) 2 = c at *
  generalize byteAt (T.drop i) 3 = d at *
  have h1 : Utf8.runeError ≤ 2097152 := by decide
  split
  · show a ≤ _; omega
  split
  · split
    · show a % 32 * 64 + b % 64 ≤ _; omega
    · exact h1
  split
  · split
    · show a % 16 * 4096 + b % 64 * 64 + c % 64 ≤ _; omega
    · exact h1
  split
  · split
    · show a % 8 * 262144 + b % 64 * 4096 + c % 64 * 64 + d % 64 ≤ _; omega
    · exact h1
  · exact h1

set_option maxHeartbeats 4000000 in
set_option maxRecDepth 100000 in
theorem ropePlaces_walk (s0 x : ByteArray) (from_ at_ line unit : Int) (w : World) (hT : T8 w) (hbk : s0.size + x.size ≤ 1048576) (hun : unit ≤ 9223372036854775807) :
    Calls Tryd.prog 4 #[.string s0, .string x, .int .i64 from_, .int .i64 at_, .int .i64 line, .int .i64 unit] w fun e w' => e = .returned (.bool true) ∧ Below w.heap.size w w' := by
  obtain ⟨N, hN⟩ : ∃ N : Nat, (max unit 0).toNat = N := ⟨_, rfl⟩
  have hNu : (unit < 0 ∧ N = 0) ∨ (unit = (N : Int)) := by omega
  have hNb : (N : Int) ≤ 9223372036854775807 := by omega
  have HN := Lib.hid hN
  have HNu := Lib.hid hNu
  clear hN hNu
  have hways : (0 ≤ from_ ∧ from_ ≤ s0.size) ∨ (0 ≤ from_ ∧ ¬ from_ ≤ (s0.size : Int)) ∨ ¬ 0 ≤ from_ := by omega
  go_enter Tryd.func4, Tryd.ntmps4
  go_wp2_with fail
  refine (new_walk s0 _ (by omega)).mono ?_
  rintro e w1 ⟨r0, rfl, hr0, hR1, hb1⟩
  have hT1 := hT.below hb1
  have key : ∃ P : ByteArray → Nat → World → Prop, P = fun s r wr => T8 wr ∧ s.size ≤ 1048576 ∧ RopeAt wr r s ∧ Below w.heap.size w wr := ⟨_, rfl⟩
  obtain ⟨P, hP⟩ := key
  rcases hways with ⟨q1, q2⟩ | ⟨q1, q2⟩ | q1
  · obtain ⟨f, rfl⟩ := Int.eq_ofNat_of_zero_le q1
    have q3 : f ≤ s0.size := by omega
    have hrep : repl s0 x f s0.size = s0.extract 0 f ++ x := by
      unfold repl
      have : s0.extract s0.size s0.size = ⟨#[]⟩ := ByteArray.ext (by simp)
      rw [this]
      exact ByteArray.ext (by simp)
    have hrz : (s0.extract 0 f ++ x).size ≤ 1048576 := by rw [ByteArray.size_append, ByteArray.size_extract]; omega
    have d1 : decide (f ≤ s0.size) = true := by simp [q3]
    have q4 : f + x.size ≤ 9223372036854775807 := by omega
    have hry := replace_yes r0 s0 x f s0.size w1 hR1 q3 (Nat.le_refl _) (by omega)
    rw [hrep] at hry
    go_wp2_with fail
    refine hry.mono ?_
    clear hry
    rintro e w2 ⟨q, rfl, hq0, hQ, hb2⟩
    have hp : P (s0.extract 0 f ++ x) q w2 := by rw [hP]; exact ⟨hT1.below hb2, hrz, hQ, hb1.trans (hb2.mono hb1.size)⟩
    have Hp := Lib.hid hp
    clear hp hrep hrz d1 hQ
    go_wp2_with fail
    generalize s0.extract 0 f ++ x = s at *
    obtain ⟨r, hr⟩ : ∃ r, r = q := ⟨_, rfl⟩
    subst hr
    obtain ⟨wr, hwr⟩ : ∃ wr, wr = w2 := ⟨_, rfl⟩
    subst hwr
    have HP := Hp.out
    rw [hP] at HP
    obtain ⟨hTr, hsz, hR, hb⟩ := HP
    clear hb2 hR1 hb1 hT1 hT hP Hp
    refine (place_walk r s at_ _ hTr hR (by omega)).mono ?_
    rintro e w2 ⟨n, k, u, j, rfl, hPl, hb2⟩
    have HPl := Lib.hid hPl
    clear hPl
    have hb02 := hb.trans (hb2.mono hb.size)
    have hR2 := hR.below hb2
    have hT2 := hTr.below hb2
    go_wp2_with fail
    have hV := Blk.new w2 25 #[.int .i64 n, .int .i64 k, .int .i64 u]
    have hb3 : Below w2.heap.size w2 (w2.alloc (.cells #[.int .i64 n, .int .i64 k, .int .i64 u] 25)) := (Below.refl _ _).alloc (Nat.le_refl _) _
    have hR3 := hR2.below hb3
    have hT3 := hT2.below hb3
    have hb03 := hb02.trans (hb3.mono hb02.size)
    clear hb3 hb2 hR2 hT2 hb02
    generalize w2.alloc (.cells #[.int .i64 n, .int .i64 k, .int .i64 u] 25) = w3 at *
    generalize w2.heap.size = vb at *
    have v0 := hV.cell 0
    have v1 := hV.cell 1
    have v2 := hV.cell 2
    simp at v0 v1 v2
    refine (rplace_walk s at_ _ (by omega)).mono ?_
    rintro e w' ⟨n2, k2, u2, j2, rfl, hPl2, rfl⟩
    obtain ⟨rfl, rfl, rfl⟩ := HPl.out.uniq hPl2
    clear hPl2 HPl
    go_wp2_with fail
    refine (atU_walk r s line unit _ hR3 (by omega)).mono ?_
    rintro e w4 ⟨x1, rfl, hx1, hb4⟩
    rw [HN.out] at hx1
    have Hx1 := Lib.hid hx1
    clear hx1 v0 v1 v2 hV
    have hR4 := hR3.below hb4
    have hT4 := hT3.below hb4
    have hb04 := hb03.trans (hb4.mono hb03.size)
    go_wp2_with fail
    refine (atR_walk r s line unit _ hR4 (by omega)).mono ?_
    rintro e w5 ⟨x2, rfl, hx2, hb5⟩
    rw [HN.out] at hx2
    have Hx2 := Lib.hid hx2
    clear hx2
    have hR5 := hR4.below hb5
    have hT5 := hT4.below hb5
    have hb05 := hb04.trans (hb5.mono hb04.size)
    clear hb4 hb5 hR3 hR4 hT3 hT4 hb03 hb04
    have hfi1 := rfind_walk s line N false w5 (by omega) hNb
    have hfi2 := rfind_walk s line N true w5 (by omega) hNb
    rcases HNu.out with ⟨hu1, hu2⟩ | hu1
    all_goals
      first | subst hu2 | subst hu1
      go_wp2_with fail
      refine hfi1.mono ?_
      clear hfi1
      rintro e w' ⟨y1, rfl, hy1, rfl⟩
      obtain rfl := Hx1.out.uniq hy1
      clear hy1
      go_wp2_with fail
      refine hfi2.mono ?_
      clear hfi2
      rintro e w' ⟨y2, rfl, hy2, rfl⟩
      obtain rfl := Hx2.out.uniq hy2
      clear hy2 Hx1 Hx2
      have hat : (at_ < 0 ∨ (s.size : Int) ≤ at_) ∨ (0 ≤ at_ ∧ at_ < s.size) := by omega
      rcases hat with hat | ⟨ha1, ha2⟩
      · go_wp2_with fail
        refine (rune_no r s at_ _ hR5 hat).mono ?_
        rintro e w6 ⟨rfl, hb6⟩
        have hb06 := hb05.trans (hb6.mono hb05.size)
        rcases hat with hat | hat
        · go_wp2_with fail
          go_ret
          exact ⟨rfl, hb06⟩
        · by_cases hat0 : at_ < 0
          · go_wp2_with fail
            go_ret
            exact ⟨rfl, hb06⟩
          · have dx : decide (at_ < 0) = false := by simp; omega
            go_wp2_with fail
            go_ret
            exact ⟨rfl, hb06⟩
      · obtain ⟨i, rfl⟩ := Int.eq_ofNat_of_zero_le ha1
        have hi : i < s.size := by omega
        have dx : decide ((i : Int) < 0) = false := by simp
        have dy : decide (s.size ≤ i) = false := by simp; omega
        have hil : i ≤ s.size := by omega
        have hcl := cAt_le s.data.toList i
        have hry1 := rune_yes r s i _ hT5 hR5 hi
        have hry2 := fun w => rruneAt_walk s i hi w
        have HY2 := Lib.hid hry2
        clear hry2
        generalize cAt s.data.toList i = c at *
        generalize sAt s.data.toList i = z at *
        go_wp2_with fail
        refine hry1.mono ?_
        clear hry1
        rintro e w6 ⟨rfl, hb6⟩
        have hb06 := hb05.trans (hb6.mono hb05.size)
        go_wp2_with fail
        refine (HY2.out _).mono ?_
        rintro e w' ⟨rfl, rfl⟩
        go_wp2_with fail
        go_ret
        exact ⟨by simp, hb06⟩
  · have hR := hR1
    have hTr := hT1
    have hb := hb1
    have hsz : s0.size ≤ 1048576 := by omega
    clear hP hb1 hR1 hT1 hT
    go_wp2_with fail
    refine (place_walk r0 s0 at_ _ hTr hR (by omega)).mono ?_
    rintro e w2 ⟨n, k, u, j, rfl, hPl, hb2⟩
    have HPl := Lib.hid hPl
    clear hPl
    have hb02 := hb.trans (hb2.mono hb.size)
    have hR2 := hR.below hb2
    have hT2 := hTr.below hb2
    go_wp2_with fail
    have hV := Blk.new w2 25 #[.int .i64 n, .int .i64 k, .int .i64 u]
    have hb3 : Below w2.heap.size w2 (w2.alloc (.cells #[.int .i64 n, .int .i64 k, .int .i64 u] 25)) := (Below.refl _ _).alloc (Nat.le_refl _) _
    have hR3 := hR2.below hb3
    have hT3 := hT2.below hb3
    have hb03 := hb02.trans (hb3.mono hb02.size)
    clear hb3 hb2 hR2 hT2 hb02
    generalize w2.alloc (.cells #[.int .i64 n, .int .i64 k, .int .i64 u] 25) = w3 at *
    generalize w2.heap.size = vb at *
    have v0 := hV.cell 0
    have v1 := hV.cell 1
    have v2 := hV.cell 2
    simp at v0 v1 v2
    refine (rplace_walk s0 at_ _ (by omega)).mono ?_
    rintro e w' ⟨n2, k2, u2, j2, rfl, hPl2, rfl⟩
    obtain ⟨rfl, rfl, rfl⟩ := HPl.out.uniq hPl2
    clear hPl2 HPl
    go_wp2_with fail
    refine (atU_walk r0 s0 line unit _ hR3 (by omega)).mono ?_
    rintro e w4 ⟨x1, rfl, hx1, hb4⟩
    rw [HN.out] at hx1
    have Hx1 := Lib.hid hx1
    clear hx1 v0 v1 v2 hV
    have hR4 := hR3.below hb4
    have hT4 := hT3.below hb4
    have hb04 := hb03.trans (hb4.mono hb03.size)
    go_wp2_with fail
    refine (atR_walk r0 s0 line unit _ hR4 (by omega)).mono ?_
    rintro e w5 ⟨x2, rfl, hx2, hb5⟩
    rw [HN.out] at hx2
    have Hx2 := Lib.hid hx2
    clear hx2
    have hR5 := hR4.below hb5
    have hT5 := hT4.below hb5
    have hb05 := hb04.trans (hb5.mono hb04.size)
    clear hb4 hb5 hR3 hR4 hT3 hT4 hb03 hb04
    have hfi1 := rfind_walk s0 line N false w5 (by omega) hNb
    have hfi2 := rfind_walk s0 line N true w5 (by omega) hNb
    rcases HNu.out with ⟨hu1, hu2⟩ | hu1
    all_goals
      first | subst hu2 | subst hu1
      go_wp2_with fail
      refine hfi1.mono ?_
      clear hfi1
      rintro e w' ⟨y1, rfl, hy1, rfl⟩
      obtain rfl := Hx1.out.uniq hy1
      clear hy1
      go_wp2_with fail
      refine hfi2.mono ?_
      clear hfi2
      rintro e w' ⟨y2, rfl, hy2, rfl⟩
      obtain rfl := Hx2.out.uniq hy2
      clear hy2 Hx1 Hx2
      have hat : (at_ < 0 ∨ (s0.size : Int) ≤ at_) ∨ (0 ≤ at_ ∧ at_ < s0.size) := by omega
      rcases hat with hat | ⟨ha1, ha2⟩
      · go_wp2_with fail
        refine (rune_no r0 s0 at_ _ hR5 hat).mono ?_
        rintro e w6 ⟨rfl, hb6⟩
        have hb06 := hb05.trans (hb6.mono hb05.size)
        rcases hat with hat | hat
        · go_wp2_with fail
          go_ret
          exact ⟨rfl, hb06⟩
        · by_cases hat0 : at_ < 0
          · go_wp2_with fail
            go_ret
            exact ⟨rfl, hb06⟩
          · have dx : decide (at_ < 0) = false := by simp; omega
            go_wp2_with fail
            go_ret
            exact ⟨rfl, hb06⟩
      · obtain ⟨i, rfl⟩ := Int.eq_ofNat_of_zero_le ha1
        have hi : i < s0.size := by omega
        have dx : decide ((i : Int) < 0) = false := by simp
        have dy : decide (s0.size ≤ i) = false := by simp; omega
        have hil : i ≤ s0.size := by omega
        have hcl := cAt_le s0.data.toList i
        have hry1 := rune_yes r0 s0 i _ hT5 hR5 hi
        have hry2 := fun w => rruneAt_walk s0 i hi w
        have HY2 := Lib.hid hry2
        clear hry2
        generalize cAt s0.data.toList i = c at *
        generalize sAt s0.data.toList i = z at *
        go_wp2_with fail
        refine hry1.mono ?_
        clear hry1
        rintro e w6 ⟨rfl, hb6⟩
        have hb06 := hb05.trans (hb6.mono hb05.size)
        go_wp2_with fail
        refine (HY2.out _).mono ?_
        rintro e w' ⟨rfl, rfl⟩
        go_wp2_with fail
        go_ret
        exact ⟨by simp, hb06⟩
  · have hR := hR1
    have hTr := hT1
    have hb := hb1
    have hsz : s0.size ≤ 1048576 := by omega
    have d1 : decide (0 ≤ from_) = false := by simp; omega
    clear hP hb1 hR1 hT1 hT
    go_wp2_with fail
    refine (place_walk r0 s0 at_ _ hTr hR (by omega)).mono ?_
    rintro e w2 ⟨n, k, u, j, rfl, hPl, hb2⟩
    have HPl := Lib.hid hPl
    clear hPl
    have hb02 := hb.trans (hb2.mono hb.size)
    have hR2 := hR.below hb2
    have hT2 := hTr.below hb2
    go_wp2_with fail
    have hV := Blk.new w2 25 #[.int .i64 n, .int .i64 k, .int .i64 u]
    have hb3 : Below w2.heap.size w2 (w2.alloc (.cells #[.int .i64 n, .int .i64 k, .int .i64 u] 25)) := (Below.refl _ _).alloc (Nat.le_refl _) _
    have hR3 := hR2.below hb3
    have hT3 := hT2.below hb3
    have hb03 := hb02.trans (hb3.mono hb02.size)
    clear hb3 hb2 hR2 hT2 hb02
    generalize w2.alloc (.cells #[.int .i64 n, .int .i64 k, .int .i64 u] 25) = w3 at *
    generalize w2.heap.size = vb at *
    have v0 := hV.cell 0
    have v1 := hV.cell 1
    have v2 := hV.cell 2
    simp at v0 v1 v2
    refine (rplace_walk s0 at_ _ (by omega)).mono ?_
    rintro e w' ⟨n2, k2, u2, j2, rfl, hPl2, rfl⟩
    obtain ⟨rfl, rfl, rfl⟩ := HPl.out.uniq hPl2
    clear hPl2 HPl
    go_wp2_with fail
    refine (atU_walk r0 s0 line unit _ hR3 (by omega)).mono ?_
    rintro e w4 ⟨x1, rfl, hx1, hb4⟩
    rw [HN.out] at hx1
    have Hx1 := Lib.hid hx1
    clear hx1 v0 v1 v2 hV
    have hR4 := hR3.below hb4
    have hT4 := hT3.below hb4
    have hb04 := hb03.trans (hb4.mono hb03.size)
    go_wp2_with fail
    refine (atR_walk r0 s0 line unit _ hR4 (by omega)).mono ?_
    rintro e w5 ⟨x2, rfl, hx2, hb5⟩
    rw [HN.out] at hx2
    have Hx2 := Lib.hid hx2
    clear hx2
    have hR5 := hR4.below hb5
    have hT5 := hT4.below hb5
    have hb05 := hb04.trans (hb5.mono hb04.size)
    clear hb4 hb5 hR3 hR4 hT3 hT4 hb03 hb04
    have hfi1 := rfind_walk s0 line N false w5 (by omega) hNb
    have hfi2 := rfind_walk s0 line N true w5 (by omega) hNb
    rcases HNu.out with ⟨hu1, hu2⟩ | hu1
    all_goals
      first | subst hu2 | subst hu1
      go_wp2_with fail
      refine hfi1.mono ?_
      clear hfi1
      rintro e w' ⟨y1, rfl, hy1, rfl⟩
      obtain rfl := Hx1.out.uniq hy1
      clear hy1
      go_wp2_with fail
      refine hfi2.mono ?_
      clear hfi2
      rintro e w' ⟨y2, rfl, hy2, rfl⟩
      obtain rfl := Hx2.out.uniq hy2
      clear hy2 Hx1 Hx2
      have hat : (at_ < 0 ∨ (s0.size : Int) ≤ at_) ∨ (0 ≤ at_ ∧ at_ < s0.size) := by omega
      rcases hat with hat | ⟨ha1, ha2⟩
      · go_wp2_with fail
        refine (rune_no r0 s0 at_ _ hR5 hat).mono ?_
        rintro e w6 ⟨rfl, hb6⟩
        have hb06 := hb05.trans (hb6.mono hb05.size)
        rcases hat with hat | hat
        · go_wp2_with fail
          go_ret
          exact ⟨rfl, hb06⟩
        · by_cases hat0 : at_ < 0
          · go_wp2_with fail
            go_ret
            exact ⟨rfl, hb06⟩
          · have dx : decide (at_ < 0) = false := by simp; omega
            go_wp2_with fail
            go_ret
            exact ⟨rfl, hb06⟩
      · obtain ⟨i, rfl⟩ := Int.eq_ofNat_of_zero_le ha1
        have hi : i < s0.size := by omega
        have dx : decide ((i : Int) < 0) = false := by simp
        have dy : decide (s0.size ≤ i) = false := by simp; omega
        have hil : i ≤ s0.size := by omega
        have hcl := cAt_le s0.data.toList i
        have hry1 := rune_yes r0 s0 i _ hT5 hR5 hi
        have hry2 := fun w => rruneAt_walk s0 i hi w
        have HY2 := Lib.hid hry2
        clear hry2
        generalize cAt s0.data.toList i = c at *
        generalize sAt s0.data.toList i = z at *
        go_wp2_with fail
        refine hry1.mono ?_
        clear hry1
        rintro e w6 ⟨rfl, hb6⟩
        have hb06 := hb05.trans (hb6.mono hb05.size)
        go_wp2_with fail
        refine (HY2.out _).mono ?_
        rintro e w' ⟨rfl, rfl⟩
        go_wp2_with fail
        go_ret
        exact ⟨by simp, hb06⟩
end Go.Proofs.YtffcfnnbdmihaaaDoor
