/-
  WALKS of package wire's reader: escape, characters of two halves; all of it.
-/
import Derived.Test.YtgpjcjnimheglaaGreatDoorNE
namespace Go.Proofs.YtgpjcjnimheglaaGreatDoor
open Go.RowKit

namespace Jp
theorem pre_two (s : List UInt8) (k : Nat) : [(92 : UInt8), 117].isPrefixOf (s.drop k) = decide (s[k]? = some 92 ∧ s[k + 1]? = some 117) := by
  have e0 : (s.drop k)[0]? = s[k]? := by rw [List.getElem?_drop]; rfl
  have e1 : (s.drop k)[1]? = s[k + 1]? := by rw [List.getElem?_drop]
  rw [← e0, ← e1]
  generalize s.drop k = l
  match l with
  | [] => simp [List.isPrefixOf]
  | [a] => simp [List.isPrefixOf]
  | a :: b :: t =>
    have e : [(92 : UInt8), 117].isPrefixOf (a :: b :: t) = ((92 == a) && ((117 == b) && true)) := rfl
    have e2 : ((a :: b :: t)[0]? = some 92 ∧ (a :: b :: t)[1]? = some 117) ↔ (a = 92 ∧ b = 117) := by
      constructor
      · rintro ⟨h1, h2⟩; exact ⟨Option.some.inj h1, Option.some.inj h2⟩
      · rintro ⟨rfl, rfl⟩; exact ⟨rfl, rfl⟩
    rw [e, decide_eq_decide.2 e2]
    by_cases ha : a = 92
    · by_cases hb : b = 117
      · rw [decide_eq_true ⟨ha, hb⟩, ha, hb]; rfl
      · have h1 : ((117 : UInt8) == b) = false := by rw [beq_eq_false_iff_ne]; exact fun h => hb h.symm
        rw [h1, decide_eq_false (fun h => hb h.2)]; simp only [Bool.false_and, Bool.and_false]
    · have h1 : ((92 : UInt8) == a) = false := by rw [beq_eq_false_iff_ne]; exact fun h => ha h.symm
      rw [h1, decide_eq_false (fun h => ha h.1)]; simp only [Bool.false_and]
end Jp

section
variable (g : Nat) (s : Bs) (i : Nat) (w : World)
set_option maxHeartbeats 4000000 in
set_option maxRecDepth 100000 in
/-- a character of two numbers -/
theorem jesc_two (h : RdrAt w g s i) (hi : i + 1 < s.length) (hl : s.length ≤ 16777216) (hv : Jp.simP s[i + 1] = none) (R : Jp.Rs Bs) (n : Nat) (hR : R = Jp.lowP s i n)
    (hc : s[i + 1] = 117) (hF : Jp.fourP s (i + 2) = some n) (hn : 55296 ≤ n ∧ n < 56320) :
    Calls Tryz.prog 125 #[.pointer (some ⟨g, 0, none⟩)] w (RsP g s w (fun b : Bs => .string ⟨b.toArray⟩) R) := by
  have c0 := h.c0
  have c1 := h.c1
  have hgl := h.lt
  have hix := esc_ix s i hi
  have hsim := Jp.ix_sim s[i + 1]
  rw [hv] at hsim
  rw [show Lib.indexByte [34, 92, 47, 98, 102, 110, 114, 116] s[i + 1] = -1 from hsim] at hix
  have hfo := jfour_walk g s i (i + 2) w h (by omega) hl
  rw [hF] at hfo
  have hi6 := Jp.four_len hF
  have hbk : ((((⟨s.toArray⟩ : ByteArray)[i + 1]'(by rw [mk_size]; exact hi)).toNat : Int) == (117 : Int)) = decide (s[i + 1] = 117) := bk_eq s (i + 1) hi 117
  rw [decide_eq_true hc] at hbk
  have hbn : (((⟨s.toArray⟩ : ByteArray)[i + 1]'(by rw [mk_size]; exact hi)).toNat : Int) = 117 := by simpa using hbk
  simp only [hbn] at hix
  have d1 : ((i : Int) + 1 == (s.length : Int)) = false := by simp; omega
  have j4 : (0 : Int) ≤ (i : Int) + 1 := by omega
  have j5 : (i : Int) + 1 < (s.length : Int) := by omega
  have e2 : ((i + 2 : Nat) : Int) = (i : Int) + 2 := by omega
  rw [e2] at hfo
  have d2 : decide ((56320 : Int) ≤ (n : Int)) = false := decide_eq_false (by omega)
  have d3 : decide ((n : Int) < 55296) = false := decide_eq_false (by omega)
  have d4 : decide ((57343 : Int) < (n : Int)) = false := decide_eq_false (by omega)
  have hfour := fun w (h : RdrAt w g s (i + 6)) => jfour_walk g s (i + 6) (i + 8) w h (by omega) hl
  have hpre := fun w : World => pre_walk (s.drop (i + 6)) [92, 117] w
  rw [Jp.pre_two] at hpre
  have hxd := ext_drop s (i + 6)
  rw [← hxd] at hpre
  unfold Jp.lowP at hR
  have HR : Hid (R = if s[i + 6]? = some 92 ∧ s[i + 7]? = some 117 then (match Jp.fourP s (i + 8) with | some l => if 56320 ≤ l ∧ l ≤ 57343 then .ok (Lx.enc (65536 + (n - 55296) * 1024 + (l - 56320))) (i + 12) else .bad i 3 | none => .bad i 3) else .bad i 3) := hR
  have hlt2 : ∀ l, Jp.fourP s (i + 8) = some l → l < 65536 ∧ i + 8 + 4 ≤ s.length := fun l hl => ⟨Jp.four_lt hl, Jp.four_len hl⟩
  have Hlt2 := Lib.hid hlt2
  have Hn := Lib.hid hn
  have j6 : (0 : Int) ≤ (i : Int) + 6 := by omega
  have j7 : (i : Int) + 6 ≤ (s.length : Int) := by omega
  have j8 : (i : Int) ≤ 16777216 := by omega
  clear hR hv hsim e2 hc hF hn hlt2 hxd
  generalize hq : decide (s[i + 6]? = some 92 ∧ s[i + 6 + 1]? = some 117) = q at *
  have HQ : Hid (q = true → s[i + 6]? = some 92 ∧ s[i + 7]? = some 117) := fun h => of_decide_eq_true (hq.trans h)
  have HQn : Hid (q = false → ¬ (s[i + 6]? = some 92 ∧ s[i + 7]? = some 117)) := fun h => of_decide_eq_false (hq.trans h)
  clear hq
  generalize Jp.fourP s (i + 8) = F2 at *
  unfold fourV at hfo
  go_enter Tryz.func125, Tryz.ntmps125
  go_wp2_with fail
  refine (hix _).mono ?_
  clear hix
  rintro e w3 ⟨rfl, rfl⟩
  go_wp2_with fail
  refine hfo.mono ?_
  clear hfo
  rintro e w4 ⟨rfl, hb4⟩
  have h4 := h.below hb4
  have ha4 := AftR.of_below hb4 (Nat.le_of_lt hgl)
  have c1 := h4.c1
  have f1 := h4.f1
  have h5 := h4.move (i + 6)
  have ha5 := ha4.set 1 (.int .i64 ((i + 6 : Nat) : Int))
  have hfour2 := hfour _ h5
  have E6 : Hid ((i : Int) + 6 = ((i + 6 : Nat) : Int)) := by show _ = _; omega
  have E8 : Hid ((i : Int) + 6 + 2 = ((i + 8 : Nat) : Int)) := by show _ = _; omega
  clear hfour h4 ha4
  go_upto_region 15 with fail
  rw [E6.out]
  clear c1 f1
  generalize w4.setCell ⟨g, 1, none⟩ (.int .i64 ((i + 6 : Nat) : Int)) = w5 at *
  have c1 := h5.c1
  go_wp2_with fail
  first
    | rw [E8.out]
    | rw [show ((i + 6 : Nat) : Int) + 2 = ((i + 8 : Nat) : Int) by omega]
  refine hfour2.mono ?_
  clear hfour2
  rintro e w6 ⟨rfl, hb6⟩
  have h6 := h5.below hb6
  have ha6 := ha5.below hb6 (Nat.le_of_lt hgl)
  clear h5 ha5 hb6 c1
  have c0 := h6.c0
  have c1 := h6.c1
  have f1 := h6.f1
  have hpq : ∀ m, Calls Tryz.prog 108 #[.string ((⟨s.toArray⟩ : ByteArray).extract (i + 6) s.length), .string ⟨#[92, 117]⟩] (w6.drewN m) fun e w' => e = .returned (.bool q) ∧ w' = w6.drewN m := fun m => hpre (w6.drewN m)
  clear hpre
  cases F2 with
  | none =>
    have HB : Hid (R = .bad i 3) := by
      show _ = _
      rw [HR.out]
      split <;> rfl
    clear HR
    unfold fourV
    go_wp2_with fail
    go_quiet ((go_at_call 108; exact Calls.quiet_of_same (hpq _)))
    go_wp2_with fail
    refine (fail_walk i 3 _).mono ?_
    rintro e w3 ⟨rfl, rfl⟩
    go_wp2_with fail
    exact ⟨rfl, RsP.bad HB.out (ha6.drewN _)⟩
  | some l =>
    obtain ⟨hl1, hl2⟩ := Hlt2.out l rfl
    cases q with
    | false =>
      have HB : Hid (R = .bad i 3) := by
        show _ = _
        rw [HR.out, if_neg (HQn.out rfl)]
      clear HR hl1
      unfold fourV
      go_wp2_with fail
      go_quiet ((go_at_call 108; exact Calls.quiet_of_same (hpq _)))
      go_wp2_with fail
      refine (fail_walk i 3 _).mono ?_
      rintro e w3 ⟨rfl, rfl⟩
      go_wp2_with fail
      exact ⟨rfl, RsP.bad HB.out (ha6.drewN _)⟩
    | true =>
      have HR2 : Hid (R = if 56320 ≤ l ∧ l ≤ 57343 then .ok (Lx.enc (65536 + (n - 55296) * 1024 + (l - 56320))) (i + 12) else .bad i 3) := by
        show _ = _
        rw [HR.out, if_pos (HQ.out rfl)]
      clear HR
      have hways : (decide ((l : Int) < 56320) = true ∧ Hid (R = .bad i 3)) ∨ (decide ((l : Int) < 56320) = false ∧ decide ((57343 : Int) < (l : Int)) = true ∧ Hid (R = .bad i 3)) ∨ (decide ((l : Int) < 56320) = false ∧ decide ((57343 : Int) < (l : Int)) = false ∧ Hid (R = .ok (Lx.enc (65536 + (n - 55296) * 1024 + (l - 56320))) (i + 12)) ∧ Hid (56320 ≤ l ∧ l ≤ 57343)) := by
        by_cases g1 : l < 56320
        · exact .inl ⟨decide_eq_true (by omega), by show _ = _; rw [HR2.out, if_neg (by omega)]⟩
        · by_cases g2 : 57343 < l
          · exact .inr (.inl ⟨decide_eq_false (by omega), decide_eq_true (by omega), by show _ = _; rw [HR2.out, if_neg (by omega)]⟩)
          · exact .inr (.inr ⟨decide_eq_false (by omega), decide_eq_false (by omega), by show _ = _; rw [HR2.out, if_pos (by omega)], by show _ ∧ _; omega⟩)
      clear hl1 HR2
      unfold fourV
      rcases hways with ⟨g1, HB⟩ | ⟨g1, g2, HB⟩ | ⟨g1, g2, HB, HL⟩
      · go_wp2_with fail
        go_quiet ((go_at_call 108; exact Calls.quiet_of_same (hpq _)))
        go_wp2_with fail
        refine (fail_walk i 3 _).mono ?_
        rintro e w3 ⟨rfl, rfl⟩
        go_wp2_with fail
        exact ⟨rfl, RsP.bad HB.out (ha6.drewN _)⟩
      · go_wp2_with fail
        go_quiet ((go_at_call 108; exact Calls.quiet_of_same (hpq _)))
        go_wp2_with fail
        refine (fail_walk i 3 _).mono ?_
        rintro e w3 ⟨rfl, rfl⟩
        go_wp2_with fail
        exact ⟨rfl, RsP.bad HB.out (ha6.drewN _)⟩
      · go_wp2_with fail
        go_quiet ((go_at_call 108; exact Calls.quiet_of_same (hpq _)))
        go_upto_region 19 with fail
        have E12 : Hid ((i : Int) + 6 + 6 = ((i + 12 : Nat) : Int)) := by show _ = _; omega
        rw [E12.out]
        have h7 := (h6.drewN nq).move (i + 12)
        have ha7 := (ha6.drewN nq).set 1 (.int .i64 ((i + 12 : Nat) : Int))
        clear h6 ha6 hpq c0 c1 f1
        generalize (w6.drewN nq).setCell ⟨g, 1, none⟩ (.int .i64 ((i + 12 : Nat) : Int)) = w7 at *
        have b1 : decide ((55296 : Int) ≤ (n : Int)) = true := decide_eq_true (by have := Hn.out; omega)
        obtain ⟨a, ha⟩ : ∃ a : Nat, (n : Int) = 55296 + (a : Int) := ⟨n - 55296, by have := Hn.out; omega⟩
        obtain ⟨b, hb⟩ : ∃ b : Nat, (l : Int) = 56320 + (b : Int) := ⟨l - 56320, by have := HL.out; omega⟩
        have ha1 : (a : Int) < 1024 := by have := Hn.out; omega
        have hb1 : (b : Int) < 1024 := by have := HL.out; omega
        have hen : 65536 + (n - 55296) * 1024 + (l - 56320) = 65536 + a * 1024 + b := by have := Hn.out; have := HL.out; omega
        have HB2 : Hid (R = .ok (Lx.enc (65536 + a * 1024 + b)) (i + 12)) := by show _ = _; rw [← hen]; exact HB.out
        rw [ha, hb]
        clear HB hen Hn HL hl2 ha hb b1
        go_wp2_with fail
        have e9 : (65536 + (55296 + (a : Int) - 55296) * 1024 + (56320 + (b : Int)) - 56320) = ((65536 + a * 1024 + b : Nat) : Int) := by omega
        have hfin := RsP.ok (val := fun b : Bs => Value.string ⟨b.toArray⟩) HB2.out ha7 h7
        simp only [← enc_str] at hfin
        rw [← e9] at hfin
        go_ret
        exact hfin

/-- an escape -/
theorem jesc_walk (h : RdrAt w g s i) (hi : i < s.length) (hl : s.length ≤ 16777216) :
    Calls Tryz.prog 125 #[.pointer (some ⟨g, 0, none⟩)] w (RsP g s w (fun b : Bs => .string ⟨b.toArray⟩) (Jp.escP s i)) := by
  by_cases hi1 : i + 1 < s.length
  · have hg : s[i + 1]? = some s[i + 1] := List.getElem?_eq_getElem hi1
    cases hv : Jp.simP s[i + 1] with
    | some v =>
      exact jesc_sim g s i w h hi1 hl v hv _ (by unfold Jp.escP; rw [hg]; simp only [hv])
    | none =>
      by_cases hc : s[i + 1] = 117
      · have hE : Jp.escP s i = Jp.uniP s i := by
          unfold Jp.escP; rw [hg]; simp only [hv]; rw [if_pos hc]
        rw [hE]
        cases hF : Jp.fourP s (i + 2) with
        | none => exact jesc_bad g s i w h hi1 hl hv _ (by unfold Jp.uniP; rw [hF]) (.inr (.inl hF))
        | some n =>
          by_cases h1 : 56320 ≤ n ∧ n ≤ 57343
          · exact jesc_bad g s i w h hi1 hl hv _ (by unfold Jp.uniP; rw [hF]; simp only; rw [if_pos h1]) (.inr (.inr ⟨n, hF, h1⟩))
          · by_cases h2 : n < 55296 ∨ 57343 < n
            · exact jesc_one g s i w h hi1 hl hv _ n (by unfold Jp.uniP; rw [hF]; simp only; rw [if_neg h1, if_pos h2]) hc hF h2
            · exact jesc_two g s i w h hi1 hl hv _ n (by unfold Jp.uniP; rw [hF]; simp only; rw [if_neg h1, if_neg h2]) hc hF (by omega)
      · exact jesc_bad g s i w h hi1 hl hv _ (by unfold Jp.escP; rw [hg]; simp only [hv]; rw [if_neg hc]) (.inl hc)
  · exact jesc_end g s i w h (by omega) hl _ (by unfold Jp.escP; rw [List.getElem?_eq_none (by omega)])
end
end Go.Proofs.YtgpjcjnimheglaaGreatDoor
