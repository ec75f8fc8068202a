/-
  WALKS of package wire's reader: escape.
-/
import Derived.Test.YtgpjcjnimheglaaGreatDoorND
namespace Go.Proofs.YtgpjcjnimheglaaGreatDoor
open Go.RowKit

namespace Jp
def simT : List UInt8 := [34, 92, 47, 8, 12, 10, 13, 9]
theorem ix_sim (b : UInt8) : match simP b with
    | some v => ∃ k : Nat, k < 8 ∧ Lib.indexByte [34, 92, 47, 98, 102, 110, 114, 116] b = k ∧ (simT.take (k + 1)).drop k = [v]
    | none => Lib.indexByte [34, 92, 47, 98, 102, 110, 114, 116] b = -1 := by
  have h : ∀ i : Fin 256, (match simP (UInt8.ofNat i.val) with
    | some v => decide (0 ≤ Lib.indexByte [34, 92, 47, 98, 102, 110, 114, 116] (UInt8.ofNat i.val)) && decide (Lib.indexByte [34, 92, 47, 98, 102, 110, 114, 116] (UInt8.ofNat i.val) < 8) && decide ((simT.take ((Lib.indexByte [34, 92, 47, 98, 102, 110, 114, 116] (UInt8.ofNat i.val)).toNat + 1)).drop (Lib.indexByte [34, 92, 47, 98, 102, 110, 114, 116] (UInt8.ofNat i.val)).toNat = [v])
    | none => decide (Lib.indexByte [34, 92, 47, 98, 102, 110, 114, 116] (UInt8.ofNat i.val) = -1)) = true := by decide +kernel
  have h1 := h ⟨b.toNat, b.toNat_lt⟩
  simp only [UInt8.ofNat_toNat] at h1
  generalize Lib.indexByte [34, 92, 47, 98, 102, 110, 114, 116] b = r at *
  cases hs : simP b with
  | none => rw [hs] at h1; exact of_decide_eq_true h1
  | some v =>
    rw [hs] at h1
    simp only [Bool.and_eq_true, decide_eq_true_eq] at h1
    obtain ⟨⟨h2, h3⟩, h4⟩ := h1
    exact ⟨r.toNat, by omega, by omega, h4⟩
end Jp

section
variable (g : Nat) (s : Bs) (i : Nat) (w : World)

set_option maxHeartbeats 2000000 in
set_option maxRecDepth 100000 in
theorem jesc_end (h : RdrAt w g s i) (hi : i + 1 = s.length) (hl : s.length ≤ 16777216) (R : Jp.Rs Bs) (hR : R = .bad i 3) :
    Calls Tryz.prog 125 #[.pointer (some ⟨g, 0, none⟩)] w (RsP g s w (fun b : Bs => .string ⟨b.toArray⟩) R) := by
  have c0 := h.c0
  have c1 := h.c1
  have HR := Lib.hid hR
  have d1 : ((i : Int) + 1 == (s.length : Int)) = true := by simp; omega
  have j1 : (i : Int) ≤ 16777216 := by omega
  clear hR hi
  go_enter Tryz.func125, Tryz.ntmps125
  go_wp2_with fail
  refine (fail_walk i 3 _).mono ?_
  rintro e w3 ⟨rfl, rfl⟩
  go_wp2_with fail
  exact ⟨rfl, RsP.bad HR.out (AftR.refl _ _)⟩

theorem esc_ix (hi : i + 1 < s.length) (w : World) : Calls Tryz.prog 93 #[.string ⟨#[34, 92, 47, 98, 102, 110, 114, 116]⟩, .int .u8 (((⟨s.toArray⟩ : ByteArray)[i + 1]'(by rw [mk_size]; exact hi)).toNat : Int)] w fun e w' => e = .returned (.int .i64 (Lib.indexByte [34, 92, 47, 98, 102, 110, 114, 116] s[i + 1])) ∧ w' = w := by
  have h1 := Tryz.strings_IndexByte ⟨#[34, 92, 47, 98, 102, 110, 114, 116]⟩ (s[i + 1].toNat : Int) w
  rw [u8_of] at h1
  exact h1

set_option maxHeartbeats 2000000 in
set_option maxRecDepth 100000 in
theorem jesc_sim (h : RdrAt w g s i) (hi : i + 1 < s.length) (hl : s.length ≤ 16777216) (v : UInt8) (hv : Jp.simP s[i + 1] = some v) (R : Jp.Rs Bs) (hR : R = .ok [v] (i + 2)) :
    Calls Tryz.prog 125 #[.pointer (some ⟨g, 0, none⟩)] w (RsP g s w (fun b : Bs => .string ⟨b.toArray⟩) R) := by
  have c0 := h.c0
  have c1 := h.c1
  have f1 := h.f1
  have HR := Lib.hid hR
  have hix := esc_ix s i hi
  have hsim := Jp.ix_sim s[i + 1]
  rw [hv] at hsim
  obtain ⟨k, hk8, hk, hkv⟩ := hsim
  rw [hk] at hix
  have hx := ext_str Jp.simT k (k + 1)
  rw [hkv] at hx
  have hx : Value.string ((⟨#[34, 92, 47, 8, 12, 10, 13, 9]⟩ : ByteArray).extract k (k + 1)) = .string ⟨#[v]⟩ := hx
  have d1 : ((i : Int) + 1 == (s.length : Int)) = false := by simp; omega
  have j1 : (0 : Int) ≤ (k : Int) := by omega
  have j2 : (k : Int) ≤ 8 := by omega
  have j3 : (k : Int) + 1 ≤ 8 := by omega
  have j4 : (0 : Int) ≤ (i : Int) + 1 := by omega
  have j5 : (i : Int) + 1 < (s.length : Int) := by omega
  have h2 := h.move (i + 2)
  have ha2 := (AftR.refl g w).set 1 (.int .i64 ((i + 2 : Nat) : Int))
  clear hR hv hk hkv
  go_enter Tryz.func125, Tryz.ntmps125
  go_wp2_with fail
  refine (hix _).mono ?_
  clear hix
  rintro e w3 ⟨rfl, rfl⟩
  go_wp2_with fail
  go_ret
  first
    | exact RsP.ok (val := fun b : Bs => Value.string ⟨b.toArray⟩) HR.out ha2 h2
    | (rw [hx]; exact RsP.ok (val := fun b : Bs => Value.string ⟨b.toArray⟩) HR.out ha2 h2)

set_option maxRecDepth 100000 in
theorem enc_str (c : Nat) : Value.string (Utf8.encode c) = .string ⟨(Lx.enc c).toArray⟩ := by
  unfold Lx.enc; rw [Lib.mk_data]

set_option maxHeartbeats 4000000 in
set_option maxRecDepth 100000 in
/-- what is no sign alone -/
theorem jesc_bad (h : RdrAt w g s i) (hi : i + 1 < s.length) (hl : s.length ≤ 16777216) (hv : Jp.simP s[i + 1] = none) (R : Jp.Rs Bs) (hR : R = .bad i 3)
    (hw : s[i + 1] ≠ 117 ∨ Jp.fourP s (i + 2) = none ∨ ∃ n, Jp.fourP s (i + 2) = some n ∧ 56320 ≤ n ∧ n ≤ 57343) :
    Calls Tryz.prog 125 #[.pointer (some ⟨g, 0, none⟩)] w (RsP g s w (fun b : Bs => .string ⟨b.toArray⟩) R) := by
  have c0 := h.c0
  have c1 := h.c1
  have hgl := h.lt
  have HR := Lib.hid hR
  have hix := esc_ix s i hi
  have hsim := Jp.ix_sim s[i + 1]
  rw [hv] at hsim
  rw [show Lib.indexByte [34, 92, 47, 98, 102, 110, 114, 116] s[i + 1] = -1 from hsim] at hix
  have hfo := jfour_walk g s i (i + 2) w h (by omega) hl
  have hbk : ((((⟨s.toArray⟩ : ByteArray)[i + 1]'(by rw [mk_size]; exact hi)).toNat : Int) == (117 : Int)) = decide (s[i + 1] = 117) := bk_eq s (i + 1) hi 117
  have d1 : ((i : Int) + 1 == (s.length : Int)) = false := by simp; omega
  have j4 : (0 : Int) ≤ (i : Int) + 1 := by omega
  have j5 : (i : Int) + 1 < (s.length : Int) := by omega
  have e2 : ((i + 2 : Nat) : Int) = (i : Int) + 2 := by omega
  rw [e2] at hfo
  clear hR hv hsim e2
  have hways : (decide (s[i + 1] = 117) = false) ∨ (decide (s[i + 1] = 117) = true ∧ Jp.fourP s (i + 2) = none) ∨ (decide (s[i + 1] = 117) = true ∧ ∃ n, Jp.fourP s (i + 2) = some n ∧ 56320 ≤ n ∧ n ≤ 57343) := by
    by_cases hc : s[i + 1] = 117
    · rcases hw with hw | hw | hw
      · exact absurd hc hw
      · exact .inr (.inl ⟨decide_eq_true hc, hw⟩)
      · exact .inr (.inr ⟨decide_eq_true hc, hw⟩)
    · exact .inl (decide_eq_false hc)
  clear hw
  generalize decide (s[i + 1] = 117) = q at *
  generalize Jp.fourP s (i + 2) = F at *
  rcases hways with rfl | ⟨rfl, rfl⟩ | ⟨rfl, n, rfl, n1, n2⟩
  · have hfv : ∃ a b, fourV F = .tuple #[.int .i32 a, .bool b] := by cases F <;> exact ⟨_, _, rfl⟩
    obtain ⟨a, b, hfv⟩ := hfv
    rw [hfv] at hfo
    clear hfv
    have hbn : ¬ (((⟨s.toArray⟩ : ByteArray)[i + 1]'(by rw [mk_size]; exact hi)).toNat : Int) = 117 := by simpa using hbk
    go_enter Tryz.func125, Tryz.ntmps125
    go_wp2_with fail
    refine (hix _).mono ?_
    clear hix
    rintro e w3 ⟨rfl, rfl⟩
    go_wp2_with fail
    refine hfo.mono ?_
    clear hfo
    rintro e w4 ⟨rfl, hb4⟩
    go_wp2_with fail
    refine (fail_walk i 3 _).mono ?_
    rintro e w3 ⟨rfl, rfl⟩
    go_wp2_with fail
    exact ⟨rfl, RsP.bad HR.out (AftR.of_below hb4 (Nat.le_of_lt hgl))⟩
  · unfold fourV at hfo
    have hbn : (((⟨s.toArray⟩ : ByteArray)[i + 1]'(by rw [mk_size]; exact hi)).toNat : Int) = 117 := by simpa using hbk
    simp only [hbn] at hix
    go_enter Tryz.func125, Tryz.ntmps125
    go_wp2_with fail
    refine (hix _).mono ?_
    clear hix
    rintro e w3 ⟨rfl, rfl⟩
    go_wp2_with fail
    refine hfo.mono ?_
    clear hfo
    rintro e w4 ⟨rfl, hb4⟩
    go_wp2_with fail
    refine (fail_walk i 3 _).mono ?_
    rintro e w3 ⟨rfl, rfl⟩
    go_wp2_with fail
    exact ⟨rfl, RsP.bad HR.out (AftR.of_below hb4 (Nat.le_of_lt hgl))⟩
  · unfold fourV at hfo
    have hbn : (((⟨s.toArray⟩ : ByteArray)[i + 1]'(by rw [mk_size]; exact hi)).toNat : Int) = 117 := by simpa using hbk
    simp only [hbn] at hix
    have d2 : decide ((56320 : Int) ≤ (n : Int)) = true := decide_eq_true (by omega)
    have d3 : decide ((n : Int) ≤ 57343) = true := decide_eq_true (by omega)
    clear n1 n2
    go_enter Tryz.func125, Tryz.ntmps125
    go_wp2_with fail
    refine (hix _).mono ?_
    clear hix
    rintro e w3 ⟨rfl, rfl⟩
    go_wp2_with fail
    refine hfo.mono ?_
    clear hfo
    rintro e w4 ⟨rfl, hb4⟩
    go_wp2_with fail
    refine (fail_walk i 3 _).mono ?_
    rintro e w3 ⟨rfl, rfl⟩
    go_wp2_with fail
    exact ⟨rfl, RsP.bad HR.out (AftR.of_below hb4 (Nat.le_of_lt hgl))⟩

set_option maxHeartbeats 4000000 in
set_option maxRecDepth 100000 in
/-- a character of one number -/
theorem jesc_one (h : RdrAt w g s i) (hi : i + 1 < s.length) (hl : s.length ≤ 16777216) (hv : Jp.simP s[i + 1] = none) (R : Jp.Rs Bs) (n : Nat) (hR : R = .ok (Lx.enc n) (i + 6))
    (hc : s[i + 1] = 117) (hF : Jp.fourP s (i + 2) = some n) (hn : n < 55296 ∨ 57343 < n) :
    Calls Tryz.prog 125 #[.pointer (some ⟨g, 0, none⟩)] w (RsP g s w (fun b : Bs => .string ⟨b.toArray⟩) R) := by
  have c0 := h.c0
  have c1 := h.c1
  have hgl := h.lt
  have HR := Lib.hid hR
  have hix := esc_ix s i hi
  have hsim := Jp.ix_sim s[i + 1]
  rw [hv] at hsim
  rw [show Lib.indexByte [34, 92, 47, 98, 102, 110, 114, 116] s[i + 1] = -1 from hsim] at hix
  have hfo := jfour_walk g s i (i + 2) w h (by omega) hl
  rw [hF] at hfo
  have hnl := Jp.four_lt hF
  have hbk : ((((⟨s.toArray⟩ : ByteArray)[i + 1]'(by rw [mk_size]; exact hi)).toNat : Int) == (117 : Int)) = decide (s[i + 1] = 117) := bk_eq s (i + 1) hi 117
  rw [decide_eq_true hc] at hbk
  have hbn : (((⟨s.toArray⟩ : ByteArray)[i + 1]'(by rw [mk_size]; exact hi)).toNat : Int) = 117 := by simpa using hbk
  simp only [hbn] at hix
  have d1 : ((i : Int) + 1 == (s.length : Int)) = false := by simp; omega
  have j4 : (0 : Int) ≤ (i : Int) + 1 := by omega
  have j5 : (i : Int) + 1 < (s.length : Int) := by omega
  have e2 : ((i + 2 : Nat) : Int) = (i : Int) + 2 := by omega
  rw [e2] at hfo
  have hst := enc_str n
  have Hst := Lib.hid hst
  have hnw : (decide ((56320 : Int) ≤ (n : Int)) = false ∧ decide ((n : Int) < 55296) = true) ∨ (decide ((56320 : Int) ≤ (n : Int)) = true ∧ decide ((n : Int) ≤ 57343) = false ∧ decide ((n : Int) < 55296) = false ∧ decide ((57343 : Int) < (n : Int)) = true) := by
    rcases hn with hn | hn
    · exact .inl ⟨decide_eq_false (by omega), decide_eq_true (by omega)⟩
    · exact .inr ⟨decide_eq_true (by omega), decide_eq_false (by omega), decide_eq_false (by omega), decide_eq_true (by omega)⟩
  clear hR hv hsim e2 hst hc hF hn hnl
  unfold fourV at hfo
  rcases hnw with ⟨d2, d3⟩ | ⟨d2, d3, d4, d5⟩
  all_goals
    go_enter Tryz.func125, Tryz.ntmps125
    go_wp2_with fail
    refine (hix _).mono ?_
    clear hix
    rintro e w3 ⟨rfl, rfl⟩
    go_wp2_with fail
    refine hfo.mono ?_
    clear hfo
    rintro e w4 ⟨rfl, hb4⟩
    have h4 := h.below hb4
    have ha4 := AftR.of_below hb4 (Nat.le_of_lt hgl)
    have c1 := h4.c1
    have f1 := h4.f1
    have h5 := h4.move (i + 6)
    have ha5 := ha4.set 1 (.int .i64 ((i + 6 : Nat) : Int))
    go_wp2_with fail
    go_ret
    have hfin := RsP.ok (val := fun b : Bs => Value.string ⟨b.toArray⟩) HR.out ha5 h5
    simp only [← Hst.out] at hfin
    exact hfin
end
end Go.Proofs.YtgpjcjnimheglaaGreatDoor
